/- A ledger's holds: the map of them read, changed, one struck out. -/
import Derived.Test.YtpkiiegadckloaaDoorPst
set_option linter.unusedSimpArgs false
set_option linter.unusedVariables false
namespace Go.Proofs.YtpkiiegadckloaaDoor
open Go.RowKit
open Go.ChangeMaps (setBlock)

section
variable {P : Program} {α : Type} [DecidableEq α]

/-- The map with a key struck out. -/
def del (a : α) (l : List (α × Value)) : List (α × Value) := match idx a l 0 with
  | some (j, _) => l.eraseIdx j
  | none => l
theorem del_length (a : α) (l : List (α × Value)) : (del a l).length ≤ l.length := by
  unfold del
  split
  · exact List.length_eraseIdx_le l _
  · exact Nat.le_refl _
theorem fnd_some {a : α} {v : Value} {l : List (α × Value)} (h : fnd l a = some v) : ∃ j, l[j]? = some (a, v) ∧ idx a l 0 = some (j, v) := by
  unfold fnd at h
  obtain ⟨⟨j, u⟩, hj, rfl⟩ := Option.map_eq_some_iff.1 h
  have := idx_some hj
  exact ⟨j, by simpa using this.2.1, hj⟩
theorem fnd_mem {a : α} {v : Value} {l : List (α × Value)} (h : fnd l a = some v) : (a, v) ∈ l := by
  obtain ⟨j, hj, _⟩ := fnd_some h
  exact List.mem_of_getElem? hj
theorem fnd_of_mem {a : α} {v : Value} {l : List (α × Value)} (hn : (l.map (·.1)).Nodup) (h : (a, v) ∈ l) : fnd l a = some v := by
  obtain ⟨j, hj⟩ := List.mem_iff_getElem?.1 h
  unfold fnd
  rw [idx_of_get hn hj 0]
  rfl
theorem fnd_none {a : α} {l : List (α × Value)} : fnd l a = none ↔ a ∉ l.map (·.1) := by
  induction l with
  | nil => simp [fnd, idx]
  | cons p r ih =>
    obtain ⟨b, v⟩ := p
    rw [fnd_cons]
    by_cases h : a = b
    · simp [h]
    · rw [if_neg h, ih]
      simp [h]
theorem del_sub (a : α) (l : List (α × Value)) : List.Sublist (del a l) l := by
  unfold del
  split
  · exact List.eraseIdx_sublist l _
  · exact List.Sublist.refl _
theorem fnd_del {a : α} {l : List (α × Value)} (hn : (l.map (·.1)).Nodup) (b : α) : fnd (del a l) b = if b = a then none else fnd l b := by
  have hn2 : ((del a l).map (·.1)).Nodup := hn.sublist ((del_sub a l).map _)
  by_cases hb : b = a
  · subst hb
    rw [if_pos rfl, fnd_none]
    unfold del
    split
    · rename_i j u hi
      intro hm
      obtain ⟨p, hp, he⟩ := List.mem_map.1 hm
      obtain ⟨i, hi2⟩ := List.mem_iff_getElem?.1 hp
      have h1 := (idx_some hi).2.1
      rw [Nat.sub_zero] at h1
      rw [List.getElem?_eraseIdx] at hi2
      have e1 : (l.map (·.1))[j]? = some b := by rw [List.getElem?_map, h1]; rfl
      split at hi2
      · rename_i hij
        have e2 : (l.map (·.1))[i]? = some b := by rw [List.getElem?_map, hi2, ← he]; rfl
        have := nodup_get hn e1 e2
        omega
      · rename_i hij
        have e2 : (l.map (·.1))[i + 1]? = some b := by rw [List.getElem?_map, hi2, ← he]; rfl
        have := nodup_get hn e1 e2
        omega
    · rename_i hi
      rw [← fnd_none]
      unfold fnd
      rw [hi]
      rfl
  · rw [if_neg hb]
    cases h : fnd l b with
    | none =>
      rw [fnd_none] at h ⊢
      exact fun hm => h (((del_sub a l).map _).subset hm)
    | some v =>
      refine fnd_of_mem hn2 ?_
      have hm := fnd_mem h
      unfold del
      split
      · rename_i j u hi
        have h1 := (idx_some hi).2.1
        rw [Nat.sub_zero] at h1
        obtain ⟨i, hi2⟩ := List.mem_iff_getElem?.1 hm
        have hij : i ≠ j := fun e => by
          rw [e, h1] at hi2
          exact hb (Prod.mk.inj (Option.some.inj hi2)).1.symm
        rw [List.mem_iff_getElem?]
        by_cases hlt : i < j
        · exact ⟨i, by rw [List.getElem?_eraseIdx, if_pos hlt]; exact hi2⟩
        · exact ⟨i - 1, by rw [List.getElem?_eraseIdx, if_neg (by omega), show i - 1 + 1 = i by omega]; exact hi2⟩
      · exact hm

variable {enc : α → Value} {w : World} {m : Nat} {l : List (α × Value)} {T K E : TypeId}
omit [DecidableEq α] in
theorem MapAt.nodup (h : MapAt enc w m l) : (l.map (·.1)).Nodup := by
  obtain ⟨es, c, h⟩ := h
  exact h.keys
theorem run_del (L : KL P K enc) (h : MapAt enc w m l) (ht : P.underlying T = some (.map K E)) (a : α) (ty : TypeId) :
    ∃ w', (Builtin.delete_ #[T, K] ty #[.map (some m), enc a]).run P w = .ok (.tuple #[]) w' ∧ MapAt enc w' m (del a l) ∧ w.grownBy w' (some m) ∧ w'.heap.size = w.heap.size := by
  have hlt := h.lt
  obtain ⟨es, clock, h⟩ := h
  have hf := L.find w a l es.toList h.ents
  cases hi : idx a l 0 with
  | none =>
    rw [hi] at hf
    refine ⟨setBlock w m (.map es clock), ?_, ⟨_, _, ⟨set_heap w m _ hlt, ?_, h.born, h.nodup, ?_⟩⟩, grown_set w m _, by simp [setBlock]⟩
    · simp [Builtin.delete_, run_underlying ht, MapKept.run_getObj_map h.blk, L.check, hf, MapKept.run_setObj_map _ h.blk, Result.andThen, setBlock]
    · unfold del; rw [hi]; exact h.ents
    · unfold del; rw [hi]; exact h.keys
  | some p =>
    obtain ⟨j, u⟩ := p
    rw [hi] at hf
    refine ⟨setBlock w m (.map (es.eraseIdxIfInBounds j) clock), ?_, ⟨_, _, ⟨set_heap w m _ hlt, ?_, ?_, ?_, ?_⟩⟩, grown_set w m _, by simp [setBlock]⟩
    · simp [Builtin.delete_, run_underlying ht, MapKept.run_getObj_map h.blk, L.check, hf, MapKept.run_setObj_map _ h.blk, Result.andThen, setBlock]
    · unfold del
      rw [hi]
      have h1 := (idx_some hi).2.1
      rw [Nat.sub_zero] at h1
      have hjl : j < es.size := by
        have := congrArg List.length h.ents
        have := (List.getElem?_eq_some_iff.1 h1).1
        simp at *
        omega
      have : (es.eraseIdxIfInBounds j).toList = es.toList.eraseIdx j := by
        unfold Array.eraseIdxIfInBounds
        rw [dif_pos hjl, Array.toList_eraseIdx]
      rw [this]
      apply List.ext_getElem?
      intro i
      have he := fun n : Nat => congrArg (fun t : List (Value × Value) => t[n]?) h.ents
      simp only [List.getElem?_map] at he
      simp only [List.getElem?_map, List.getElem?_eraseIdx]
      split
      · exact he i
      · exact he (i + 1)
    · intro e he
      have hs : List.Sublist (es.eraseIdxIfInBounds j).toList es.toList := by
        unfold Array.eraseIdxIfInBounds
        split
        · rw [Array.toList_eraseIdx]; exact List.eraseIdx_sublist _ _
        · exact List.Sublist.refl _
      exact h.born e (hs.subset he)
    · have hs : List.Sublist (es.eraseIdxIfInBounds j).toList es.toList := by
        unfold Array.eraseIdxIfInBounds
        split
        · rw [Array.toList_eraseIdx]; exact List.eraseIdx_sublist _ _
        · exact List.Sublist.refl _
      exact h.nodup.sublist (hs.map _)
    · exact h.keys.sublist ((del_sub a l).map _)
end

/-- The holds' map has changed. -/
theorem LedX.setH {w w' : World} {g : Nat} {ow : ByteArray} {ma mh : Nat} {v : Value} {pl : List (Pst × Value)} {la : List (Key × Value)} {hl hl' : List (ByteArray × Value)} {S : Nat → Prop} (h : LedX w g ow ma mh v pl la hl S) (hm : MapAt es w' mh hl') (hg : w.grownBy w' (some mh)) :
    LedX w' g ow ma mh v pl la hl' S := by
  obtain ⟨ems, clock, hx⟩ := h.hld
  have hx := hx.blk
  have hgm : g ≠ mh := fun e => by have := h.blk; rw [e, hx] at this; cases this
  refine ⟨(hg.block g (h.lt _ h.sg) (fun e => hgm (Option.some.inj e))).trans h.blk, h.acc.keep (hg.block ma (h.lt _ h.sa) (fun e => h.ne (Option.some.inj e))), hm, h.ne, h.row.kept hg ?_, fun p hp => (h.ent p hp).kept hg ?_, h.sg, h.sa, h.sh, h.sv, h.se, (fun k hk => Nat.lt_of_lt_of_le (h.lt k hk) hg.size), h.nz⟩
  · cases hv : v.ownBlock with
    | none => exact Or.inl rfl
    | some b =>
      refine Or.inr (fun e => ?_)
      obtain rfl := Option.some.inj e
      rcases h.row.2 with ⟨rfl, _⟩ | ⟨b', cap, cur, rfl, _, hb, _⟩
      · cases hv
      · cases hv; rw [hx] at hb; cases hb
  · cases hv : p.2.ownBlock with
    | none => exact Or.inl rfl
    | some b =>
      refine Or.inr (fun e => ?_)
      obtain rfl := Option.some.inj e
      rcases (h.ent p hp).2 with ⟨h2, _⟩ | ⟨b', cap, cur, h2, _, hb, _⟩
      · rw [h2] at hv; cases hv
      · rw [h2] at hv; cases hv; rw [hx] at hb; cases hb

section
variable {w : World} {g : Nat} {ow : ByteArray} {ma mh : Nat} {v : Value} {pl : List (Pst × Value)} {na : Nat} {A : Key → Option Acc} {hl : List (ByteArray × Value)} {S : Nat → Prop}
theorem LedB.sh (h : LedB w g ow ma mh v pl na A hl S) : S mh := by
  obtain ⟨la, h, h3⟩ := h
  exact h.sh
theorem LedB.hmap (h : LedB w g ow ma mh v pl na A hl S) : MapAt es w mh hl := by
  obtain ⟨la, h, h3⟩ := h
  exact h.hld
theorem zero79 (w : World) : (zeroValue 79).run Tryd.prog w = .ok (.agg #[.string ⟨#[]⟩, .string ⟨#[]⟩, .string ⟨#[]⟩, .int .i64 0]) w := by
  simp only [Tryd.zeroValue79]
/-- A hold is laid. -/
theorem LedB.hput (h : LedB w g ow ma mh v pl na A hl S) (k : ByteArray) (u : Value) :
    ∃ w', (Instr.mapUpdate 68 (.map (some mh)) (.string k) u).run Tryd.prog w = .ok () w' ∧ LedB w' g ow ma mh v pl na A (put k u hl) S ∧ w.grownBy w' (some mh) ∧ w'.heap.size = w.heap.size := by
  obtain ⟨la, h, h3⟩ := h
  obtain ⟨w', hr, hm, hg, hs⟩ := run_put klStr h.hld (T := 68) (E := 79) Tryd.underlying68 k u
  exact ⟨w', hr, ⟨la, h.setH hm hg, h3⟩, hg, hs⟩
/-- A hold is struck out. -/
theorem LedB.hdel (h : LedB w g ow ma mh v pl na A hl S) (k : ByteArray) (ty : TypeId) :
    ∃ w', (Builtin.delete_ #[68, 9] ty #[.map (some mh), .string k]).run Tryd.prog w = .ok (.tuple #[]) w' ∧ LedB w' g ow ma mh v pl na A (del k hl) S ∧ w.grownBy w' (some mh) ∧ w'.heap.size = w.heap.size := by
  obtain ⟨la, h, h3⟩ := h
  obtain ⟨w', hr, hm, hg, hs⟩ := run_del klStr h.hld (T := 68) (E := 79) Tryd.underlying68 k ty
  exact ⟨w', hr, ⟨la, h.setH hm hg, h3⟩, hg, hs⟩
theorem LedB.hlook (h : LedB w g ow ma mh v pl na A hl S) (k : ByteArray) (c : Bool) :
    (Instr.lookup 68 (.map (some mh)) (.string k) c).run Tryd.prog w = .ok (if c then .tuple #[(fnd hl k).getD (.agg #[.string ⟨#[]⟩, .string ⟨#[]⟩, .string ⟨#[]⟩, .int .i64 0]), .bool (fnd hl k).isSome] else (fnd hl k).getD (.agg #[.string ⟨#[]⟩, .string ⟨#[]⟩, .string ⟨#[]⟩, .int .i64 0])) w := by
  have := run_look (c := c) klStr h.hmap (T := 68) Tryd.underlying68 (zero79 w) k
  rw [look_fnd, isin_fnd] at this
  exact this
end
end Go.Proofs.YtpkiiegadckloaaDoor
