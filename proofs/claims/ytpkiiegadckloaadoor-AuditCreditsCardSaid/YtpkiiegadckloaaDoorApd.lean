/- A post is appended to a ledger's posts. -/
import Derived.Test.YtpkiiegadckloaaDoorLdb
set_option linter.unusedSimpArgs false
set_option linter.unusedVariables false
namespace Go.Proofs.YtpkiiegadckloaaDoor
open Go.RowKit

theorem owns_one {w : World} {base : Nat} {e : TypeId} {size : Nat} {v : Value} {n : Nat} {xs : List Value} (h : w.ownsRow base e size v n xs) : v.oneCell' = true := by
  rcases h.2 with ⟨rfl, _⟩ | ⟨g, cap, cur, rfl, _⟩ <;> rfl
theorem owns_base0 {w : World} {base : Nat} {e : TypeId} {size : Nat} {v : Value} {n : Nat} {xs : List Value} (h : w.ownsRow base e size v n xs) : w.ownsRow 0 e size v n xs := by
  refine ⟨h.1, ?_⟩
  rcases h.2 with hn | ⟨g, cap, cur, rfl, hb', rest⟩
  · exact .inl hn
  · exact .inr ⟨g, cap, cur, rfl, Nat.zero_le _, rest⟩
/-- A row lies where its block lies still. -/
theorem owns_at {w w' : World} {base : Nat} {e : TypeId} {size : Nat} {v : Value} {n : Nat} {xs : List Value} (h : w.ownsRow base e size v n xs) (hb : ∀ b cs, v.ownBlock = some b → w.heap[b]? = some (.cells cs e (0, 0)) → w'.heap[b]? = w.heap[b]?) : w'.ownsRow base e size v n xs := by
  refine ⟨h.1, ?_⟩
  rcases h.2 with hn | ⟨g, cap, cur, rfl, hg, hgg, rest⟩
  · exact .inl hn
  · exact .inr ⟨g, cap, cur, rfl, hg, (hb g cur rfl hgg).trans hgg, rest⟩

theorem post_append {w : World} {g : Nat} {ow : ByteArray} {ma mh : Nat} {v : Value} {pl : List (Pst × Value)} {na : Nat} {A : Key → Option Acc} {hl : List (ByteArray × Value)} {S : Nat → Prop} (h : LedB w g ow ma mh v pl na A hl S)
    (p : Pst) (qe m ce base : Nat) (he : w.ownsRow base 57 3 (.slice (some ⟨qe, 0, none⟩) m ce) p.ents.length (eflat p.ents)) (hlen : pl.length ≤ 100000) :
    ∃ gp cap w9, (Builtin.append_ #[30, 30] 30 #[v, .slice (some ⟨w.heap.size, 0, none⟩) 1 1]).run Tryd.prog (w.alloc (.cells #[.int .i64 p.num, .string p.text, .slice (some ⟨qe, 0, none⟩) m ce] 89)).drew = .ok (.slice (some ⟨gp, 0, none⟩) (pl.length + 1) cap) w9 ∧
      w9.heap[g]? = w.heap[g]? ∧ (∀ k, k < w.heap.size → ¬ S k → w9.heap[k]? = w.heap[k]?) ∧
      LedB (w9.setCell ⟨g, 2, none⟩ (.slice (some ⟨gp, 0, none⟩) (pl.length + 1) cap)) g ow ma mh (.slice (some ⟨gp, 0, none⟩) (pl.length + 1) cap) (pl ++ [(p, .slice (some ⟨qe, 0, none⟩) m ce)]) na A hl (fun k => S k ∨ k = qe ∨ k = gp) ∧
      Chg S w (w9.setCell ⟨g, 2, none⟩ (.slice (some ⟨gp, 0, none⟩) (pl.length + 1) cap)) ∧ (S gp ∨ w.heap.size ≤ gp) := by
  obtain ⟨la, h, h3, h4⟩ := h
  obtain ⟨W1, hW1⟩ : ∃ W1, W1 = (w.alloc (.cells #[.int .i64 p.num, .string p.text, .slice (some ⟨qe, 0, none⟩) m ce] 89)).drew := ⟨_, rfl⟩
  have hB1 : Below w.heap.size w W1 := hW1 ▸ (below_new _ _).drew
  have hs1 : W1.heap.size = w.heap.size + 1 := by rw [hW1]; show (w.heap.push _).size = _; simp
  have hr1 : W1.heap[w.heap.size]? = some (.cells #[.int .i64 p.num, .string p.text, .slice (some ⟨qe, 0, none⟩) m ce] 89 (0, 0)) := hW1 ▸ heap_alloc_new _ _
  obtain ⟨i0, hi0, hz0, hz1, hz2⟩ := info_parts info89
  obtain ⟨gp, cap, w9, hrun, ho9, hg9, hgp, hgl⟩ := run_append_lies (P := Tryd.prog) W1 30 30 0 89 i0 _ 3 48 Tryd.underlying30 hi0 hz0 hz1 hz2 rfl (by omega) v pl.length (pflat pl) (owns_keep h.row hB1) ⟨w.heap.size, 0, none⟩ 1 1
    (pflat [(p, .slice (some ⟨qe, 0, none⟩) m ce)]) rfl (fun j u hu => by
      rw [Addr.add_mid, Nat.zero_add, cell_of_row W1 _ j _ _ _ hr1]
      simpa [pflat] using hu) (pflat_one _ (fun q hq => by
      simp only [List.mem_singleton] at hq
      rw [hq]
      rfl)) (by omega) (by unfold maxLen; omega) (by omega) (Nat.zero_le _) _ rfl
  obtain ⟨v', hv'⟩ : ∃ v', v' = Value.slice (some ⟨gp, 0, none⟩) (pl.length + 1) cap := ⟨_, rfl⟩
  rw [← hW1]
  have hvtag : ∀ b, v.ownBlock = some b → ∃ cs, w.heap[b]? = some (.cells cs 89 (0, 0)) := by
    intro b hb
    rcases h.row.2 with ⟨rfl, _⟩ | ⟨b', cap', cur, rfl, _, hb', _⟩
    · cases hb
    · cases hb; exact ⟨_, hb'⟩
  have hkeep : ∀ k, k < w.heap.size → v.ownBlock ≠ some k → w9.heap[k]? = w.heap[k]? := fun k hk hne => (hg9.block k (by omega) (fun e => hne e.symm)).trans (hB1.block k hk)
  have htag : ∀ (k : Nat) (o : Obj), w.heap[k]? = some o → (∀ cs, o ≠ Obj.cells cs 89 (0, 0)) → w9.heap[k]? = w.heap[k]? := by
    intro k o hk hne
    refine hkeep k (Array.getElem?_eq_some_iff.1 hk).1 (fun e => ?_)
    obtain ⟨cs, hcs⟩ := hvtag k e
    rw [hk] at hcs
    exact hne cs (Option.some.inj hcs)
  have hgS : w9.heap[g]? = w.heap[g]? := htag g _ h.blk (fun cs e => by cases e)
  have hgb : w9.heap[g]? = some (.cells (ledC ow ma v mh) 70 (0, 0)) := hgS.trans h.blk
  have hset : ∀ k, k ≠ g → (w9.setCell ⟨g, 2, none⟩ v').heap[k]? = w9.heap[k]? := fun k hk => heap_setCell_other w9 ⟨g, 2, none⟩ k v' (fun e => hk e)
  have hall : ∀ (k : Nat) (o : Obj), w.heap[k]? = some o → (∀ cs, o ≠ Obj.cells cs 89 (0, 0)) → (∀ cs, o ≠ Obj.cells cs 70 (0, 0)) → (w9.setCell ⟨g, 2, none⟩ v').heap[k]? = w.heap[k]? := by
    intro k o hk h1 h2
    rw [hset k (fun e => by subst e; rw [h.blk] at hk; exact h2 _ (Option.some.inj hk).symm)]
    exact htag k o hk h1
  obtain ⟨eA, cA, hmA⟩ := h.acc
  obtain ⟨eH, cH, hmH⟩ := h.hld
  have hsz : w.heap.size ≤ (w9.setCell ⟨g, 2, none⟩ v').heap.size := by
    rw [show (w9.setCell ⟨g, 2, none⟩ v').heap.size = w9.heap.size by simp]
    exact Nat.le_trans hB1.size hg9.size
  have hgpS : S gp ∨ w.heap.size ≤ gp := by
    rcases hgp with e | e
    · exact Or.inl (h.sv gp e)
    · exact Or.inr (by rw [e]; exact hB1.size)
  refine ⟨gp, cap, w9, hrun, hgS, fun k hk hs => hkeep k hk (fun e => hs (h.sv k e)), ?_, ?_, hgpS⟩
  · rw [← hv']
    refine ⟨la, ⟨?_, h.acc.keep (hall ma _ hmA.blk (fun _ e => by cases e) (fun _ e => by cases e)), h.hld.keep (hall mh _ hmH.blk (fun _ e => by cases e) (fun _ e => by cases e)), h.ne, ?_, ?_, Or.inl h.sg, Or.inl h.sa, Or.inl h.sh, ?_, ?_, ?_, (fun e => by simp at e)⟩, h3, h4⟩
    · exact heap_setCell_same w9 g 2 _ _ v' hgb
    · rw [pflat_app, List.length_append, hv']
      refine owns_at ho9 (fun b cs hb hcs => ?_)
      rw [← hv'] at hb ⊢
      refine hset b (fun e => ?_)
      subst e
      rw [hgb] at hcs
      cases hcs
    · intro q hq
      rcases List.mem_append.1 hq with hq | hq
      · exact owns_at (h.ent q hq) (fun b cs hb hcs => hall b _ hcs (fun _ e => by cases e) (fun _ e => by cases e))
      · simp only [List.mem_singleton] at hq
        subst hq
        exact owns_at (owns_base0 he) (fun b cs hb hcs => hall b _ hcs (fun _ e => by cases e) (fun _ e => by cases e))
    · intro b hb
      rw [hv'] at hb
      cases hb
      exact Or.inr (Or.inr rfl)
    · intro q hq b hb
      rcases List.mem_append.1 hq with hq | hq
      · exact Or.inl (h.se q hq b hb)
      · simp only [List.mem_singleton] at hq
        subst hq
        cases hb
        exact Or.inr (Or.inl rfl)
    · intro k hk
      rcases hk with hk | rfl | rfl
      · exact Nat.lt_of_lt_of_le (h.lt k hk) hsz
      · exact Nat.lt_of_lt_of_le (owns_lt he k rfl) hsz
      · rw [show (w9.setCell ⟨g, 2, none⟩ v').heap.size = w9.heap.size by simp]
        exact hgl
  · rw [← hv']
    refine ⟨hg9.os.trans hB1.os, hg9.tape.trans hB1.tape, hg9.output.trans hB1.output, hsz, fun k hk hs => ?_⟩
    rw [hset k (fun e => hs (e ▸ h.sg))]
    exact hkeep k hk (fun e => hs (h.sv k e))
end Go.Proofs.YtpkiiegadckloaaDoor
