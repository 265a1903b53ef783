/- The invariant of May's first region, and that each of its operations keeps it. -/
import Derived.Test.YtbhpghjdclehmaaFlat
namespace Go.Proofs.Ytbhpghjdclehmaa
open Go.RowKit

/-- The frame of May in its first region. -/
def mayF (C : Array Value) (A : Option Addr) (n c : Nat) (d1 d2 : Int) (gc gl gd : Nat) (s7 s8 s9 s10 s11 s12 : Value) : Act :=
  { tmps := #[.agg C, .slice A n c, .agg #[.int .i64 d1, .int .i64 d2], .pointer (some ⟨gc, 0, none⟩), .pointer (some ⟨gl, 0, none⟩), .pointer (some ⟨gd, 0, none⟩), .int .i64 0, s7, s8, s9, s10, s11, s12,
      undef, undef, undef, undef, undef, undef, undef, undef, undef, undef, undef, undef], defers := [] }

structure MayI (w3 : World) (A : Option Addr) (c : Nat) (l : List Drw) (d1 d2 : Int) (L : Nat → Bool) (s7 s8 s9 s10 s11 s12 : Value) (w : World) : Prop where
  below : Below w3.heap.size w3 w
  ord : L 6 = true → L 4 = true ∧ L 5 = true
  v8 : L 0 = true → s8 = .slice A l.length c
  v9 : L 1 = true → L 4 = false → w.ownsRow w3.heap.size 38 2 s9 l.length (flat l)
  v10 : L 2 = true → s10 = .agg #[.int .i64 d1, .int .i64 d2]
  v11 : L 3 = true → L 4 = false → ∃ g, s11 = .slice (some ⟨g, 0, none⟩) 1 1 ∧ w.heap[g]? = some (.cells #[.int .i64 d1, .int .i64 d2] 38 (0, 0))
  v12 : L 4 = true → w.ownsRow w3.heap.size 38 2 s12 (l ++ [(d1, d2)]).length (flat (l ++ [(d1, d2)]))
  v7 : L 5 = true → ∃ g, s7 = .pointer (some ⟨g, 0, none⟩) ∧ w3.heap.size ≤ g ∧ w.heap[g]? = some (.cells #[if L 6 then s12 else .slice none 0 0] 36 (0, 0))

theorem blk_lt {w : World} {g : Nat} {o : Obj} (h : w.heap[g]? = some o) : g < w.heap.size := by
  by_cases hh : g < w.heap.size
  · exact hh
  · rw [Array.getElem?_eq_none (by omega)] at h; cases h
theorem blk_keep {w w' : World} {g : Nat} {o : Obj} (h : w.heap[g]? = some o) (hb : Below w.heap.size w w') : w'.heap[g]? = some o := (hb.block g (blk_lt h)).trans h
theorem own_ne {w : World} {base : Nat} {v : Value} {n g : Nat} {xs : List Value} {cs : Array Value} {t : TypeId} (h : w.ownsRow base 38 2 v n xs) (hg : w.heap[g]? = some (.cells cs t (0, 0))) (ht : t ≠ 38) : some g ≠ v.ownBlock := by
  rcases h.2 with ⟨rfl, _⟩ | ⟨k, cap, cur, rfl, _, hk, _⟩
  · simp [Value.ownBlock]
  · intro e
    simp only [Value.ownBlock, Option.some.injEq] at e
    subst e
    rw [hk] at hg
    cases hg
    exact ht rfl
theorem DS_one {w : World} {g : Nat} {d1 d2 : Int} (h : w.heap[g]? = some (.cells #[.int .i64 d1, .int .i64 d2] 38 (0, 0))) : DS w (some ⟨g, 0, none⟩) [(d1, d2)] := by
  refine Or.inr ⟨g, 0, rfl, blk_lt h, fun k hk => ?_⟩
  obtain rfl : k = 0 := by simpa using hk
  exact ⟨cell_of_row w g 0 _ _ _ h, cell_of_row w g 1 _ _ _ h⟩

section
variable {w3 w w' : World} {A : Option Addr} {c : Nat} {l : List Drw} {d1 d2 : Int} {L : Nat → Bool} {s7 s8 s9 s10 s11 s12 : Value}

theorem MayI.start (w3 : World) : MayI w3 A c l d1 d2 (fun _ => false) s7 s8 s9 s10 s11 s12 { w3 with drawn := w3.drawn + 1 } :=
  ⟨⟨rfl, rfl, rfl, Nat.le_refl _, fun _ _ => rfl⟩, (fun h => by cases h), (fun h => by cases h), (fun h => by cases h), (fun h => by cases h), (fun h => by cases h), (fun h => by cases h), (fun h => by cases h)⟩
/-- Nothing but new blocks. -/
theorem MayI.grow (hi : MayI w3 A c l d1 d2 L s7 s8 s9 s10 s11 s12 w) (hb : Below w.heap.size w w') : MayI w3 A c l d1 d2 L s7 s8 s9 s10 s11 s12 w' :=
  ⟨hi.below.trans (hb.mono hi.below.size), hi.ord, hi.v8, fun h h' => owns_keep (hi.v9 h h') hb, hi.v10, fun h h' => let ⟨g, e, hg⟩ := hi.v11 h h'; ⟨g, e, blk_keep hg hb⟩, fun h => owns_keep (hi.v12 h) hb,
    fun h => let ⟨g, e, hl, hg⟩ := hi.v7 h; ⟨g, e, hl, blk_keep hg hb⟩⟩
theorem MayI.s0 (hi : MayI w3 A c l d1 d2 L s7 s8 s9 s10 s11 s12 w) : MayI w3 A c l d1 d2 (also L 0) s7 (.slice A l.length c) s9 s10 s11 s12 w :=
  ⟨hi.below, hi.ord, fun _ => rfl, hi.v9, hi.v10, hi.v11, hi.v12, hi.v7⟩
theorem MayI.s1 (hi : MayI w3 A c l d1 d2 L s7 s8 s9 s10 s11 s12 w) {v : Value} (hv : w.ownsRow w3.heap.size 38 2 v l.length (flat l)) : MayI w3 A c l d1 d2 (also L 1) s7 s8 v s10 s11 s12 w :=
  ⟨hi.below, hi.ord, hi.v8, fun _ _ => hv, hi.v10, hi.v11, hi.v12, hi.v7⟩
theorem MayI.s2 (hi : MayI w3 A c l d1 d2 L s7 s8 s9 s10 s11 s12 w) : MayI w3 A c l d1 d2 (also L 2) s7 s8 s9 (.agg #[.int .i64 d1, .int .i64 d2]) s11 s12 w :=
  ⟨hi.below, hi.ord, hi.v8, hi.v9, fun _ => rfl, hi.v11, hi.v12, hi.v7⟩
theorem MayI.s3 (hi : MayI w3 A c l d1 d2 L s7 s8 s9 s10 s11 s12 w) {g : Nat} (hg : w.heap[g]? = some (.cells #[.int .i64 d1, .int .i64 d2] 38 (0, 0))) : MayI w3 A c l d1 d2 (also L 3) s7 s8 s9 s10 (.slice (some ⟨g, 0, none⟩) 1 1) s12 w :=
  ⟨hi.below, hi.ord, hi.v8, hi.v9, hi.v10, fun _ _ => ⟨g, rfl, hg⟩, hi.v12, hi.v7⟩
theorem MayI.s4 (hi : MayI w3 A c l d1 d2 L s7 s8 s9 s10 s11 s12 w) (h1 : L 1 = true) (h4 : L 4 = false) (h6 : L 6 = false) {v : Value} (hv : w'.ownsRow w3.heap.size 38 2 v (l ++ [(d1, d2)]).length (flat (l ++ [(d1, d2)])))
    (hg : w.grownBy w' s9.ownBlock) : MayI w3 A c l d1 d2 (also L 4) s7 s8 s9 s10 s11 v w' := by
  have h9 := hi.v9 h1 h4
  refine ⟨hi.below.grown hg hi.below.size (fun k hk => (h9.lt k hk).1), (fun h => ⟨rfl, (hi.ord h).2⟩), hi.v8, (fun _ h => by cases h), hi.v10, (fun _ h => by cases h), fun _ => hv, fun h => ?_⟩
  obtain ⟨g, e, hl, hb⟩ := hi.v7 h
  refine ⟨g, e, hl, ?_⟩
  have e6 : also L 4 6 = false := h6
  rw [h6] at hb
  rw [e6]
  exact (hg.block g (blk_lt hb) (own_ne h9 hb (by decide))).trans hb
theorem MayI.s5 (hi : MayI w3 A c l d1 d2 L s7 s8 s9 s10 s11 s12 w) (h6 : L 6 = false) {g : Nat} (hl : w3.heap.size ≤ g) (hg : w.heap[g]? = some (.cells #[.slice none 0 0] 36 (0, 0))) : MayI w3 A c l d1 d2 (also L 5) (.pointer (some ⟨g, 0, none⟩)) s8 s9 s10 s11 s12 w :=
  ⟨hi.below, (fun h => ⟨(hi.ord h).1, rfl⟩), hi.v8, hi.v9, hi.v10, hi.v11, hi.v12, fun _ => ⟨g, rfl, hl, by rw [show also L 5 6 = false from h6]; exact hg⟩⟩
theorem MayI.s6 {g : Nat} (hi : MayI w3 A c l d1 d2 L (.pointer (some ⟨g, 0, none⟩)) s8 s9 s10 s11 s12 w) (h4 : L 4 = true) (h5 : L 5 = true) : MayI w3 A c l d1 d2 (also L 6) (.pointer (some ⟨g, 0, none⟩)) s8 s9 s10 s11 s12 (w.setCell ⟨g, 0, none⟩ s12) := by
  obtain ⟨g', e, hl, hg⟩ := hi.v7 h5
  cases e
  have h12 := hi.v12 h4
  refine ⟨hi.below.setCell hl _, (fun _ => ⟨h4, h5⟩), hi.v8, (fun _ h => by rw [show also L 6 4 = L 4 from rfl, h4] at h; cases h), hi.v10, (fun _ h => by rw [show also L 6 4 = L 4 from rfl, h4] at h; cases h), fun _ => ?_, fun _ => ⟨g, rfl, hl, ?_⟩⟩
  · refine h12.kept (row := some g) ⟨rfl, rfl, rfl, by simp [World.setCell], fun k _ hne => Below.heap_setCell _ _ _ _ (fun e => hne (by simp [e]))⟩ (Or.inr (fun e => own_ne h12 hg (by decide) e.symm))
  · rw [show also L 6 6 = true from rfl, heap_setCell_same w g 0 _ 36 s12 hg]
    rfl
end

/-! The operations themselves. -/
section
variable {o : Oper} {a : Act} {w : World} {K : Act → World → Prop} {Q : Exit → Act → World → Prop}

/-- A load of one cell out of a block that is known whole. -/
theorem wp_load_row1 {P : Program} (ty : TypeId) (x : Operand) (ho : o.op = .load ty x)
    (g : Nat) (hx : a.eval x = .pointer (some ⟨g, 0, none⟩)) {t : TypeId} {v : Value} {d : TypeDesc} (hg : w.heap[g]? = some (.cells #[v] t (0, 0)))
    (hu : P.underlying ty = some d) (hd : (match d with | .struct _ | .array _ _ => true | _ => false) = false)
    (h : K (a.put o.dst v) w) : o.wp P a w K Q := by
  unfold Oper.wp execOp
  simp only [ho, hx, Instr.loadAt, Instr.sureAddr, Sem.run_bind, Sem.run_pure, Result.andThen_ok, run_loadVar_one (P := P) (show w.cell? ⟨g, 0, none⟩ = some v from cell_of_row w g 0 _ _ _ hg) hu hd]
  exact h

/-- One draw laid for an append. -/
theorem wp_build1 (x : Operand) (d1 d2 : Int) (ho : o.op = .buildSlice 36 1 #[(0, x)]) (hx : a.eval x = .agg #[.int .i64 d1, .int .i64 d2])
    (h : K (a.put o.dst (.slice (some ⟨w.heap.size, 0, none⟩) 1 1)) (w.alloc (.cells #[.int .i64 d1, .int .i64 d2] 38))) : o.wp Try.prog a w K Q := by
  unfold Oper.wp execOp
  simp only [ho, List.map_toArray, List.map_cons, List.map_nil, hx]
  go_simp
  exact h

theorem wp_alloc36 (ho : o.op = .alloc 36) (h : K (a.put o.dst (.pointer (some ⟨w.heap.size, 0, none⟩))) (w.alloc (.cells #[.slice none 0 0] 36))) : o.wp Try.prog a w K Q := by
  unfold Oper.wp execOp
  simp only [ho]
  go_simp
  exact h

theorem wp_store36 (p x : Operand) (g : Nat) {A : Option Addr} {n c : Nat} {u : Value} (ho : o.op = .store 36 p x) (hp : a.eval p = .pointer (some ⟨g, 0, none⟩)) (hx : a.eval x = .slice A n c)
    (hg : w.heap[g]? = some (.cells #[u] 36 (0, 0))) (h : K (a.put o.dst undef) (w.setCell ⟨g, 0, none⟩ (.slice A n c))) : o.wp Try.prog a w K Q := by
  have c1 : w.cell? ⟨g, 0, none⟩ = some u := cell_of_row w g 0 _ _ _ hg
  have c2 : w.frozen? ⟨g, 0, none⟩ = false := frozen_of_row w g 0 _ _ hg
  unfold Oper.wp execOp
  simp only [ho, hp, hx]
  go_simp
  exact h
end
end Go.Proofs.Ytbhpghjdclehmaa
