/- 'append(append([]Draw{}, l...), d)' in a region that draws its order: what each of its six operations leaves. -/
import Derived.Test.YtbhpghjdclehmaaMayI
import Derived.Test.YtbhpghjdclehmaaSlots
namespace Go.Proofs.Ytbhpghjdclehmaa
open Go.RowKit

/-- 0: the empty slice e0; 1: src; 2: v1 = append(e0, src...); 3: ld; 4: s1; 5: v2 = append(v1, s1...). f: which of them have been carried out. -/
structure ApI (w3 : World) (A : Option Addr) (c : Nat) (l : List Drw) (d1 d2 : Int) (f : Nat → Bool) (e0 src v1 ld s1 v2 : Value) (w : World) : Prop where
  below : Below w3.heap.size w3 w
  ord : f 5 = true → f 2 = true
  e0 : f 0 = true → f 2 = false → ∃ g, e0 = .slice (some ⟨g, 0, none⟩) 0 0 ∧ w3.heap.size ≤ g ∧ w.heap[g]? = some (.cells #[] 38 (0, 0))
  src : f 1 = true → src = .slice A l.length c
  v1 : f 2 = true → f 5 = false → w.ownsRow w3.heap.size 38 2 v1 l.length (flat l)
  ld : f 3 = true → ld = .agg #[.int .i64 d1, .int .i64 d2]
  s1 : f 4 = true → f 5 = false → ∃ g, s1 = .slice (some ⟨g, 0, none⟩) 1 1 ∧ w.heap[g]? = some (.cells #[.int .i64 d1, .int .i64 d2] 38 (0, 0))
  v2 : f 5 = true → w.ownsRow w3.heap.size 38 2 v2 (l ++ [(d1, d2)]).length (flat (l ++ [(d1, d2)]))

section
variable {w3 w w' : World} {A : Option Addr} {c : Nat} {l : List Drw} {d1 d2 : Int} {f : Nat → Bool} {e0 src v1 ld s1 v2 : Value}

theorem ApI.start (w3 : World) : ApI w3 A c l d1 d2 (fun _ => false) e0 src v1 ld s1 v2 { w3 with drawn := w3.drawn + 1 } :=
  ⟨⟨rfl, rfl, rfl, Nat.le_refl _, fun _ _ => rfl⟩, (fun h => by cases h), (fun h => by cases h), (fun h => by cases h), (fun h => by cases h), (fun h => by cases h), (fun h => by cases h), (fun h => by cases h)⟩
theorem ApI.grow (hi : ApI w3 A c l d1 d2 f e0 src v1 ld s1 v2 w) (hb : Below w.heap.size w w') : ApI w3 A c l d1 d2 f e0 src v1 ld s1 v2 w' :=
  ⟨hi.below.trans (hb.mono hi.below.size), hi.ord, fun h h' => let ⟨g, e, hl, hg⟩ := hi.e0 h h'; ⟨g, e, hl, blk_keep hg hb⟩, hi.src, fun h h' => owns_keep (hi.v1 h h') hb, hi.ld,
    fun h h' => let ⟨g, e, hg⟩ := hi.s1 h h'; ⟨g, e, blk_keep hg hb⟩, fun h => owns_keep (hi.v2 h) hb⟩
theorem ApI.c0 (hi : ApI w3 A c l d1 d2 f e0 src v1 ld s1 v2 w) {g : Nat} (hl : w3.heap.size ≤ g) (hg : w.heap[g]? = some (.cells #[] 38 (0, 0))) :
    ApI w3 A c l d1 d2 (also f 0) (.slice (some ⟨g, 0, none⟩) 0 0) src v1 ld s1 v2 w :=
  ⟨hi.below, hi.ord, fun _ _ => ⟨g, rfl, hl, hg⟩, hi.src, hi.v1, hi.ld, hi.s1, hi.v2⟩
theorem ApI.c1 (hi : ApI w3 A c l d1 d2 f e0 src v1 ld s1 v2 w) : ApI w3 A c l d1 d2 (also f 1) e0 (.slice A l.length c) v1 ld s1 v2 w :=
  ⟨hi.below, hi.ord, hi.e0, fun _ => rfl, hi.v1, hi.ld, hi.s1, hi.v2⟩
theorem ApI.c3 (hi : ApI w3 A c l d1 d2 f e0 src v1 ld s1 v2 w) : ApI w3 A c l d1 d2 (also f 3) e0 src v1 (.agg #[.int .i64 d1, .int .i64 d2]) s1 v2 w :=
  ⟨hi.below, hi.ord, hi.e0, hi.src, hi.v1, fun _ => rfl, hi.s1, hi.v2⟩
theorem ApI.c4 (hi : ApI w3 A c l d1 d2 f e0 src v1 ld s1 v2 w) {g : Nat} (hg : w.heap[g]? = some (.cells #[.int .i64 d1, .int .i64 d2] 38 (0, 0))) :
    ApI w3 A c l d1 d2 (also f 4) e0 src v1 ld (.slice (some ⟨g, 0, none⟩) 1 1) v2 w :=
  ⟨hi.below, hi.ord, hi.e0, hi.src, hi.v1, hi.ld, fun _ _ => ⟨g, rfl, hg⟩, hi.v2⟩
theorem ApI.own0 (hi : ApI w3 A c l d1 d2 f e0 src v1 ld s1 v2 w) (h0 : f 0 = true) (h2 : f 2 = false) : w.ownsRow w3.heap.size 38 2 e0 ([] : List Drw).length (flat []) := by
  obtain ⟨g, rfl, hl, hg⟩ := hi.e0 h0 h2
  exact ⟨rfl, Or.inr ⟨g, 0, #[], rfl, hl, hg, Nat.le_refl _, Nat.zero_le _, rfl, rfl⟩⟩
theorem ApI.c2 (hi : ApI w3 A c l d1 d2 f e0 src v1 ld s1 v2 w) (h0 : f 0 = true) (h2 : f 2 = false) {v : Value} (hv : w'.ownsRow w3.heap.size 38 2 v l.length (flat l)) (hg : w.grownBy w' e0.ownBlock) :
    ApI w3 A c l d1 d2 (also f 2) e0 src v ld s1 v2 w' := by
  have h5 : f 5 = false := by
    cases h : f 5 with
    | false => rfl
    | true => rw [hi.ord h] at h2; cases h2
  obtain ⟨g, rfl, hl, hg0⟩ := hi.e0 h0 h2
  refine ⟨hi.below.grown hg hi.below.size (fun k hk => by cases hk; exact hl), fun _ => rfl, (fun _ h => by cases h), hi.src, fun _ _ => hv, hi.ld, fun h _ => ?_, fun h => ?_⟩
  · obtain ⟨k, e, hk⟩ := hi.s1 h h5
    refine ⟨k, e, (hg.block k (blk_lt hk) (fun he => ?_)).trans hk⟩
    simp only [Value.ownBlock, Option.some.injEq] at he
    subst he
    rw [hk] at hg0
    cases hg0
  · rw [show also f 2 5 = f 5 from rfl, h5] at h; cases h
theorem ApI.c5 (hi : ApI w3 A c l d1 d2 f e0 src v1 ld s1 v2 w) (h2 : f 2 = true) (h5 : f 5 = false) {v : Value} (hv : w'.ownsRow w3.heap.size 38 2 v (l ++ [(d1, d2)]).length (flat (l ++ [(d1, d2)])))
    (hg : w.grownBy w' v1.ownBlock) : ApI w3 A c l d1 d2 (also f 5) e0 src v1 ld s1 v w' := by
  have h1 := hi.v1 h2 h5
  exact ⟨hi.below.grown hg hi.below.size (fun k hk => (h1.lt k hk).1), fun _ => h2, (fun _ h => by rw [show also f 5 2 = f 2 from rfl, h2] at h; cases h), hi.src, (fun _ h => by cases h), hi.ld, (fun _ h => by cases h), fun _ => hv⟩
theorem ApI.cong {f' : Nat → Bool} (hi : ApI w3 A c l d1 d2 f e0 src v1 ld s1 v2 w) (h : ∀ k, k < 6 → f' k = f k) : ApI w3 A c l d1 d2 f' e0 src v1 ld s1 v2 w := by
  have h0 := h 0 (by omega)
  have h1 := h 1 (by omega)
  have h2 := h 2 (by omega)
  have h3 := h 3 (by omega)
  have h4 := h 4 (by omega)
  have h5 := h 5 (by omega)
  refine ⟨hi.below, ?_, ?_, ?_, ?_, ?_, ?_, ?_⟩
  · rw [h5, h2]; exact hi.ord
  · rw [h0, h2]; exact hi.e0
  · rw [h1]; exact hi.src
  · rw [h2, h5]; exact hi.v1
  · rw [h3]; exact hi.ld
  · rw [h4, h5]; exact hi.s1
  · rw [h5]; exact hi.v2
end

theorem also_shift (L : Nat → Bool) (i : Nat) : (fun k => also L (i + 1) (k + 1)) = also (fun k => L (k + 1)) i := by
  funext k
  simp [also]

section
variable {o : Oper} {a : Act} {w : World} {K : Act → World → Prop} {Q : Exit → Act → World → Prop}

/-- The empty slice of a literal. -/
theorem wp_build0 (ho : o.op = .buildSlice 36 0 #[]) (h : K (a.put o.dst (.slice (some ⟨w.heap.size, 0, none⟩) 0 0)) (w.alloc (.cells #[] 38))) : o.wp Try.prog a w K Q := by
  unfold Oper.wp execOp
  simp only [ho]
  go_simp
  exact h
theorem wp_move (x : Operand) (ho : o.op = .move x) (h : K (a.put o.dst (a.eval x)) w) : o.wp Try.prog a w K Q := by
  unfold Oper.wp execOp
  simp only [ho]
  exact h
theorem wp_assign (x : Operand) (ho : o.op = .assign x) (h : K (a.put o.dst (a.eval x)) w) : o.wp Try.prog a w K Q := by
  unfold Oper.wp execOp
  simp only [ho]
  exact h
theorem wp_extract (x : Operand) (i : Nat) (vs : Array Value) (v : Value) (ho : o.op = .extract x i) (hx : a.eval x = .tuple vs) (hv : vs[i]? = some v) (h : K (a.put o.dst v) w) : o.wp Try.prog a w K Q := by
  unfold Oper.wp execOp
  simp only [ho, hx]
  unfold Instr.extract
  simp only [hv]
  exact h
theorem wp_call17 (x y : Operand) (u v : Value) (ho : o.op = .call { callee := .value (.func 17), args := #[x, y], argTypes := #[27, 36] }) (hx : a.eval x = u) (hy : a.eval y = v)
    {R : Value → World → Prop} (hc : Calls Try.prog 17 #[u, v] w fun e w' => ∃ r, e = .returned r ∧ R r w') (h : ∀ r w', R r w' → K (a.put o.dst r) w') : o.wp Try.prog a w K Q := by
  unfold Oper.wp execOp
  simp only [ho, resolve, List.map_toArray, List.map_cons, List.map_nil, hx, hy, show a.eval (.func 17) = .func (.func 17) #[] #[] from rfl]
  go_simp
  exact hc.mono fun e w' ⟨r, he, hr⟩ => by subst he; exact h r w' hr
end
end Go.Proofs.Ytbhpghjdclehmaa
