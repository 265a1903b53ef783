/- Draws as a row of cells; a row that the code owns, read as draws. -/
import Derived.Test.YtbhpghjdclehmaaInv
import Derived.Test.YtbhpghjdclehmaaFirst
import Derived.Deep.AppendLies
import Derived.Deep.Upon
import Derived.OwnWalk
namespace Go.Proofs.Ytbhpghjdclehmaa
open Go.RowKit

theorem info38 : (Try.prog.info? 38).map (fun i => (i.zero, i.size, i.bytes)) = some (some (.agg #[.int .i64 0, .int .i64 0]), 2, 16) := by kernel_rfl

/-- The draws as cells. -/
def flat : List Drw → List Value
  | [] => []
  | d :: r => .int .i64 d.1 :: .int .i64 d.2 :: flat r

theorem flat_length : ∀ l : List Drw, (flat l).length = l.length * 2
  | [] => rfl
  | _ :: r => by simp [flat, flat_length r]; omega
theorem flat_one : ∀ (l : List Drw), ∀ u ∈ flat l, u.oneCell' = true
  | [], _, h => by cases h
  | d :: r, u, h => by
    simp only [flat, List.mem_cons] at h
    rcases h with rfl | rfl | h
    · rfl
    · rfl
    · exact flat_one r u h
theorem flat_append : ∀ (l : List Drw) (m : List Drw), flat (l ++ m) = flat l ++ flat m
  | [], _ => rfl
  | _ :: r, m => by simp [flat, flat_append r m]
theorem flat_even : ∀ (l : List Drw) (k : Nat), k < l.length → (flat l)[k * 2]? = some (.int .i64 (day l k))
  | [], _, h => by simp at h
  | d :: r, 0, _ => rfl
  | d :: r, k + 1, h => by
    have := flat_even r k (by simpa using h)
    rw [show (k + 1) * 2 = k * 2 + 1 + 1 by omega]
    simpa [flat, day] using this
theorem flat_odd : ∀ (l : List Drw) (k : Nat), k < l.length → (flat l)[k * 2 + 1]? = some (.int .i64 (amt l k))
  | [], _, h => by simp at h
  | d :: r, 0, _ => rfl
  | d :: r, k + 1, h => by
    have := flat_odd r k (by simpa using h)
    rw [show (k + 1) * 2 + 1 = k * 2 + 1 + 1 + 1 by omega]
    simpa [flat, amt] using this

theorem add_none (b off j : Nat) : (⟨b, off, none⟩ : Addr).add j = ⟨b, off + j, none⟩ := by unfold Addr.add; split <;> simp_all

/-- The cells of draws that are read, as news for an append. -/
theorem DS.news {w : World} {b off : Nat} {l : List Drw} (h : ∀ k, k < l.length → w.cell? ⟨b, off + k * 2, none⟩ = some (.int .i64 (day l k)) ∧ w.cell? ⟨b, off + k * 2 + 1, none⟩ = some (.int .i64 (amt l k))) :
    ∀ j u, (flat l)[j]? = some u → w.cell? ((⟨b, off, none⟩ : Addr).add j) = some u := by
  intro j u hj
  have hlt : j < l.length * 2 := by
    rw [← flat_length]
    by_cases hh : j < (flat l).length
    · exact hh
    · rw [List.getElem?_eq_none (by omega)] at hj; cases hj
  have hk : j / 2 < l.length := by omega
  obtain ⟨h1, h2⟩ := h (j / 2) hk
  rw [add_none]
  by_cases he : j % 2 = 0
  · have e : j = j / 2 * 2 := by omega
    rw [e, flat_even l _ hk] at hj
    rw [e, ← hj]
    exact h1
  · have e : j = j / 2 * 2 + 1 := by omega
    rw [e, flat_odd l _ hk] at hj
    rw [e, ← hj]
    exact h2

/-- A row that the call owns, read as draws. -/
theorem DS.owned {w : World} {base g cap : Nat} {l : List Drw} (h : w.ownsRow base 38 2 (.slice (some ⟨g, 0, none⟩) l.length cap) l.length (flat l)) : DS w (some ⟨g, 0, none⟩) l := by
  by_cases hl : l = []
  · exact Or.inl hl
  · refine Or.inr ⟨g, 0, rfl, ?_, fun k hk => ⟨?_, ?_⟩⟩
    · exact (h.lt g rfl).2
    · rw [h.cellAt (0 + k * 2) (by omega), Nat.zero_add, flat_even l k hk]
    · rw [h.cellAt (0 + k * 2 + 1) (by omega), Nat.zero_add, flat_odd l k hk]
theorem DS.owned_nil {w : World} {base : Nat} {v : Value} {l : List Drw} (h : w.ownsRow base 38 2 v l.length (flat l)) : ∃ A c, v = .slice A l.length c ∧ DS w A l ∧ (∀ a, A = some a → base ≤ a.block) := by
  rcases h.2 with ⟨rfl, h0⟩ | ⟨g, cap, cur, rfl, hb, _⟩
  · exact ⟨none, 0, by rw [h0], Or.inl (List.length_eq_zero_iff.mp h0), fun _ h => by cases h⟩
  · exact ⟨some ⟨g, 0, none⟩, cap, rfl, DS.owned h, fun a ha => by cases ha; exact hb⟩

theorem src_empty (w : World) (A : Option Addr) (c : Nat) : Src Try.prog 2 36 (.slice A 0 c) 0 [] w := by
  cases A with
  | none => exact Src.ofNil w Try.underlying36 c
  | some a => exact Src.ofSlice w Try.underlying36 a 0 c [] (by simp) (fun j u h => by simp at h) (fun u h => by cases h)

/-- The built-in append of draws to a row that the call owns. -/
theorem wp_append_draws {o : Oper} {a : Act} {w : World} {K : Act → World → Prop} {Q : Exit → Act → World → Prop} (s x : Operand)
    (ho : o.op = .call { callee := .builtin .append, args := #[s, x], argTypes := #[36, 36] })
    (base : Nat) (v : Value) (m : List Drw) (hs : a.eval s = v) (hown : w.ownsRow base 38 2 v m.length (flat m))
    (A : Option Addr) (c : Nat) (l : List Drw) (hx : a.eval x = .slice A l.length c) (hd : DS w A l) (hlen : m.length + l.length ≤ 1000000) (hbase : base ≤ w.heap.size)
    (h : ∀ v' w', w'.ownsRow base 38 2 v' (m ++ l).length (flat (m ++ l)) → w.grownBy w' v.ownBlock → K (a.put o.dst v') w') : o.wp Try.prog a w K Q := by
  obtain ⟨i0, hi0, hz0, hz1, hz2⟩ := info_parts info38
  by_cases hl : l = []
  · subst hl
    have hrun : ∀ ty, (Builtin.append_ #[36, 36] ty #[v, .slice A 0 c]).run Try.prog w = .ok v w := by
      intro ty
      have hs0 : Src Try.prog i0.size 36 (.slice A 0 c) 0 [] w := by rw [hz1]; exact src_empty w A c
      rcases hown.2 with ⟨rfl, h0⟩ | ⟨g, cap, cur, rfl, _, _, hnc, _⟩
      · exact run_append_nothing w 36 36 ty 38 i0 Try.underlying36 hi0 none 0 0 (Nat.le_refl _) _ hs0
      · exact run_append_nothing w 36 36 ty 38 i0 Try.underlying36 hi0 _ _ _ hnc _ hs0
    simp only [List.length_nil] at hx
    have hh := h v w (by simpa using hown) ⟨rfl, rfl, rfl, Nat.le_refl _, fun _ _ _ => rfl⟩
    unfold Oper.wp execOp
    simp only [ho, resolve, invoke, builtin, Sem.run_bind, Sem.run_pure, Result.andThen_ok, List.map_toArray, List.map_cons, List.map_nil, hs, hx, hrun]
    exact hh
  · rcases hd with h0 | ⟨b, off, rfl, hlt, hc⟩
    · exact absurd h0 hl
    · exact wp_append_lies w s x 36 ho base 38 i0 _ 2 16 Try.underlying36 hi0 hz0 hz1 hz2 rfl (by omega) v m.length (flat m) hs hown ⟨b, off, none⟩ l.length c (flat l) hx (flat_length l)
        (DS.news hc) (flat_one l) (List.length_pos_iff.mpr hl) (by unfold maxLen; omega) (by omega) hbase _ rfl
        (fun g cap w' h1 h2 _ _ => h _ w' (by rw [flat_append, List.length_append]; exact h1) h2)
end Go.Proofs.Ytbhpghjdclehmaa
