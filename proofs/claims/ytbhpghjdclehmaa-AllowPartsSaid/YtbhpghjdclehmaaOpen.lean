/- An argument that is a slice of draws, opened. -/
import Derived.Test.YtbhpghjdclehmaaRows
import Derived.Test.YtbhpghjdclehmaaDraws
import Derived.ProofKit
import Derived.OpenShut
import Derived.Deep.Slices
import Derived.ChangeSame
namespace Go.Proofs.Ytbhpghjdclehmaa
open Go.ChangeShapes Go.WideShapes Go.ChangeAt Go.RowKit Go.Deep

theorem cells38 : Try.prog.cellsOf 38 = 2 := by kernel_rfl
theorem cells2 : Try.prog.cellsOf 2 = 1 := by kernel_rfl
theorem cells3 : Try.prog.cellsOf 3 = 1 := by kernel_rfl

theorem draws_of {H : Type} {enc : TypeId × Value → H} {w : World} {base : Nat} {spare : Nat → Bool} {held : Bool} {fuel : Nat} {a0 : Option Addr} {n0 c0 : Nat} {x : DataW H × List MemPlace}
    (h : DataW.trod enc Try.prog w base spare held fuel 36 [.slice a0 n0 c0] = some x) : ∃ l : List Drw, n0 = l.length ∧ l.length ≤ maxLen ∧ DS w a0 l := by
  rcases open_slice Try.underlying36 h with ⟨hcs, -⟩ | ⟨a, len, cap, m, n, D, Pl, hcs, _, hl, hm, hmm, _, hi⟩
  · cases hcs
    exact ⟨[], rfl, Nat.zero_le _, Or.inl rfl⟩
  · cases hcs
    have hlm : n0 ≤ m := by rw [hmm]; split <;> omega
    have hex : ∀ i, i < n0 → ∃ d : Drw, w.cell? (a.add (i * 2)) = some (.int .i64 d.1) ∧ w.cell? ((a.add (i * 2)).add 1) = some (.int .i64 d.2) := by
      intro i hin
      obtain ⟨cs', hc, ht⟩ := hi i (by omega)
      rw [cells38] at hc
      obtain ⟨_, hcl, hat⟩ := World.cells?_some hc
      obtain ⟨y0, y1, n', _, _, e0, e1⟩ := trod_struct2 Try.underlying38 ht
      match cs', hcl with
      | [u0, u1], _ =>
        have e0' : DataW.trod enc Try.prog w base spare held n' 3 [u0] = some y0 := by
          have := e0
          rw [cells3] at this
          exact this
        have e1' : DataW.trod enc Try.prog w base spare held n' 2 [u1] = some y1 := by
          have := e1
          rw [cells2] at this
          exact this
        obtain ⟨k0, f0, -, -⟩ := DataW.trod_int Try.underlying3 e0'
        obtain ⟨k1, f1, -, -⟩ := DataW.trod_int Try.underlying2 e1'
        cases f0
        cases f1
        refine ⟨(k0, k1), ?_, ?_⟩
        · have := hat 0 (by omega)
          simpa [Go.Deep.add_add] using this
        · have := hat 1 (by omega)
          simpa using this
    obtain ⟨f, hf⟩ := choose_lt hex
    obtain ⟨b, off, spot⟩ := a
    refine ⟨(List.range n0).map f, by simp, by simp; omega, ?_⟩
    by_cases h0 : n0 = 0
    · subst h0; exact Or.inl rfl
    · have hspot : spot = none := by simpa [Addr.add] using World.cell?_spot (hf 0 (by omega)).1
      subst hspot
      have hget : ∀ k, k < n0 → ((List.range n0).map f).getD k (0, 0) = f k := fun k hk => by simp [List.getD_eq_getElem?_getD, hk]
      refine Or.inr ⟨b, off, rfl, block_lt_of_cell (hf 0 (by omega)).1, fun k hk => ?_⟩
      have hk : k < n0 := by simpa using hk
      obtain ⟨g1, g2⟩ := hf k hk
      rw [add_plain] at g1 g2
      rw [add_plain] at g2
      unfold day amt
      rw [hget k hk]
      exact ⟨g1, g2⟩
end Go.Proofs.Ytbhpghjdclehmaa
