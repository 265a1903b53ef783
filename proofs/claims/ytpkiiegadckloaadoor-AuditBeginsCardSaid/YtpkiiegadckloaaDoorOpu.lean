/- An argument that is a slice of small numbers, opened. -/
import Derived.Test.YtpkiiegadckloaaDoorRows
import Derived.Test.YtpkiiegadckloaaDoorBgw
import Derived.ProofKit
import Derived.OpenShut
import Derived.Deep.Slices
import Derived.ChangeSame
namespace Go.Proofs.YtpkiiegadckloaaDoor
open Go.ChangeShapes Go.WideShapes Go.ChangeAt Go.RowKit Go.Deep

theorem cells34 : Tryd.prog.cellsOf 34 = 1 := by kernel_rfl

set_option maxRecDepth 100000 in
theorem sums_of {H : Type} {enc : TypeId × Value → H} {w : World} {base : Nat} {spare : Nat → Bool} {held : Bool} {fuel : Nat} {a0 : Option Addr} {n0 c0 : Nat} {x : DataW H × List MemPlace}
    (h : DataW.trod enc Tryd.prog w base spare held fuel 33 [.slice a0 n0 c0] = some x) : ∃ l : List Nat, n0 = l.length ∧ l.length ≤ maxLen ∧ US w a0 l ∧ ∀ m ∈ l, m < 65536 := by
  rcases open_slice Tryd.underlying33 h with ⟨hcs, -⟩ | ⟨a, len, cap, m, n, D, Pl, hcs, _, hl, hm, hmm, _, hi⟩
  · cases hcs
    exact ⟨[], rfl, Nat.zero_le _, Or.inl rfl, fun m hm => by cases hm⟩
  · cases hcs
    have hlm : n0 ≤ m := by rw [hmm]; split <;> omega
    have hex : ∀ i, i < n0 → ∃ d : Nat, d < 65536 ∧ w.cell? (a.add (i * 1)) = some (.int .u16 d) := by
      intro i hin
      obtain ⟨cs', hc, ht⟩ := hi i (by omega)
      rw [cells34] at hc
      obtain ⟨_, hcl, hat⟩ := World.cells?_some hc
      match cs', hcl with
      | [u0], _ =>
        obtain ⟨k0, f0, -, wf0⟩ := DataW.trod_int Tryd.underlying34 ht
        cases f0
        simp [Lit.wf, IntKind.min, IntKind.max, IntKind.signed, IntKind.bits] at wf0
        obtain ⟨m2, rfl⟩ : ∃ m2 : Nat, k0 = m2 := ⟨k0.toNat, by omega⟩
        refine ⟨m2, by omega, ?_⟩
        have := hat 0 (by omega)
        simpa [Go.Deep.add_add] using this
    obtain ⟨f, hf⟩ := choose_lt hex
    obtain ⟨b, off, spot⟩ := a
    refine ⟨(List.range n0).map f, by simp, by simp; omega, ?_, ?_⟩
    · by_cases h0 : n0 = 0
      · subst h0; exact Or.inl rfl
      · have hspot : spot = none := by simpa [Addr.add] using World.cell?_spot (hf 0 (by omega)).2
        subst hspot
        have hget : ∀ k, k < n0 → ((List.range n0).map f).getD k 0 = f k := fun k hk => by simp [List.getD_eq_getElem?_getD, hk]
        refine Or.inr ⟨b, off, rfl, block_lt_of_cell (hf 0 (by omega)).2, fun k hk => ?_⟩
        have hk : k < n0 := by simpa using hk
        obtain ⟨-, g1⟩ := hf k hk
        rw [add_plain, Nat.mul_one] at g1
        rw [hget k hk]
        exact g1
    · intro m hm
      obtain ⟨i, hi, rfl⟩ := List.mem_map.1 hm
      exact (hf i (List.mem_range.1 hi)).1
end Go.Proofs.YtpkiiegadckloaaDoor
