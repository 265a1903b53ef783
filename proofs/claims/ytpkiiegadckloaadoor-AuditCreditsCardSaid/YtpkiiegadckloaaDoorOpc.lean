/- An argument that is a slice of acts, opened. -/
import Derived.Test.YtpkiiegadckloaaDoorRows
import Derived.Test.YtpkiiegadckloaaDoorClw
import Derived.ProofKit
import Derived.OpenShut
import Derived.Deep.Slices
import Derived.Deep.Strs
import Derived.ChangeSame
namespace Go.Proofs.YtpkiiegadckloaaDoor
open Go.ChangeShapes Go.WideShapes Go.ChangeAt Go.RowKit Go.Deep

instance : Inhabited Ac := ⟨⟨0, 0, 0⟩⟩
theorem cells44 : Tryd.prog.cellsOf 44 = 3 := by kernel_rfl
theorem cells34 : Tryd.prog.cellsOf 34 = 1 := by kernel_rfl
theorem cells5b : Tryd.prog.cellsOf 5 = 1 := by kernel_rfl

set_option maxRecDepth 100000 in
theorem acts_of {H : Type} {enc : TypeId × Value → H} {w : World} {base : Nat} {spare : Nat → Bool} {held : Bool} {fuel : Nat} {a0 : Option Addr} {n0 c0 : Nat} {x : DataW H × List MemPlace}
    (h : DataW.trod enc Tryd.prog w base spare held fuel 39 [.slice a0 n0 c0] = some x) : ∃ l : List Ac, n0 = l.length ∧ l.length ≤ maxLen ∧ AS w a0 l ∧ ∀ m ∈ l, AcOK m := by
  rcases open_slice Tryd.underlying39 h with ⟨hcs, -⟩ | ⟨a, len, cap, m, n, D, Pl, hcs, _, hl, hm, hmm, _, hi⟩
  · cases hcs
    exact ⟨[], rfl, Nat.zero_le _, Or.inl rfl, fun m hm => by cases hm⟩
  · cases hcs
    have hlm : n0 ≤ m := by rw [hmm]; split <;> omega
    have hex : ∀ i, i < n0 → ∃ d : Ac, AcOK d ∧ w.cell? (a.add (i * 3)) = some (.int .u8 d.kd) ∧ w.cell? ((a.add (i * 3)).add 1) = some (.int .u8 d.id) ∧ w.cell? ((a.add (i * 3)).add 2) = some (.int .u16 d.n) := by
      intro i hin
      obtain ⟨cs', hc, ht⟩ := hi i (by omega)
      rw [cells44] at hc
      obtain ⟨_, hcl, hat⟩ := World.cells?_some hc
      obtain ⟨y0, y1, y2, n', _, _, e0, e1, e2⟩ := trod_struct3 Tryd.underlying44 ht
      match cs', hcl with
      | [u0, u1, u2], _ =>
        have e0' : DataW.trod enc Tryd.prog w base spare held n' 5 [u0] = some y0 := by
          have := e0
          rw [cells5b] at this
          exact this
        have e1' : DataW.trod enc Tryd.prog w base spare held n' 5 [u1] = some y1 := by
          have := e1
          rw [cells5b] at this
          exact this
        have e2' : DataW.trod enc Tryd.prog w base spare held n' 34 [u2] = some y2 := by
          have := e2
          rw [cells34] at this
          exact this
        obtain ⟨k0, f0, -, wf0⟩ := DataW.trod_int Tryd.underlying5 e0'
        obtain ⟨k1, f1, -, wf1⟩ := DataW.trod_int Tryd.underlying5 e1'
        obtain ⟨k2, f2, -, wf2⟩ := DataW.trod_int Tryd.underlying34 e2'
        cases f0
        cases f1
        cases f2
        simp [Lit.wf, IntKind.min, IntKind.max, IntKind.signed, IntKind.bits] at wf0 wf1 wf2
        obtain ⟨m0, rfl⟩ : ∃ m0 : Nat, k0 = m0 := ⟨k0.toNat, by omega⟩
        obtain ⟨m1, rfl⟩ : ∃ m1 : Nat, k1 = m1 := ⟨k1.toNat, by omega⟩
        obtain ⟨m2, rfl⟩ : ∃ m2 : Nat, k2 = m2 := ⟨k2.toNat, by omega⟩
        refine ⟨⟨m0, m1, m2⟩, ⟨by simp only; omega, by simp only; omega, by simp only; omega⟩, ?_, ?_, ?_⟩
        · have := hat 0 (by omega)
          simpa [Go.Deep.add_add] using this
        · have := hat 1 (by omega)
          simpa using this
        · have := hat 2 (by omega)
          simpa using this
    obtain ⟨f, hf⟩ := choose_lt hex
    obtain ⟨b, off, spot⟩ := a
    refine ⟨(List.range n0).map f, by simp, by simp; omega, ?_, ?_⟩
    · by_cases h0 : n0 = 0
      · subst h0; exact Or.inl rfl
      · have hspot : spot = none := by simpa [Addr.add] using World.cell?_spot (hf 0 (by omega)).2.1
        subst hspot
        have hget : ∀ k, k < n0 → ac ((List.range n0).map f) k = f k := fun k hk => by simp [ac, List.getD_eq_getElem?_getD, hk]
        refine Or.inr ⟨b, off, rfl, block_lt_of_cell (hf 0 (by omega)).2.1, fun k hk => ?_⟩
        have hk : k < n0 := by simpa using hk
        obtain ⟨-, g1, g2, g3⟩ := hf k hk
        rw [add_plain] at g1 g2 g3
        rw [add_plain] at g2 g3
        rw [hget k hk]
        intro j v hv
        rcases j with _ | _ | _ | j
        · simp [acV] at hv; rw [← hv]; exact g1
        · simp [acV] at hv; rw [← hv]; exact g2
        · simp [acV] at hv; rw [← hv]; exact g3
        · simp [acV] at hv
    · intro m hm
      obtain ⟨i, hi, rfl⟩ := List.mem_map.1 hm
      exact (hf i (List.mem_range.1 hi)).1
end Go.Proofs.YtpkiiegadckloaaDoor
