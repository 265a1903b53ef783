/- The document's example. -/
import Derived.Test.YtpkiiegadckloaaDoorBnk
set_option linter.unusedSimpArgs false
set_option linter.unusedVariables false
namespace Go.Proofs.YtpkiiegadckloaaDoor
open Go.RowKit

theorem sentA : movP (vos ⟨#[98]⟩) 1 paP = [(sEur, 30), (sEur, 20)] := by decide
theorem gotB (n : Int) (hn : n = 30 ∨ n = 20) : movP (nos ⟨#[97]⟩) (-1) (pbP n) = [(sEur, n)] := by rcases hn with rfl | rfl <;> decide
theorem rem30 : remL ⟨#[97]⟩ ⟨#[98]⟩ [(sEur, 30), (sEur, 20)] [(sEur, 30)] = [] := by decide
theorem digs0 : Lib.decDigits 0 = [48] := by unfold Lib.decDigits; simp
def sLine : ByteArray := ⟨#[97, 32, 98, 32, 114, 101, 109, 105, 116, 115, 32, 48]⟩
theorem rem20 : remL ⟨#[97]⟩ ⟨#[98]⟩ [(sEur, 30), (sEur, 20)] [(sEur, 20)] = [sLine] := by
  rw [remL_some _ _ _ _ 0 (by decide) (fun j h => by omega) (by decide)]
  unfold lineR
  rw [digs0]
  rfl
theorem fewA : FewP paP := by unfold FewP paP payE; decide
theorem fewB (n : Int) : FewP (pbP n) := by
  refine ⟨show 1 ≤ 100000 by decide, fun p hp => ?_⟩
  simp only [pbP, List.mem_singleton] at hp
  subst hp
  exact ⟨show 0 < 2 by decide, show 2 ≤ 100000 by decide⟩
theorem smallA : Small paP := by unfold Small paP payE; decide
theorem smallB (n : Int) (hn : n = 30 ∨ n = 20) : Small (pbP n) := by rcases hn with rfl | rfl <;> (unfold Small pbP remE; decide)

set_option maxRecDepth 100000 in
set_option maxHeartbeats 1000000 in
theorem awake_any (w : World) : Calls Tryd.prog 6 #[] w fun x w' => x = .returned (.bool true) ∧ Below w.heap.size w w' := by
  go_enter Tryd.func6, Tryd.ntmps6
  go_wp2_with fail
  refine (banks_any 30 (Or.inl rfl) _).mono ?_
  rintro x w1 ⟨ga, gb, na, nb, Aa, Ab, Sa, Sb, rfl, hla, hlb, hb1⟩
  have HLA := Lib.hid hla
  have HLB := Lib.hid hlb
  have HB1 := Lib.hid hb1
  clear hla hlb hb1
  go_wp2_with fail
  refine (banks_any 20 (Or.inr rfl) _).mono ?_
  rintro x w2 ⟨gc, gd, nc, nd, Ac, Ad, Sc, Sd, rfl, hlc, hld, hb2⟩
  have HLA2 := Lib.hid (HLA.out.keepB hb2)
  have HLB2 := Lib.hid (HLB.out.keepB hb2)
  have HLC := Lib.hid hlc
  have HLD := Lib.hid hld
  have HB2 := Lib.hid (bel2 HB1.out hb2)
  clear hlc hld hb2
  go_wp2_with fail
  refine (Remits_any ⟨#[97]⟩ ⟨#[98]⟩ ga gb _ _ na nb Aa Ab _ _ _ _ Sa Sb _ _ _ HLA2.out HLB2.out fewA (fewB 30) smallA (smallB 30 (Or.inl rfl)) sentA (gotB 30 (Or.inl rfl)) (by decide) (by decide) (by decide) (by decide)).mono ?_
  rintro x w3 ⟨v1, rfl, hs1, hb3⟩
  rw [rem30] at hs1
  obtain ⟨A1, c1, rfl⟩ := hs1.slice
  have HB3 := Lib.hid (bel2 HB2.out hb3)
  have HLC3 := Lib.hid (HLC.out.keepB hb3)
  have HLD3 := Lib.hid (HLD.out.keepB hb3)
  clear hs1 hb3
  go_wp2_with fail
  refine (Remits_any ⟨#[97]⟩ ⟨#[98]⟩ gc gd _ _ nc nd Ac Ad _ _ _ _ Sc Sd _ _ _ HLC3.out HLD3.out fewA (fewB 20) smallA (smallB 20 (Or.inr rfl)) sentA (gotB 20 (Or.inr rfl)) (by decide) (by decide) (by decide) (by decide)).mono ?_
  rintro x w4 ⟨v2, rfl, hs2, hb4⟩
  rw [rem20] at hs2
  obtain ⟨q, c, rfl, -, -⟩ := hs2.form (by decide)
  have hc := hs2.cellAt 0 (by decide)
  simp only [List.map_cons, List.getElem?_cons_zero, Nat.add_zero, es, sLine, List.length_cons, List.length_nil, Nat.zero_add] at hc ⊢
  have HB4 := Lib.hid (bel2 HB3.out hb4)
  clear hs2 hb4
  go_wp2_with fail
  go_returns
  exact ⟨rfl, HB4.out⟩
end Go.Proofs.YtpkiiegadckloaaDoor
