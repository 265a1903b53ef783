/- Credits are told as the reference tells them: the walk of the law. -/
import Derived.Test.YtpkiiegadckloaaDoorCrt
import Derived.Test.YtpkiiegadckloaaDoorTak
import Derived.Test.YtpkiiegadckloaaDoorLet
import Derived.Test.YtpkiiegadckloaaDoorHld
set_option linter.unusedSimpArgs false
set_option linter.unusedVariables false
namespace Go.Proofs.YtpkiiegadckloaaDoor
open Go.RowKit

/-- An act: its kind, its hold's name, its sum. -/
structure Ac where
  kd : Nat
  id : Nat
  n : Nat
def ac (l : List Ac) (k : Nat) : Ac := l.getD k ⟨0, 0, 0⟩
def AcOK (m : Ac) : Prop := m.kd < 256 ∧ m.id < 256 ∧ m.n < 65536
def acV (m : Ac) : List Value := [.int .u8 m.kd, .int .u8 m.id, .int .u16 m.n]
/-- A slice at A reads as the acts l. -/
def AS (w : World) (A : Option Addr) (l : List Ac) : Prop :=
  l = [] ∨ ∃ b off, A = some ⟨b, off, none⟩ ∧ b < w.heap.size ∧ ∀ k, k < l.length → w.rangeAt b (off + k * 3) (acV (ac l k))
theorem AS.keep {w w' : World} {A : Option Addr} {l : List Ac} (h : AS w A l) (hb : Below w.heap.size w w') : AS w' A l := by
  rcases h with h | ⟨b, off, hA, hlt, h⟩
  · exact Or.inl h
  · exact Or.inr ⟨b, off, hA, Nat.lt_of_lt_of_le hlt hb.size, fun k hk => range_keep (h k hk) hlt hb⟩
def idTab : List ByteArray := [sD1, sD2, sOther, sCredit]
theorem idTab_ok (r : Nat) (hr : r < 4) : ∃ id, idTab[r]? = some id ∧ U id := by
  have : r = 0 ∨ r = 1 ∨ r = 2 ∨ r = 3 := by omega
  rcases this with rfl | rfl | rfl | rfl
  · exact ⟨_, rfl, Or.inl rfl⟩
  · exact ⟨_, rfl, Or.inr (Or.inl rfl)⟩
  · exact ⟨_, rfl, Or.inr (Or.inr (Or.inl rfl))⟩
  · exact ⟨_, rfl, Or.inr (Or.inr (Or.inr rfl))⟩
theorem hok0 : HOK [] := fun id u h => by cases h
theorem psok0 : PsOK [] := fun p hp => by cases hp
theorem nodup_hs {hs : List (ByteArray × Int)} {hl : List (ByteArray × Value)} (hp : (hs.map (·.1)).Perm (hl.map (·.1))) (hn : (hl.map (·.1)).Nodup) : (hs.map (·.1)).Nodup := hp.nodup_iff.2 hn

set_option maxRecDepth 100000 in
set_option maxHeartbeats 4000000 in
theorem credits_walk (nm : ByteArray) (A0 : Option Addr) (c0 : Nat) (l : List Ac) (w : World) (hl : l.length ≤ maxLen) (hA : AS w A0 l) (ok : ∀ x ∈ l, AcOK x) (hnm : nm.size ≤ 140737488351232) :
    Calls Tryd.prog 5 #[.string nm, .slice A0 l.length c0] w fun x w' => x = .returned (.bool true) ∧ Below w.heap.size w w' := by
  unfold maxLen at hl
  have HA := Lib.hid hA
  have OA := Lib.hid ok
  have HNM := Lib.hid hnm
  clear hA ok hnm
  by_cases h1 : (l.length : Int) ≤ 40
  · have d1 : decide ((40 : Int) < l.length) = false := decide_eq_false (by omega)
    go_enter Tryd.func5, Tryd.ntmps5
    go_wp2_with fail
    refine (awake_any _).mono ?_
    rintro x w1 ⟨rfl, hb1⟩
    have HB1 := Lib.hid hb1
    clear hb1
    go_wp2_with fail
    refine (New_any sG _).mono ?_
    rintro x w2 ⟨g, rfl, hl2, hb2⟩
    have HL2 := Lib.hid hl2
    have HB2 := Lib.hid (bel2 HB1.out hb2)
    clear hl2 hb2
    go_wp2_with fail
    refine (Open_any g sG 0 _ [] [] _ sAa sEur (-1099511627776) _ HL2.out (by decide) (by decide) (by decide) (by decide) (by decide) (by decide) (by decide) rfl (by decide)).mono ?_
    rintro x w3 ⟨rfl, hl3, hc3⟩
    have HL3 := Lib.hid hl3
    have HB3 := Lib.hid (show Below w.heap.size w w3 from HB2.out.trans (hc3.below HB2.out.size (fun k hk => Nat.le_trans HB1.out.size hk.1)))
    clear hl3 hc3
    go_wp2_with fail
    refine (Open_any g sG 1 _ [] [] _ sBb sEur 0 _ HL3.out (by decide) (by decide) (by decide) (by decide) (by decide) (by decide) (by decide) (by unfold upd; rw [if_neg (by decide)]) (by decide)).mono ?_
    rintro x w4 ⟨rfl, hl4, hc4⟩
    have HB4 := Lib.hid (show Below w.heap.size w w4 from HB3.out.trans (hc4.below HB3.out.size (fun k hk => Nat.le_trans HB1.out.size hk.1)))
    have HC4 := Lib.hid (show Cst w4 g 0 w.heap.size from ⟨_, [], [], _, hl4, ⟨⟨-1099511627776, 0, 0⟩, by unfold upd; rw [if_neg (by decide), if_pos rfl], by decide, by decide, by decide, by decide, by decide, by decide⟩,
      ⟨⟨0, 0, 0⟩, by unfold upd; rw [if_pos rfl], by decide, by decide, by decide, by decide, by decide, by decide⟩, hok0, Nat.le_refl _, Nat.le_refl _, psok0, fun j hj => Nat.le_trans HB1.out.size hj.1⟩)
    clear hl4 hc4
    go_wp2_with fail
    go_loopw [24] (fun i wr => ∃ k : Nat, k ≤ l.length ∧ i = .int .i64 k ∧ Cst wr g k w.heap.size ∧ Below w.heap.size w wr) (fun i _ => l.length - (intOf i).toNat)
    case atStart => exact ⟨0, Nat.zero_le _, rfl, HC4.out, HB4.out⟩
    case round =>
      obtain ⟨k, hk, rfl, hc, hb⟩ := hrel
      by_cases hk2 : k < l.length
      · have hk1 : (k : Int) < l.length := by omega
        have hk40 : k ≤ 40 := by omega
        obtain ⟨b, off, rfl, hbl, hrg⟩ : ∃ b off, A0 = some ⟨b, off, none⟩ ∧ b < w.heap.size ∧ w.rangeAt b (off + k * 3) (acV (ac l k)) := by
          rcases HA.out with h | ⟨b, off, h1, h2, h3⟩
          · rw [h] at hk2; simp at hk2
          · exact ⟨b, off, h1, h2, h3 k hk2⟩
        have hrg2 := range_keep hrg hbl hb
        obtain ⟨m, hm⟩ : ∃ m, ac l k = m := ⟨_, rfl⟩
        have hmok : AcOK m := OA.out m (by rw [← hm]; unfold ac; rw [List.getD_eq_getElem?_getD, List.getElem?_eq_getElem hk2]; exact List.getElem_mem hk2)
        rw [hm] at hrg2
        have HRG := Lib.hid hrg2
        have hbr : b < wr.heap.size := Nat.lt_of_lt_of_le hbl hb.size
        obtain ⟨mK, mI, mN⟩ := m
        obtain ⟨hn1, hn2, hn3⟩ := hmok
        simp only at hn1 hn2 hn3
        have hmd := Nat.mod_lt mI (show 0 < 4 by omega)
        have hkd := Nat.mod_lt mK (show 0 < 4 by omega)
        obtain ⟨r, hr⟩ : ∃ r, r = mI % 4 := ⟨_, rfl⟩
        obtain ⟨s, hs⟩ : ∃ s, s = mK % 4 := ⟨_, rfl⟩
        rw [← hr] at hmd
        rw [← hs] at hkd
        obtain ⟨id, hid, hu⟩ := idTab_ok r hmd
        have hr1 : (0 : Int) ≤ r := by omega
        have hr2 : (r : Int) < 4 := by omega
        have hrm : (mI : Int).tmod 4 = r := by rw [hr, Int.natCast_emod]; exact Int.tmod_eq_emod_of_nonneg (by omega)
        have hsm : (mK : Int).tmod 4 = s := by rw [hs, Int.natCast_emod]; exact Int.tmod_eq_emod_of_nonneg (by omega)
        have hwn : IntKind.i64.wrap (mN : Int) = mN := IntWalk.i64_in _ (by omega)
        have hcell : ((wr.alloc (.cells #[.int .u8 mK, .int .u8 mI, .int .u16 mN] 44)).alloc (.cells #[.string sD1, .string sD2, .string sOther, .string sCredit] 9)).cell? ⟨wr.heap.size + 1, r, none⟩ = some (.string id) := by
          rw [cell_of_row _ _ r _ _ _ (by have := heap_alloc_new (wr.alloc (.cells #[.int .u8 mK, .int .u8 mI, .int .u16 mN] 44)) (.cells #[.string sD1, .string sD2, .string sOther, .string sCredit] 9); rw [show (wr.alloc (.cells #[.int .u8 mK, .int .u8 mI, .int .u16 mN] 44)).heap.size = wr.heap.size + 1 by simp] at this; exact this)]
          have h5 : ((#[.string sD1, .string sD2, .string sOther, .string sCredit] : Array Value)[r]?) = (idTab.map Value.string)[r]? := by simp [idTab]
          rw [h5, List.getElem?_map, hid]
          rfl
        have HU := Lib.hid hu
        have HC := Lib.hid (hc.keepB (w' := (wr.alloc (.cells #[.int .u8 mK, .int .u8 mI, .int .u16 mN] 44)).alloc (.cells #[.string sD1, .string sD2, .string sOther, .string sCredit] 9)) (bel2 (below_new _ _) (below_new _ _)))
        have HB := Lib.hid (bel2 (bel2 hb (below_new wr (.cells #[.int .u8 mK, .int .u8 mI, .int .u16 mN] 44))) (below_new _ (.cells #[.string sD1, .string sD2, .string sOther, .string sCredit] 9)))
        have HN3 := Lib.hid hn3
        clear hrg hrg2 hc hb hm hk hr hs hid hu hmd hn1 hn2 hn3
        have hs4 : s = 0 ∨ s = 1 ∨ s = 2 ∨ s = 3 := by omega
        clear hkd
        rcases hs4 with rfl | rfl | rfl | rfl
        · go_wp2_with (first | (refine wpList_load_mid rfl 44 (.tmp 26) rfl b (off + k * 3) rfl [.int .u8 mK, .int .u8 mI, .int .u16 mN] _ HRG.out Tryd.underlying44 rfl (by kernel_rfl) ?_))
          refine (Hold_any g k w.heap.size id mN _ hk40 HB.out.size HU.out (by omega) (by have := HN3.out; omega) HC.out).mono ?_
          rintro x w6 ⟨⟨cc, rfl⟩, hc6, hb6⟩
          have HF := Lib.hid (And.intro hc6 (HB.out.trans hb6))
          clear hc6 hb6 hcell
          go_wp2_with fail
          go_roundw
          case measure => simp [intOf]; omega
          case rel => exact ⟨k + 1, by omega, by go_num, HF.out.1, HF.out.2⟩
        · go_wp2_with (first | (refine wpList_load_mid rfl 44 (.tmp 26) rfl b (off + k * 3) rfl [.int .u8 mK, .int .u8 mI, .int .u16 mN] _ HRG.out Tryd.underlying44 rfl (by kernel_rfl) ?_))
          refine (Hold_any g k w.heap.size id mN _ hk40 HB.out.size HU.out (by omega) (by have := HN3.out; omega) HC.out).mono ?_
          rintro x w6 ⟨⟨cc, rfl⟩, hc6, hb6⟩
          have HF := Lib.hid (And.intro hc6 (HB.out.trans hb6))
          clear hc6 hb6 hcell
          go_wp2_with fail
          go_roundw
          case measure => simp [intOf]; omega
          case rel => exact ⟨k + 1, by omega, by go_num, HF.out.1, HF.out.2⟩
        · go_wp2_with (first | (refine wpList_load_mid rfl 44 (.tmp 26) rfl b (off + k * 3) rfl [.int .u8 mK, .int .u8 mI, .int .u16 mN] _ HRG.out Tryd.underlying44 rfl (by kernel_rfl) ?_))
          refine (Take_any g k w.heap.size id mN _ hk40 HB.out.size HU.out (by omega) (by have := HN3.out; omega) HC.out).mono ?_
          rintro x w6 ⟨⟨cc, rfl⟩, hc6, hb6⟩
          have HF := Lib.hid (And.intro hc6 (HB.out.trans hb6))
          clear hc6 hb6 hcell
          go_wp2_with fail
          go_roundw
          case measure => simp [intOf]; omega
          case rel => exact ⟨k + 1, by omega, by go_num, HF.out.1, HF.out.2⟩
        · go_wp2_with (first | (refine wpList_load_mid rfl 44 (.tmp 26) rfl b (off + k * 3) rfl [.int .u8 mK, .int .u8 mI, .int .u16 mN] _ HRG.out Tryd.underlying44 rfl (by kernel_rfl) ?_))
          refine (Let_any g k w.heap.size id _ hk40 HB.out.size HC.out).mono ?_
          rintro x w6 ⟨⟨cc, rfl⟩, hc6, hb6⟩
          have HF := Lib.hid (And.intro hc6 (HB.out.trans hb6))
          clear hc6 hb6 hcell
          go_wp2_with fail
          go_roundw
          case measure => simp [intOf]; omega
          case rel => exact ⟨k + 1, by omega, by go_num, HF.out.1, HF.out.2⟩
      · have hk1 : ¬ (k : Int) < l.length := by omega
        obtain ⟨A, ps, hl', S, e1, e2, e3, e4, e5, e6, e7, e8⟩ := hc
        obtain ⟨w5, rfl⟩ : ∃ x, x = wr := ⟨_, rfl⟩
        have HL5 := Lib.hid e1
        have HHO := Lib.hid e4
        have HPS := Lib.hid e7
        have HLE := Lib.hid (show ps.length ≤ 1000 by omega)
        have HHL := Lib.hid (show hl'.length ≤ 1000 by omega)
        have HFW := Lib.hid (show FewP ps from ⟨by omega, fun p hp => by rw [(e7 p hp).2]; omega⟩)
        have HB5 := Lib.hid hb
        clear e1 e2 e3 e4 e5 e6 e7 e8 hb hk hk2
        go_wp2_with fail
        refine (Credits_any nm g sG 2 A ps hl' S w5 HL5.out HPS.out HLE.out HHO.out HHL.out HNM.out).mono ?_
        rintro x w6 ⟨v1, rfl, hr6, hb6⟩
        have HR6 := Lib.hid hr6
        have HL6 := Lib.hid (HL5.out.keepB hb6)
        have HB6 := Lib.hid (bel2 HB5.out hb6)
        clear hr6 hb6
        go_wp2_with fail
        refine (Posts_any g sG 2 A ps hl' S w6 HL6.out HFW.out).mono ?_
        rintro x w7 ⟨p1, rfl, hp7, hb7⟩
        have HP7 := Lib.hid hp7
        have HR7 := Lib.hid (owns_keep HR6.out hb7)
        have HL7 := Lib.hid (HL6.out.keepB hb7)
        have HB7 := Lib.hid (bel2 HB6.out hb7)
        clear hp7 hb7
        go_wp2_with fail
        refine (Holds_any g sG 2 A ps hl' S w7 HL7.out HHO.out (by have := HHL.out; omega)).mono ?_
        rintro x w8 ⟨v2, rfl, ⟨hs, hr8, hp8⟩, hb8⟩
        have HH8 := Lib.hid hr8
        have HPM := Lib.hid hp8
        have HP8 := Lib.hid (HP7.out.keepB hb8)
        have HR8 := Lib.hid (owns_keep HR7.out hb8)
        have HB8 := Lib.hid (bel2 HB7.out hb8)
        clear hr8 hp8 hb8
        go_wp2_with fail
        refine (refCredits_any nm _ _ p1 v2 ps hs w8 HP8.out HPS.out HLE.out HH8.out (by have h1 := HPM.out.length_eq; simp at h1; have := HHL.out; omega) (nodup_hs HPM.out HL7.out.hnodup) HNM.out).mono ?_
        rintro x w9 ⟨v3, rfl, hr9, hb9⟩
        rw [crL_perm nm ps HPM.out] at hr9
        have HR9 := Lib.hid hr9
        have HR89 := Lib.hid (owns_keep HR8.out hb9)
        have HB9 := Lib.hid (bel2 HB8.out hb9)
        clear hr9 hb9
        go_wp2_with fail
        refine (Same_true v1 v3 (crL nm ps (hl'.map (·.1)) (idsC ps)) (Nat.le_trans (crL_len _ _ _ _) (by have := idsN_len (cntC ps sD1) (cntC ps sD2); unfold idsC; omega)) _ _ _ HR89.out HR9.out).mono ?_
        rintro x w10 ⟨rfl, hb10⟩
        have HB10 := Lib.hid (bel2 HB9.out hb10)
        clear hb10
        go_wp2_with fail
        go_returns
        exact ⟨rfl, HB10.out⟩
  · have d1 : decide ((40 : Int) < l.length) = true := decide_eq_true (by omega)
    go_enter Tryd.func5, Tryd.ntmps5
    go_wp2_with fail
    refine (awake_any _).mono ?_
    rintro x w1 ⟨rfl, hb1⟩
    have HB1 := Lib.hid hb1
    clear hb1
    go_wp2_with fail
    refine (awake_any _).mono ?_
    rintro x w2 ⟨rfl, hb2⟩
    have HB2 := Lib.hid (bel2 HB1.out hb2)
    clear hb2
    go_wp2_with fail
    go_returns
    exact ⟨rfl, HB2.out⟩
end Go.Proofs.YtpkiiegadckloaaDoor
