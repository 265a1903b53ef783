/- What one has, the other sent: the walk of the law. -/
import Derived.Test.YtpkiiegadckloaaDoorBkd
set_option linter.unusedSimpArgs false
set_option linter.unusedVariables false
namespace Go.Proofs.YtpkiiegadckloaaDoor
open Go.RowKit

theorem PRow.base {w : World} {n0 n1 : Nat} {v : Value} {ps : List Pst} (h : PRow w n0 v ps) (hn : n1 ≤ n0) : PRow w n1 v ps :=
  let ⟨⟨pl, h1, h2, h3⟩⟩ := h; ⟨⟨pl, h1, owns_base h2 hn, fun p hp => owns_base (h3 p hp) hn⟩⟩
theorem mov1_le (ac : ByteArray) (sg : Int) (e : Ent) : (mov1 ac sg e).length ≤ 1 := by unfold mov1; split <;> simp
theorem movE_le (ac : ByteArray) (sg : Int) : ∀ l : List Ent, (movE ac sg l).length ≤ l.length
  | [] => Nat.le_refl _
  | e :: r => by
    have h1 := mov1_le ac sg e
    have h2 := movE_le ac sg r
    simp only [movE, List.flatMap_cons, List.length_append, List.length_cons] at h1 h2 ⊢
    omega
theorem movP_bk (ac : ByteArray) (sg : Int) (acs : List ByteArray) (l : List Mv) : ∀ k : Nat, (movP ac sg (bkN acs l k)).length ≤ 2 * k
  | 0 => Nat.le_refl _
  | k + 1 => by
    have h1 := movP_bk ac sg acs l k
    have h2 := movE_le ac sg (mvE acs (mv l k))
    rw [bkN_succ]
    simp only [movP, List.flatMap_append, List.length_append, List.flatMap_cons, List.flatMap_nil, List.append_nil] at h1 ⊢
    simp only [mvE, List.length_cons, List.length_nil] at h2
    unfold mvE
    omega
theorem few_bk (acs : List ByteArray) (l : List Mv) (k : Nat) (hk : k ≤ 30) : FewP (bkN acs l k) := by
  refine ⟨by rw [bkN_length]; omega, fun p hp => ?_⟩
  obtain ⟨i, _, rfl⟩ := List.mem_map.1 hp
  exact ⟨show 0 < 2 by decide, show 2 ≤ 100000 by decide⟩
theorem mv_ok {l : List Mv} (h : ∀ m ∈ l, MvOK m) (k : Nat) : MvOK (mv l k) := by
  unfold mv
  rw [List.getD_eq_getElem?_getD]
  cases hk : l[k]? with
  | none => exact ⟨by decide, by decide, by decide⟩
  | some m => exact h m (List.mem_of_getElem? hk)
theorem small_bk (acs : List ByteArray) (l : List Mv) (k : Nat) (h : ∀ m ∈ l, MvOK m) : Small (bkN acs l k) := by
  intro p hp e he
  obtain ⟨i, _, rfl⟩ := List.mem_map.1 hp
  have := mv_ok h i
  obtain ⟨h1, h2, _⟩ := this
  simp only [mvE, List.mem_cons, List.not_mem_nil, or_false] at he
  rcases he with rfl | rfl
  · simp only; omega
  · simp only; omega

abbrev sFrom : ByteArray := ⟨#[102, 114, 111, 109]⟩
abbrev sTo : ByteArray := ⟨#[116, 111]⟩
abbrev sVosTo : ByteArray := ⟨#[118, 111, 115, 116, 114, 111, 58, 116, 111]⟩
abbrev sVosElse : ByteArray := ⟨#[118, 111, 115, 116, 114, 111, 58, 101, 108, 115, 101]⟩
abbrev sNosTo : ByteArray := ⟨#[110, 111, 115, 116, 114, 111, 58, 116, 111]⟩
abbrev sNosFrom : ByteArray := ⟨#[110, 111, 115, 116, 114, 111, 58, 102, 114, 111, 109]⟩
abbrev sNosElse : ByteArray := ⟨#[110, 111, 115, 116, 114, 111, 58, 101, 108, 115, 101]⟩
abbrev sVosFrom : ByteArray := ⟨#[118, 111, 115, 116, 114, 111, 58, 102, 114, 111, 109]⟩
def acsA : List ByteArray := [sVosTo, sVosElse, sNosTo]
def acsB : List ByteArray := [sNosFrom, sNosElse, sVosFrom]
theorem namesA : Names acsA := ⟨by decide, by decide, by decide, by decide⟩
theorem namesB : Names acsB := ⟨by decide, by decide, by decide, by decide⟩
theorem remL_le (fr to : ByteArray) (sent got : List Mon) : (remL fr to sent got).length ≤ 1 := by unfold remL; split <;> simp

set_option maxRecDepth 100000 in
set_option maxHeartbeats 1000000 in
theorem remits_walk (A0 A1 : Option Addr) (c0 c1 : Nat) (l m : List Mv) (w : World) (hl : l.length ≤ maxLen) (hm : m.length ≤ maxLen) (hA : MS w A0 l) (hB : MS w A1 m) (okA : ∀ x ∈ l, MvOK x) (okB : ∀ x ∈ m, MvOK x) :
    Calls Tryd.prog 3 #[.slice A0 l.length c0, .slice A1 m.length c1] w fun x w' => x = .returned (.bool true) ∧ Below w.heap.size w w' := by
  unfold maxLen at hl hm
  have HA := Lib.hid hA
  have HB := Lib.hid hB
  have OA := Lib.hid okA
  have OB := Lib.hid okB
  clear hA hB okA okB
  by_cases h1 : (l.length : Int) ≤ 30
  · have d1 : decide ((30 : Int) < l.length) = false := decide_eq_false (by omega)
    by_cases h2 : (m.length : Int) ≤ 30
    · have d2 : decide ((30 : Int) < m.length) = false := decide_eq_false (by omega)
      go_enter Tryd.func3, Tryd.ntmps3
      go_wp2_with fail
      refine (awake_any _).mono ?_
      rintro x w1 ⟨rfl, hb1⟩
      have HB1 := Lib.hid hb1
      clear hb1
      go_wp2_with fail
      obtain ⟨w2, hw2⟩ : ∃ w2, w2 = w1.alloc (.cells #[.string sVosTo, .string sVosElse, .string sNosTo] 9) := ⟨_, rfl⟩
      rw [← hw2]
      have HB2 := Lib.hid (bel2 HB1.out (show Below w1.heap.size w1 w2 from hw2 ▸ below_new _ _))
      have HV2 := Lib.hid (show SRow w2 0 (.slice (some ⟨w1.heap.size, 0, none⟩) 3 3) acsA from hw2 ▸ World.ownsRow_lit (base := 0) (e := 9) (size := 1) w1 _ 3 (Nat.zero_le _) (by decide) rfl)
      clear hw2
      refine (booked_any A0 c0 l _ acsA _ (by omega) (HA.out.keep HB2.out) OA.out HV2.out namesA).mono ?_
      rintro x w3 ⟨ga, na, Aa, Sa, rfl, hla, -, hb3⟩
      have HLA := Lib.hid hla
      have HB3 := Lib.hid (bel2 HB2.out hb3)
      clear hla hb3
      go_wp2_with fail
      obtain ⟨w4, hw4⟩ : ∃ w4, w4 = w3.alloc (.cells #[.string sNosFrom, .string sNosElse, .string sVosFrom] 9) := ⟨_, rfl⟩
      rw [← hw4]
      have hb4 : Below w3.heap.size w3 w4 := hw4 ▸ below_new _ _
      have HB4 := Lib.hid (bel2 HB3.out hb4)
      have HLA4 := Lib.hid (HLA.out.keepB hb4)
      have HV4 := Lib.hid (show SRow w4 0 (.slice (some ⟨w3.heap.size, 0, none⟩) 3 3) acsB from hw4 ▸ World.ownsRow_lit (base := 0) (e := 9) (size := 1) w3 _ 3 (Nat.zero_le _) (by decide) rfl)
      clear hw4 hb4
      refine (booked_any A1 c1 m _ acsB _ (by omega) (HB.out.keep HB4.out) OB.out HV4.out namesB).mono ?_
      rintro x w5 ⟨gb, nb, Ab, Sb, rfl, hlb, -, hb5⟩
      have HLB5 := Lib.hid hlb
      have HLA5 := Lib.hid (HLA4.out.keepB hb5)
      have HB5 := Lib.hid (bel2 HB4.out hb5)
      clear hlb hb5
      have FA := Lib.hid (few_bk acsA l l.length (by omega))
      have FB := Lib.hid (few_bk acsB m m.length (by omega))
      have SA := Lib.hid (small_bk acsA l l.length OA.out)
      have SB := Lib.hid (small_bk acsB m m.length OB.out)
      have MA := Lib.hid (movP_bk (vos sTo) 1 acsA l l.length)
      have MB := Lib.hid (movP_bk (nos sFrom) (-1) acsB m m.length)
      go_wp2_with fail
      refine (Remits_any sFrom sTo ga gb _ _ na nb Aa Ab _ _ _ _ Sa Sb _ _ _ HLA5.out HLB5.out FA.out FB.out SA.out SB.out rfl rfl (by have := MA.out; omega) (by have := MB.out; omega) (by decide) (by decide)).mono ?_
      rintro x w6 ⟨v1, rfl, hs1, hb6⟩
      have HS1 := Lib.hid hs1
      have HLA6 := Lib.hid (HLA5.out.keepB hb6)
      have HLB6 := Lib.hid (HLB5.out.keepB hb6)
      have HB6 := Lib.hid (bel2 HB5.out hb6)
      clear hs1 hb6
      go_wp2_with fail
      refine (Posts_any ga _ na Aa _ _ Sa _ HLA6.out FA.out).mono ?_
      rintro x w7 ⟨p1, rfl, hp1, hb7⟩
      have HP1 := Lib.hid (hp1.base (Nat.zero_le _))
      have HS7 := Lib.hid (owns_keep HS1.out hb7)
      have HLB7 := Lib.hid (HLB6.out.keepB hb7)
      have HB7 := Lib.hid (bel2 HB6.out hb7)
      clear hp1 hb7
      go_wp2_with fail
      refine (Posts_any gb _ nb Ab _ _ Sb _ HLB7.out FB.out).mono ?_
      rintro x w8 ⟨p2, rfl, hp2, hb8⟩
      have HP2 := Lib.hid (hp2.base (Nat.zero_le _))
      have HP18 := Lib.hid (HP1.out.keepB hb8)
      have HS8 := Lib.hid (owns_keep HS7.out hb8)
      have HB8 := Lib.hid (bel2 HB7.out hb8)
      clear hp2 hb8
      go_wp2_with fail
      refine (refRemits_any sFrom sTo 0 p1 p2 _ _ _ _ _ HP18.out HP2.out FA.out FB.out SA.out SB.out rfl rfl (by have := MA.out; omega) (by have := MB.out; omega) (by decide) (by decide)).mono ?_
      rintro x w9 ⟨v2, rfl, hs2, hb9⟩
      have HS2 := Lib.hid hs2
      have HS9 := Lib.hid (owns_keep HS8.out hb9)
      have HB9 := Lib.hid (bel2 HB8.out hb9)
      clear hs2 hb9
      go_wp2_with fail
      refine (Same_true v1 v2 _ (Nat.le_trans (remL_le _ _ _ _) (by decide)) _ _ _ HS9.out HS2.out).mono ?_
      rintro x w10 ⟨rfl, hb10⟩
      have HB10 := Lib.hid (bel2 HB9.out hb10)
      clear hb10
      go_wp2_with fail
      go_returns
      exact ⟨rfl, HB10.out⟩
    · have d2 : decide ((30 : Int) < m.length) = true := decide_eq_true (by omega)
      go_enter Tryd.func3, Tryd.ntmps3
      go_wp2_with fail
      refine (awake_any _).mono ?_
      rintro x w1 ⟨rfl, hb1⟩
      have HB1 := Lib.hid hb1
      clear hb1
      go_wp2_with fail
      refine (awake_any _).mono ?_
      rintro x w2 ⟨rfl, hb2⟩
      have HB2 := Lib.hid (bel2 HB1.out hb2)
      clear hb2
      go_wp2_with fail
      go_returns
      exact ⟨rfl, HB2.out⟩
  · have d1 : decide ((30 : Int) < l.length) = true := decide_eq_true (by omega)
    go_enter Tryd.func3, Tryd.ntmps3
    go_wp2_with fail
    refine (awake_any _).mono ?_
    rintro x w1 ⟨rfl, hb1⟩
    have HB1 := Lib.hid hb1
    clear hb1
    go_wp2_with fail
    refine (awake_any _).mono ?_
    rintro x w2 ⟨rfl, hb2⟩
    have HB2 := Lib.hid (bel2 HB1.out hb2)
    clear hb2
    go_wp2_with fail
    go_returns
    exact ⟨rfl, HB2.out⟩
end Go.Proofs.YtpkiiegadckloaaDoor
