/- What one got otherwise than the other one sent: the program's Remits. -/
import Derived.Test.YtpkiiegadckloaaDoorRmt
set_option linter.unusedSimpArgs false
set_option linter.unusedVariables false
namespace Go.Proofs.YtpkiiegadckloaaDoor
open Go.RowKit

theorem quietA {w w2 wr : World} (n : Nat) (o : Obj) (h : Below w2.heap.size w2 wr) (h2 : Below w.heap.size w w2) : Below w.heap.size w ((wr.alloc o).drewN n) := (bel2 (bel2 h2 h) (below_new _ _)).trans ⟨rfl, rfl, rfl, Nat.le_refl _, fun _ _ => rfl⟩
theorem Itoa_any (i : Nat) (hi : i < 100) (w : World) : Calls Tryd.prog 25 #[.int .i64 i] w fun x w' => x = .returned (.string ⟨(Lib.decDigits i).toArray⟩) ∧ Below w.heap.size w w' :=
  (Tryd.strconv_Itoa_small i hi w).mono fun x w' ⟨h1, h2⟩ => ⟨h1, h2 ▸ Below.refl _ _⟩

set_option maxRecDepth 100000 in
set_option maxHeartbeats 1000000 in
theorem Remits_any (fr to : ByteArray) (ga gb : Nat) (oa ob : ByteArray) (na nb : Nat) (Aa Ab : Key → Option Acc) (pa pb : List Pst) (ha hb : List (ByteArray × Value)) (Sa Sb : Nat → Prop) (sent got : List Mon) (w : World)
    (hA : LedAt w ga oa na Aa pa ha Sa) (hB : LedAt w gb ob nb Ab pb hb Sb) (fa : FewP pa) (fb : FewP pb) (sa : Small pa) (sb : Small pb)
    (es : movP (vos to) 1 pa = sent) (eg : movP (nos fr) (-1) pb = got) (hs : sent.length < 100) (hg : got.length < 100) (hfr : fr.size ≤ 100) (hto : to.size ≤ 100) :
    Calls Tryd.prog 9 #[.string fr, .string to, .pointer (some ⟨ga, 0, none⟩), .pointer (some ⟨gb, 0, none⟩)] w fun x w' => ∃ v, x = .returned v ∧ SRow w' w.heap.size v (remL fr to sent got) ∧ Below w.heap.size w w' := by
  have HA := Lib.hid hA
  have HB := Lib.hid hB
  have FA := Lib.hid fa
  have FB := Lib.hid fb
  have SA := Lib.hid sa
  have SB := Lib.hid sb
  have ES := Lib.hid es
  have EG := Lib.hid eg
  have HS := Lib.hid hs
  have HG := Lib.hid hg
  clear hA hB fa fb sa sb es eg hs hg
  go_enter Tryd.func9, Tryd.ntmps9
  go_wp2_with fail
  refine (moved_fn 23 1 (Or.inl rfl) (enters_of Tryd.func23 (by kernel_rfl) rfl) (fun n w => by simpa using up_any n w) ga oa na Aa pa ha Sa (vos to) _ HA.out FA.out SA.out (by rw [ES.out]; have := HS.out; omega)).mono ?_
  rintro x w1 ⟨u1, rfl, ho1, hb1⟩
  rw [ES.out] at ho1
  obtain ⟨A1, c1, rfl⟩ : ∃ A1 c1, u1 = .slice A1 sent.length c1 := by
    rcases ho1.2 with ⟨rfl, h0⟩ | ⟨b', cap, cur, rfl, _⟩
    · exact ⟨none, 0, by rw [h0]⟩
    · exact ⟨_, _, rfl⟩
  have HO1 := Lib.hid ho1
  have HB1 := Lib.hid hb1
  have HBB := Lib.hid (HB.out.keepB hb1)
  clear ho1 hb1
  go_wp2_with fail
  refine (moved_fn 24 (-1) (Or.inr rfl) (enters_of Tryd.func24 (by kernel_rfl) rfl) (fun n w => by simpa using down_any n w) gb ob nb Ab pb hb Sb (nos fr) _ HBB.out FB.out SB.out (by rw [EG.out]; have := HG.out; omega)).mono ?_
  rintro x w2 ⟨u2, rfl, ho2, hb2⟩
  rw [EG.out] at ho2
  obtain ⟨A2, c2, rfl⟩ : ∃ A2 c2, u2 = .slice A2 got.length c2 := by
    rcases ho2.2 with ⟨rfl, h0⟩ | ⟨b', cap, cur, rfl, _⟩
    · exact ⟨none, 0, by rw [h0]⟩
    · exact ⟨_, _, rfl⟩
  have HO2 := Lib.hid ho2
  have HP1 := Lib.hid (owns_keep HO1.out hb2)
  have HB2 := Lib.hid (bel2 HB1.out hb2)
  have hg63 : (got.length : Int) < 100 := by have := HG.out; omega
  have hs63 : (sent.length : Int) < 100 := by have := HS.out; omega
  clear ho2 hb2
  go_wp2_with fail
  go_loopw [23] (fun i wr => ∃ k : Nat, k ≤ got.length ∧ i = .int .i64 k ∧ (∀ j, j < k → badAt sent got j = false) ∧ Below w2.heap.size w2 wr) (fun i _ => got.length - (intOf i).toNat)
  case atStart => exact ⟨0, Nat.zero_le _, rfl, fun j h => by omega, Below.refl _ _⟩
  case round =>
    obtain ⟨k, hk, rfl, hok, hb⟩ := hrel
    have HOK := Lib.hid hok
    have HB := Lib.hid hb
    clear hok hb
    by_cases hk2 : k < got.length
    · have hk1 : (k : Int) < got.length := by omega
      have hk0 : (0 : Int) ≤ k := by omega
      have hk100 : k < 100 := by omega
      have hk2' := hk2
      obtain ⟨q2, cc2, h2, -, -⟩ := HO2.out.form (by omega)
      injection h2 with h2 _ h4
      subst h2 h4
      have o2 := owns_keep HO2.out HB.out
      have g1 := (o2.cellAt (k * 2) (by omega)).trans (mflat_at got k hk2).1
      have g2 := (o2.cellAt (k * 2 + 1) (by omega)).trans (mflat_at got k hk2).2
      have hq : q2 < wr.heap.size := (o2.lt _ rfl).2
      clear o2
      by_cases hsl : k < sent.length
      · have hs1 : (k : Int) < sent.length := by omega
        have hge : decide (sent.length ≤ k) = false := decide_eq_false (by omega)
        obtain ⟨q1, cc1, h1, -, -⟩ := HP1.out.form (by omega)
        injection h1 with h1 _ h3
        subst h1 h3
        have o1 := owns_keep HP1.out HB.out
        have hq1 : q1 < wr.heap.size := (o1.lt _ rfl).2
        have s1 := (o1.cellAt (k * 2) (by omega)).trans (mflat_at sent k hsl).1
        have s2 := (o1.cellAt (k * 2 + 1) (by omega)).trans (mflat_at sent k hsl).2
        clear o1 hk hk2
        obtain ⟨m1, hm1⟩ : ∃ m, mn sent k = m := ⟨_, rfl⟩
        obtain ⟨m2, hm2⟩ : ∃ m, mn got k = m := ⟨_, rfl⟩
        rw [hm1] at s1 s2
        rw [hm2] at g1 g2
        have hnm := fun W => neq_mon m1 m2 W
        by_cases hmm : m1 = m2
        · have hdm : decide (m1 = m2) = true := decide_eq_true hmm
          have HBD := Lib.hid (show badAt sent got k = false by unfold badAt; rw [hm1, hm2, hdm]; simpa using hsl)
          rw [hdm] at hnm
          obtain ⟨x1, y1⟩ := m1
          obtain ⟨x2, y2⟩ := m2
          simp only at s1 s2 g1 g2 hnm
          clear hmm hdm hm1 hm2 hsl
          go_wp2_with fail
          go_quiet (fail)
          go_wp2_with fail
          go_roundw
          case measure => simp [intOf]; omega
          case rel => exact ⟨k + 1, by omega, by go_num, fun j hj => by
            by_cases hjk : j = k
            · rw [hjk]; exact HBD.out
            · exact HOK.out j (by omega), (bel2 HB.out (below_new _ _)).trans ⟨rfl, rfl, rfl, Nat.le_refl _, fun _ _ => rfl⟩⟩
        · have hdm : decide (m1 = m2) = false := decide_eq_false hmm
          have HBD := Lib.hid (show badAt sent got k = true by unfold badAt; rw [hm1, hm2, hdm]; simp)
          rw [hdm] at hnm
          obtain ⟨x1, y1⟩ := m1
          obtain ⟨x2, y2⟩ := m2
          simp only at s1 s2 g1 g2 hnm
          clear hmm hdm hm1 hm2 hsl
          go_wp2_with fail
          go_quiet (fail)
          go_wp2_with fail
          have HRL := Lib.hid (remL_some fr to sent got k hk2' HOK.out HBD.out)
          have HDL := Lib.hid (decDigits_len k hk100)
          refine (Itoa_any k hk100 _).mono ?_
          rintro x w3 ⟨rfl, hb3⟩
          obtain ⟨dg, hdg⟩ : ∃ dg, Lib.decDigits k = dg := ⟨_, rfl⟩
          have hdl := HDL.out
          have HB3 := Lib.hid (bel2 (quietA nq _ HB.out HB2.out) hb3)
          have HDG := Lib.hid hdg
          rw [hdg] at hdl ⊢
          clear hdg hb3
          go_wp2
          go_returns
          refine ⟨_, rfl, ?_, bel2 HB3.out (below_new _ _)⟩
          rw [HRL.out]
          unfold lineR
          rw [HDG.out]
          exact World.ownsRow_lit (base := w.heap.size) (e := 9) (size := 1) w3 #[_] 1 HB3.out.size (by unfold maxLen; omega) rfl
      · have hge : decide (sent.length ≤ k) = true := decide_eq_true (by omega)
        have HBD := Lib.hid (show badAt sent got k = true by unfold badAt; simp; exact Or.inl (by omega))
        clear hk hk2
        go_wp2_with fail
        go_quiet (fail)
        go_wp2_with fail
        have HRL := Lib.hid (remL_some fr to sent got k hk2' HOK.out HBD.out)
        have HDL := Lib.hid (decDigits_len k hk100)
        refine (Itoa_any k hk100 _).mono ?_
        rintro x w3 ⟨rfl, hb3⟩
        obtain ⟨dg, hdg⟩ : ∃ dg, Lib.decDigits k = dg := ⟨_, rfl⟩
        have hdl := HDL.out
        have HB3 := Lib.hid (bel2 (quietA nq _ HB.out HB2.out) hb3)
        have HDG := Lib.hid hdg
        rw [hdg] at hdl ⊢
        clear hdg hb3
        go_wp2
        go_returns
        refine ⟨_, rfl, ?_, bel2 HB3.out (below_new _ _)⟩
        rw [HRL.out]
        unfold lineR
        rw [HDG.out]
        exact World.ownsRow_lit (base := w.heap.size) (e := 9) (size := 1) w3 #[_] 1 HB3.out.size (by unfold maxLen; omega) rfl
    · have hk1 : ¬ (k : Int) < got.length := by omega
      have hkl : k = got.length := by omega
      have HRL := Lib.hid (remL_none fr to sent got (fun j hj => HOK.out j (by omega)))
      clear hk hk2 hkl
      go_wp2
      go_returns
      exact ⟨_, rfl, by rw [HRL.out]; exact World.ownsRow_nil _ _ _ _, HB2.out.trans (HB.out.mono HB2.out.size)⟩
end Go.Proofs.YtpkiiegadckloaaDoor
