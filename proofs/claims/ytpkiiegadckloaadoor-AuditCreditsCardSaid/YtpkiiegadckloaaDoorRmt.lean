/- What one got otherwise than the other one sent: the two functions Remits. -/
import Derived.Test.YtpkiiegadckloaaDoorRmv
import Derived.Test.YtpkiiegadckloaaDoorSam
import Derived.Test.YtpkiiegadckloaaDoorDig
set_option linter.unusedSimpArgs false
set_option linter.unusedVariables false
namespace Go.Proofs.YtpkiiegadckloaaDoor
open Go.RowKit

def mn (l : List Mon) (k : Nat) : Mon := l.getD k (⟨#[]⟩, 0)
def badAt (sent got : List Mon) (k : Nat) : Bool := !(decide (k < sent.length) && decide (mn sent k = mn got k))
theorem quietB {w w2 wr : World} (n : Nat) (h : Below w2.heap.size w2 wr) (h2 : Below w.heap.size w w2) : Below w.heap.size w (wr.drewN n) := (bel2 h2 h).trans ⟨rfl, rfl, rfl, Nat.le_refl _, fun _ _ => rfl⟩
theorem decDigits_len (i : Nat) (h : i < 100) : (Lib.decDigits i).length ≤ 2 := by
  by_cases h9 : i < 10
  · unfold Lib.decDigits
    rw [dif_pos h9]
    simp
  · unfold Lib.decDigits
    rw [dif_neg h9]
    unfold Lib.decDigits
    rw [dif_pos (by omega)]
    simp
/-- The line of a place. -/
def lineR (fr to : ByteArray) (k : Nat) : ByteArray := fr ++ ⟨#[32]⟩ ++ to ++ ⟨#[32, 114, 101, 109, 105, 116, 115, 32]⟩ ++ ⟨(Lib.decDigits k).toArray⟩
def remL (fr to : ByteArray) (sent got : List Mon) : List ByteArray := match (List.range got.length).find? (badAt sent got) with
  | none => []
  | some k => [lineR fr to k]
theorem remL_none (fr to : ByteArray) (sent got : List Mon) (h : ∀ j, j < got.length → badAt sent got j = false) : remL fr to sent got = [] := by
  unfold remL
  rw [List.find?_eq_none.2 (fun x hx => by rw [h x (List.mem_range.1 hx)]; simp)]
theorem remL_some (fr to : ByteArray) (sent got : List Mon) (k : Nat) (hk : k < got.length) (h : ∀ j, j < k → badAt sent got j = false) (hb : badAt sent got k = true) : remL fr to sent got = [lineR fr to k] := by
  unfold remL
  have : (List.range got.length).find? (badAt sent got) = some k := by
    rw [List.find?_eq_some_iff_getElem]
    refine ⟨hb, k, by simpa using hk, by simp, fun j hj => by simp [h j hj]⟩
  rw [this]

theorem mflat_at : ∀ (l : List Mon) (k : Nat), k < l.length → (mflat l)[k * 2]? = some (.string (mn l k).1) ∧ (mflat l)[k * 2 + 1]? = some (.int .i64 (mn l k).2)
  | [], _, h => by simp at h
  | q :: r, 0, _ => ⟨rfl, rfl⟩
  | q :: r, k + 1, h => by
    have := mflat_at r k (by simpa using h)
    rw [show (k + 1) * 2 = k * 2 + 1 + 1 by omega]
    simpa [mflat, mn, Nat.add_assoc] using this

theorem plain2 : Tryd.prog.plainKey 2 = true := by kernel_rfl
theorem fields62 : Tryd.prog.fieldsOf 62 = #[⟨ "Currency", 9, 0, false, "", "", 0⟩, ⟨ "Amount", 2, 1, false, "", "", 16⟩] := by kernel_rfl
theorem parM0 (a : ByteArray) (n : Int) (w : World) : (part 9 #[.string a, .int .i64 n] 0).run Tryd.prog w = .ok (.string a) w := run_part_plain w plain9 rfl
theorem parM1 (a : ByteArray) (n : Int) (w : World) : (part 2 #[.string a, .int .i64 n] 1).run Tryd.prog w = .ok (.int .i64 n) w := run_part_plain w plain2 rfl
theorem eq_mon (a b : Mon) (w : World) : (Op.equal 62 (.agg #[.string a.1, .int .i64 a.2]) (.agg #[.string b.1, .int .i64 b.2])).run Tryd.prog w = .ok (decide (a = b)) w := by
  unfold Op.equal Op.maxDepth
  rw [run_equalIn_agg w 9999 62 _ _ (by rw [fields62]; exact Tryd.underlying62) (by kernel_rfl), fields62]
  simp only [Op.eqFields, Sem.run_bind, parM0, Result.andThen_ok]
  rw [if_pos (by decide)]
  simp only [Sem.run_bind, parM0, parM1, Result.andThen_ok, run_equalIn_string w _ 9 _ _ Tryd.underlying9]
  obtain ⟨a1, a2⟩ := a
  obtain ⟨b1, b2⟩ := b
  by_cases h1 : a1 = b1
  · subst h1
    simp only [beq_self_eq_true, Bool.not_true, Bool.false_eq_true, if_false]
    rw [if_pos (by decide)]
    simp only [Sem.run_bind, parM0, parM1, Result.andThen_ok, run_equalIn_int w _ 2 _ _ _ _ Tryd.underlying2]
    by_cases h2 : a2 = b2
    · subst h2
      simp
    · simp [h2]
  · have : (a1.toList == b1.toList) = false := by
      rw [Bool.eq_false_iff]
      intro hh
      exact h1 (toList_inj (by simpa using hh))
    simp [this, h1]
theorem neq_mon (a b : Mon) (w : World) : (binOp .neq 62 (.agg #[.string a.1, .int .i64 a.2]) (.agg #[.string b.1, .int .i64 b.2])).run Tryd.prog w = .ok (.bool (!decide (a = b))) w := by
  simp [binOp, eq_mon]
theorem PRow.keepB {w w' : World} {n0 : Nat} {v : Value} {ps : List Pst} (h : PRow w n0 v ps) (hb : Below w.heap.size w w') : PRow w' n0 v ps :=
  let ⟨⟨pl, h1, h2, h3⟩⟩ := h; ⟨⟨pl, h1, owns_keep h2 hb, fun p hp => owns_keep (h3 p hp) hb⟩⟩
abbrev vos (to : ByteArray) : ByteArray := ⟨#[118, 111, 115, 116, 114, 111, 58]⟩ ++ to
abbrev nos (fr : ByteArray) : ByteArray := ⟨#[110, 111, 115, 116, 114, 111, 58]⟩ ++ fr

set_option maxRecDepth 100000 in
set_option maxHeartbeats 1000000 in
theorem refRemits_any (fr to : ByteArray) (n0 : Nat) (va vb : Value) (pa pb : List Pst) (sent got : List Mon) (w : World) (ha : PRow w n0 va pa) (hb : PRow w n0 vb pb) (fa : FewP pa) (fb : FewP pb) (sa : Small pa) (sb : Small pb)
    (es : movP (vos to) 1 pa = sent) (eg : movP (nos fr) (-1) pb = got) (hs : sent.length < 100) (hg : got.length < 100) (hfr : fr.size ≤ 100) (hto : to.size ≤ 100) :
    Calls Tryd.prog 10 #[.string fr, .string to, va, vb] w fun x w' => ∃ v, x = .returned v ∧ SRow w' w.heap.size v (remL fr to sent got) ∧ Below w.heap.size w w' := by
  have HA := Lib.hid ha
  have HB := Lib.hid hb
  have FA := Lib.hid fa
  have FB := Lib.hid fb
  have SA := Lib.hid sa
  have SB := Lib.hid sb
  have ES := Lib.hid es
  have EG := Lib.hid eg
  have HS := Lib.hid hs
  have HG := Lib.hid hg
  clear ha hb fa fb sa sb es eg hs hg
  go_enter Tryd.func10, Tryd.ntmps10
  go_wp2_with fail
  refine (refMoved_any n0 va pa 1 (Or.inl rfl) (vos to) _ HA.out FA.out SA.out (by rw [ES.out]; have := HS.out; omega)).mono ?_
  rintro x w1 ⟨u1, rfl, ho1, hb1⟩
  rw [ES.out] at ho1
  obtain ⟨A1, c1, rfl⟩ : ∃ A1 c1, u1 = .slice A1 sent.length c1 := by
    rcases ho1.2 with ⟨rfl, h0⟩ | ⟨b', cap, cur, rfl, _⟩
    · exact ⟨none, 0, by rw [h0]⟩
    · exact ⟨_, _, rfl⟩
  have HO1 := Lib.hid ho1
  have HB1 := Lib.hid hb1
  have HBB := Lib.hid (HB.out.keepB hb1)
  clear ho1 hb1
  go_wp2_with fail
  refine (refMoved_any n0 vb pb (-1) (Or.inr rfl) (nos fr) _ HBB.out FB.out SB.out (by rw [EG.out]; have := HG.out; omega)).mono ?_
  rintro x w2 ⟨u2, rfl, ho2, hb2⟩
  rw [EG.out] at ho2
  obtain ⟨A2, c2, rfl⟩ : ∃ A2 c2, u2 = .slice A2 got.length c2 := by
    rcases ho2.2 with ⟨rfl, h0⟩ | ⟨b', cap, cur, rfl, _⟩
    · exact ⟨none, 0, by rw [h0]⟩
    · exact ⟨_, _, rfl⟩
  have HO2 := Lib.hid ho2
  have HP1 := Lib.hid (owns_keep HO1.out hb2)
  have HB2 := Lib.hid (bel2 HB1.out hb2)
  have hg63 : (got.length : Int) < 100 := by have := HG.out; omega
  have hs63 : (sent.length : Int) < 100 := by have := HS.out; omega
  clear ho2 hb2
  go_wp2_with fail
  go_loopw [11] (fun i wr => ∃ k : Nat, k ≤ got.length ∧ i = .int .i64 k ∧ (∀ j, j < k → badAt sent got j = false) ∧ Below w2.heap.size w2 wr) (fun i _ => got.length - (intOf i).toNat)
  case atStart => exact ⟨0, Nat.zero_le _, rfl, fun j h => by omega, Below.refl _ _⟩
  case round =>
    obtain ⟨k, hk, rfl, hok, hb⟩ := hrel
    have HOK := Lib.hid hok
    have HB := Lib.hid hb
    clear hok hb
    by_cases hk2 : k < got.length
    · have hk1 : (k : Int) < got.length := by omega
      have hk0 : (0 : Int) ≤ k := by omega
      have hk100 : k < 100 := by omega
      have hk2' := hk2
      obtain ⟨q2, cc2, h2, -, -⟩ := HO2.out.form (by omega)
      injection h2 with h2 _ h4
      subst h2 h4
      have o2 := owns_keep HO2.out HB.out
      have g1 := (o2.cellAt (k * 2) (by omega)).trans (mflat_at got k hk2).1
      have g2 := (o2.cellAt (k * 2 + 1) (by omega)).trans (mflat_at got k hk2).2
      have hq : q2 < wr.heap.size := (o2.lt _ rfl).2
      clear o2
      by_cases hsl : k < sent.length
      · have hs1 : (k : Int) < sent.length := by omega
        have hge : decide (sent.length ≤ k) = false := decide_eq_false (by omega)
        obtain ⟨q1, cc1, h1, -, -⟩ := HP1.out.form (by omega)
        injection h1 with h1 _ h3
        subst h1 h3
        have o1 := owns_keep HP1.out HB.out
        have s1 := (o1.cellAt (k * 2) (by omega)).trans (mflat_at sent k hsl).1
        have s2 := (o1.cellAt (k * 2 + 1) (by omega)).trans (mflat_at sent k hsl).2
        clear o1 hk hk2
        obtain ⟨m1, hm1⟩ : ∃ m, mn sent k = m := ⟨_, rfl⟩
        obtain ⟨m2, hm2⟩ : ∃ m, mn got k = m := ⟨_, rfl⟩
        rw [hm1] at s1 s2
        rw [hm2] at g1 g2
        have hnm := fun W => neq_mon m1 m2 W
        by_cases hmm : m1 = m2
        · have hdm : decide (m1 = m2) = true := decide_eq_true hmm
          have HBD := Lib.hid (show badAt sent got k = false by unfold badAt; rw [hm1, hm2, hdm]; simpa using hsl)
          rw [hdm] at hnm
          obtain ⟨x1, y1⟩ := m1
          obtain ⟨x2, y2⟩ := m2
          simp only at s1 s2 g1 g2 hnm
          clear hmm hdm hm1 hm2 hsl
          go_wp2_with fail
          go_quiet (fail)
          go_wp2_with fail
          go_roundw
          case measure => simp [intOf]; omega
          case rel => exact ⟨k + 1, by omega, by go_num, fun j hj => by
            by_cases hjk : j = k
            · rw [hjk]; exact HBD.out
            · exact HOK.out j (by omega), HB.out.trans ⟨rfl, rfl, rfl, Nat.le_refl _, fun _ _ => rfl⟩⟩
        · have hdm : decide (m1 = m2) = false := decide_eq_false hmm
          have HBD := Lib.hid (show badAt sent got k = true by unfold badAt; rw [hm1, hm2, hdm]; simp)
          rw [hdm] at hnm
          obtain ⟨x1, y1⟩ := m1
          obtain ⟨x2, y2⟩ := m2
          simp only at s1 s2 g1 g2 hnm
          clear hmm hdm hm1 hm2 hsl
          go_wp2_with fail
          go_quiet (fail)
          go_wp2_with fail
          have HRL := Lib.hid (remL_some fr to sent got k hk2' HOK.out HBD.out)
          have HDL := Lib.hid (decDigits_len k hk100)
          refine (Digits_any k hk100 _).mono ?_
          rintro x w3 ⟨rfl, hb3⟩
          obtain ⟨dg, hdg⟩ : ∃ dg, Lib.decDigits k = dg := ⟨_, rfl⟩
          have hdl := HDL.out
          have HB3 := Lib.hid (bel2 (quietB nq HB.out HB2.out) hb3)
          have HDG := Lib.hid hdg
          rw [hdg] at hdl ⊢
          clear hdg hb3
          go_wp2
          go_returns
          refine ⟨_, rfl, ?_, bel2 HB3.out (below_new _ _)⟩
          rw [HRL.out]
          unfold lineR
          rw [HDG.out]
          exact World.ownsRow_lit (base := w.heap.size) (e := 9) (size := 1) w3 #[_] 1 HB3.out.size (by unfold maxLen; omega) rfl
      · have hge : decide (sent.length ≤ k) = true := decide_eq_true (by omega)
        have HBD := Lib.hid (show badAt sent got k = true by unfold badAt; simp; exact Or.inl (by omega))
        clear hk hk2
        go_wp2_with fail
        go_quiet (fail)
        go_wp2_with fail
        have HRL := Lib.hid (remL_some fr to sent got k hk2' HOK.out HBD.out)
        have HDL := Lib.hid (decDigits_len k hk100)
        refine (Digits_any k hk100 _).mono ?_
        rintro x w3 ⟨rfl, hb3⟩
        obtain ⟨dg, hdg⟩ : ∃ dg, Lib.decDigits k = dg := ⟨_, rfl⟩
        have hdl := HDL.out
        have HB3 := Lib.hid (bel2 (quietB nq HB.out HB2.out) hb3)
        have HDG := Lib.hid hdg
        rw [hdg] at hdl ⊢
        clear hdg hb3
        go_wp2
        go_returns
        refine ⟨_, rfl, ?_, bel2 HB3.out (below_new _ _)⟩
        rw [HRL.out]
        unfold lineR
        rw [HDG.out]
        exact World.ownsRow_lit (base := w.heap.size) (e := 9) (size := 1) w3 #[_] 1 HB3.out.size (by unfold maxLen; omega) rfl
    · have hk1 : ¬ (k : Int) < got.length := by omega
      have hkl : k = got.length := by omega
      have HRL := Lib.hid (remL_none fr to sent got (fun j hj => HOK.out j (by omega)))
      clear hk hk2 hkl
      go_wp2
      go_returns
      exact ⟨_, rfl, by rw [HRL.out]; exact World.ownsRow_nil _ _ _ _, HB2.out.trans (HB.out.mono HB2.out.size)⟩
end Go.Proofs.YtpkiiegadckloaaDoor
