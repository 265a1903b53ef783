/- The reference's Credits. -/
import Derived.Test.YtpkiiegadckloaaDoorCrd
import Derived.Test.YtpkiiegadckloaaDoorRmt
set_option linter.unusedSimpArgs false
set_option linter.unusedVariables false
namespace Go.Proofs.YtpkiiegadckloaaDoor
open Go.RowKit

theorem quietB0 (w : World) (n : Nat) : Below w.heap.size w (w.drewN n) := ⟨rfl, rfl, rfl, Nat.le_refl _, fun _ _ => rfl⟩
abbrev sTc : ByteArray := ⟨#[116, 97, 107, 101, 32, 99, 114, 101, 100, 105, 116, 58]⟩
theorem put_ids {w : World} {base : Nat} {v u : Value} {a b a' b' : Nat} {s : ByteArray} (h : (s = sD1 ∧ a' = a + 1 ∧ b' = b) ∨ (s = sD2 ∧ a' = a ∧ b' = b + 1)) (hv : SRow w base v (idsN a b)) (h1 : s ∈ idsN a b → u = v)
    (h2 : ¬ s ∈ idsN a b → ∃ k, k ≤ (idsN a b).length ∧ (∀ j t, j < k → (idsN a b)[j]? = some t → Op.bytesLess t.toList s.toList = true) ∧ (∀ t, (idsN a b)[k]? = some t → Op.bytesLess t.toList s.toList = false) ∧ SRow w base u ((idsN a b).take k ++ [s] ++ (idsN a b).drop k)) :
    SRow w base u (idsN a' b') := by
  rcases h with ⟨rfl, e1, e2⟩ | ⟨rfl, e1, e2⟩ <;> rw [e1, e2]
  · by_cases hm : sD1 ∈ idsN a b
    · rw [h1 hm, idsN1 hm]; exact hv
    · obtain ⟨k, hk, hl, hn, hs⟩ := h2 hm
      rw [← put1 a b k hm hk hl]; exact hs
  · by_cases hm : sD2 ∈ idsN a b
    · rw [h1 hm, idsN2 hm]; exact hv
    · obtain ⟨k, hk, hl, hn, hs⟩ := h2 hm
      rw [← put2 a b k hm hk hn]; exact hs

set_option maxRecDepth 100000 in
set_option maxHeartbeats 4000000 in
theorem refCredits_any (nm : ByteArray) (n0 n1 : Nat) (pv hv : Value) (ps : List Pst) (hs : List (ByteArray × Int)) (w : World) (h : PRow w n0 pv ps) (hok : PsOK ps) (hlen : ps.length ≤ 1000) (hh : w.ownsRow n1 79 4 hv hs.length (hflat hs)) (hhl : hs.length ≤ 1000)
    (hnd : (hs.map (·.1)).Nodup) (hnm : nm.size ≤ 140737488351232) :
    Calls Tryd.prog 18 #[.string nm, pv, hv] w fun x w' => ∃ u, x = .returned u ∧ SRow w' w.heap.size u (crL nm ps (hs.map (·.1)) (idsC ps)) ∧ Below w.heap.size w w' := by
  obtain ⟨⟨pl, hpl, hrow, hent⟩⟩ := h
  have HP1 := Lib.hid (PRx.mk hrow hent)
  have HPL := Lib.hid hpl
  obtain ⟨A0, c0, rfl⟩ : ∃ A0 c0, pv = .slice A0 pl.length c0 := by
    rcases hrow.2 with ⟨rfl, h0⟩ | ⟨b', cap, cur, rfl, _⟩
    · exact ⟨none, 0, by rw [h0]⟩
    · exact ⟨_, _, rfl⟩
  obtain ⟨Ah, ch, rfl⟩ : ∃ Ah ch, hv = .slice Ah hs.length ch := by
    rcases hh.2 with ⟨rfl, h0⟩ | ⟨b', cap, cur, rfl, _⟩
    · exact ⟨none, 0, by rw [h0]⟩
    · exact ⟨_, _, rfl⟩
  have hplen : pl.length = ps.length := by rw [← hpl]; simp
  have hl63 : (pl.length : Int) ≤ 1000 := by omega
  have hh63 : (hs.length : Int) ≤ 1000 := by omega
  have HLN := Lib.hid hplen
  have HLE := Lib.hid hlen
  have HOK := Lib.hid hok
  have HH := Lib.hid hh
  have HHL := Lib.hid hhl
  have HND := Lib.hid hnd
  have HNM := Lib.hid hnm
  clear hpl hrow hent hplen hlen hok hh hhl hnd hnm
  go_enter Tryd.func18, Tryd.ntmps18
  go_wp2_with fail
  obtain ⟨w1, hw1⟩ : ∃ w1, w1 = w.alloc (.cells #[] 9) := ⟨_, rfl⟩
  rw [← hw1]
  have hb1 : Below w.heap.size w w1 := hw1 ▸ below_new _ _
  have HB1 := Lib.hid hb1
  have HO1 := Lib.hid (show SRow w1 w.heap.size (.slice (some ⟨w.heap.size, 0, none⟩) 0 0) (idsC ([] : List Pst)) from SRow.bare (hw1 ▸ heap_alloc_new _ _) (Nat.le_refl _))
  clear hw1 hb1
  go_loopw [7, 8] (fun v i wr => ∃ k : Nat, k ≤ pl.length ∧ i = .int .i64 k ∧ SRow wr w.heap.size v (idsC (ps.take k)) ∧ Below w.heap.size w wr) (fun _ i _ => pl.length - (intOf i).toNat)
  case atStart => exact ⟨0, Nat.zero_le _, rfl, HO1.out, HB1.out⟩
  case round =>
    obtain ⟨k, hk, rfl, hv, hb⟩ := hrel
    have HV := Lib.hid hv
    have HB := Lib.hid hb
    by_cases hk2 : k < pl.length
    · have hk1 : (k : Int) < pl.length := by omega
      have hk0 : (0 : Int) ≤ k := by omega
      obtain ⟨p, hp⟩ : ∃ p, pl[k]? = some p := ⟨_, List.getElem?_eq_getElem hk2⟩
      have hpps : ps[k]? = some p.1 := by rw [← HPL.out, List.getElem?_map, hp]; rfl
      have hpr := HP1.out.keepB hb
      obtain ⟨q, cq, hqv, -, -⟩ := hpr.row.form (by omega)
      obtain ⟨rfl, rfl⟩ : A0 = some ⟨q, 0, none⟩ ∧ cq = c0 := by
        injection hqv with h1 h2 h3
        exact ⟨h1, h3.symm⟩
      have c1 := (hpr.row.cellAt (k * 3 + 1) (by omega)).trans (pflat_at pl k p hp).2.1
      obtain ⟨A7, c7, rfl⟩ := SRow.slice hv
      have hct := fun id => cntC_take ps id k p.1 hpps
      have hcase := text_cases HOK.out (List.mem_of_getElem? hpps)
      obtain ⟨tx, htx⟩ : ∃ tx, tx = p.1.text := ⟨_, rfl⟩
      rw [← htx] at c1 hct hcase
      have HCT := Lib.hid hct
      have hk3 := hk2
      clear hv hb hp hpps hpr hqv hct hk hk2 htx
      rcases hcase with ht | ht | ht | ht
      · have hz : tx.size = 14 := by rw [ht]; decide
        have he : tx.extract 0 12 = sTc := by rw [ht]; decide
        have hx : tx.extract 5 14 = sD1 := by rw [ht]; decide
        have HT := Lib.hid ht
        clear ht
        go_wp2_with fail
        refine (Put_any (.slice A7 (idsC (ps.take k)).length c7) (idsC (ps.take k)) sD1 w.heap.size wr (Nat.le_trans (idsN_len _ _) (by omega)) HV.out HB.out.size).mono ?_
        rintro x w5 ⟨u, rfl, hb5, hp1, hp2⟩
        have hn := put_ids (w := w5) (a' := cntC (ps.take (k + 1)) sD1) (b' := cntC (ps.take (k + 1)) sD2) (Or.inl ⟨rfl, by rw [HCT.out sD1, HT.out, if_pos rfl], by rw [HCT.out sD2, HT.out, if_neg (by decide)]; rfl⟩) (owns_keep HV.out hb5) hp1 hp2
        obtain ⟨A5, c5, rfl⟩ := SRow.slice hn
        have HN := Lib.hid (show SRow w5 w.heap.size _ (idsC (ps.take (k + 1))) from hn)
        have HB5 := Lib.hid (bel2 HB.out hb5)
        clear hn hb5 hp1 hp2
        obtain ⟨n5, hn5⟩ : ∃ n5, n5 = (idsN (cntC (ps.take (k + 1)) sD1) (cntC (ps.take (k + 1)) sD2)).length := ⟨_, rfl⟩
        rw [← hn5] at HN ⊢
        clear hn5
        go_wp2_with fail
        go_roundw
        case measure => simp [intOf]; omega
        case rel => exact ⟨k + 1, by omega, by go_num, HN.out, HB5.out⟩
      · have hz : tx.size = 14 := by rw [ht]; decide
        have he : tx.extract 0 12 = sTc := by rw [ht]; decide
        have hx : tx.extract 5 14 = sD2 := by rw [ht]; decide
        have HT := Lib.hid ht
        clear ht
        go_wp2_with fail
        refine (Put_any (.slice A7 (idsC (ps.take k)).length c7) (idsC (ps.take k)) sD2 w.heap.size wr (Nat.le_trans (idsN_len _ _) (by omega)) HV.out HB.out.size).mono ?_
        rintro x w5 ⟨u, rfl, hb5, hp1, hp2⟩
        have hn := put_ids (w := w5) (a' := cntC (ps.take (k + 1)) sD1) (b' := cntC (ps.take (k + 1)) sD2) (Or.inr ⟨rfl, by rw [HCT.out sD1, HT.out, if_neg (by decide)]; rfl, by rw [HCT.out sD2, HT.out, if_pos rfl]⟩) (owns_keep HV.out hb5) hp1 hp2
        obtain ⟨A5, c5, rfl⟩ := SRow.slice hn
        have HN := Lib.hid (show SRow w5 w.heap.size _ (idsC (ps.take (k + 1))) from hn)
        have HB5 := Lib.hid (bel2 HB.out hb5)
        clear hn hb5 hp1 hp2
        obtain ⟨n5, hn5⟩ : ∃ n5, n5 = (idsN (cntC (ps.take (k + 1)) sD1) (cntC (ps.take (k + 1)) sD2)).length := ⟨_, rfl⟩
        rw [← hn5] at HN ⊢
        clear hn5
        go_wp2_with fail
        go_roundw
        case measure => simp [intOf]; omega
        case rel => exact ⟨k + 1, by omega, by go_num, HN.out, HB5.out⟩
      · have hz : tx.size = 10 := by rw [ht]; decide
        have HT := Lib.hid ht
        clear ht
        go_wp2_with fail
        go_roundw
        case measure => simp [intOf]; omega
        case rel =>
          refine ⟨k + 1, by omega, by go_num, ?_, HB.out⟩
          unfold idsC
          rw [HCT.out sD1, HCT.out sD2, HT.out, if_neg (by decide), if_neg (by decide)]
          exact HV.out
      · have hz : tx.size = 11 := by rw [ht]; decide
        have HT := Lib.hid ht
        clear ht
        go_wp2_with fail
        go_roundw
        case measure => simp [intOf]; omega
        case rel =>
          refine ⟨k + 1, by omega, by go_num, ?_, HB.out⟩
          unfold idsC
          rw [HCT.out sD1, HCT.out sD2, HT.out, if_neg (by decide), if_neg (by decide)]
          exact HV.out
    · have hk1 : ¬ (k : Int) < pl.length := by omega
      obtain ⟨w2, rfl⟩ : ∃ x, x = wr := ⟨_, rfl⟩
      have hkl : ps.take k = ps := by rw [show k = ps.length by have := HLN.out; omega]; exact List.take_length
      rw [hkl] at hv
      obtain ⟨A7, c7, rfl⟩ := SRow.slice hv
      obtain ⟨l, hl⟩ : ∃ l, l = idsC ps := ⟨_, rfl⟩
      have hl2 : l.length ≤ 2 := by rw [hl]; exact idsN_len _ _
      have hlm : ∀ id ∈ l, id = sD1 ∨ id = sD2 := fun id hi => idsN_mem (by rw [hl] at hi; exact hi)
      rw [← hl] at hv ⊢
      have HL2 := Lib.hid hl2
      have HLM := Lib.hid hlm
      have hll : (l.length : Int) ≤ 2 := by omega
      have HV' := Lib.hid hv
      have HQ := Lib.hid hl
      clear HV hv hb hkl hl hl2 hlm hk hk2 HB1 HO1
      go_wp2_with fail
      obtain ⟨w3, hw3⟩ : ∃ w3, w3 = w2.alloc (.cells #[] 9) := ⟨_, rfl⟩
      rw [← hw3]
      have HB3 := Lib.hid (show Below w2.heap.size w2 w3 from hw3 ▸ below_new _ _)
      have HO3 := Lib.hid (show SRow w3 w2.heap.size (.slice (some ⟨w2.heap.size, 0, none⟩) 0 0) [] from SRow.bare (hw3 ▸ heap_alloc_new _ _) (Nat.le_refl _))
      have HPR := Lib.hid (HP1.out.keepB HB.out)
      have HHR := Lib.hid (owns_keep HH.out HB.out)
      clear hw3
      go_loopw [9, 10] (fun v i wz => ∃ k : Nat, k ≤ l.length ∧ i = .int .i64 k ∧ SRow wz w2.heap.size v (crL nm ps (hs.map (·.1)) (l.take k)) ∧ Below w2.heap.size w2 wz) (fun _ i _ => l.length - (intOf i).toNat)
      case atStart => exact ⟨0, Nat.zero_le _, rfl, HO3.out, HB3.out⟩
      case round =>
        obtain ⟨wz, rfl⟩ : ∃ x, x = wr := ⟨_, rfl⟩
        obtain ⟨k, hk, rfl, hv, hb⟩ := hrel
        by_cases hk2 : k < l.length
        · have hk1 : (k : Int) < l.length := by omega
          have hk0 : (0 : Int) ≤ k := by omega
          have hk3 := hk2
          obtain ⟨id, hid⟩ : ∃ id, l[k]? = some id := ⟨_, List.getElem?_eq_getElem hk2⟩
          have hidm := HLM.out id (List.mem_of_getElem? hid)
          have hidz : id.size = 9 := by rcases hidm with rfl | rfl <;> decide
          obtain ⟨q, cq, hqv, -, -⟩ := HV'.out.form (by omega)
          obtain ⟨rfl, rfl⟩ : A7 = some ⟨q, 0, none⟩ ∧ cq = c7 := by
            injection hqv with h1 h2 h3
            exact ⟨h1, h3.symm⟩
          have HID := Lib.hid (World.ownsRow.cellAt HV'.out)
          have HGT := Lib.hid hid
          obtain ⟨A9, c9, rfl⟩ := SRow.slice hv
          have HTK9 := Lib.hid (crL_take nm ps (hs.map (·.1)) l k id hid)
          obtain ⟨X, hX⟩ : ∃ X, X = crL nm ps (hs.map (·.1)) (l.take k) := ⟨_, rfl⟩
          have HLX := Lib.hid (show X.length ≤ 4 by rw [hX]; have := crL_len nm ps (hs.map (·.1)) (l.take k); rw [List.length_take] at this; have := HL2.out; omega)
          rw [← hX] at hv HTK9
          have HX := Lib.hid hX
          obtain ⟨n9, hn9⟩ : ∃ n9, n9 = X.length := ⟨_, rfl⟩
          rw [← hX, ← hn9]
          rw [← hn9] at hv
          have HN9 := Lib.hid hn9
          have HV9 := Lib.hid hv
          have HB9 := Lib.hid hb
          clear hv hb hX hn9 hid hidm hqv hk hk2
          go_wp2_with fail
          go_loopw [11, 12] (fun c j wy => ∃ jn : Nat, jn ≤ pl.length ∧ j = .int .i64 jn ∧ c = .int .i64 (cntC (ps.take jn) id) ∧ Below wz.heap.size wz wy) (fun _ j _ => pl.length - (intOf j).toNat)
          case atStart => exact ⟨0, Nat.zero_le _, rfl, rfl, Below.refl _ _⟩
          case round =>
            obtain ⟨wy, rfl⟩ : ∃ x, x = wr := ⟨_, rfl⟩
            obtain ⟨jn, hj, rfl, rfl, hby⟩ := hrel
            have HBZ := Lib.hid hby
            have HBY := Lib.hid (bel2 HB9.out hby)
            obtain ⟨cn, hcn⟩ : ∃ cn, cn = cntC (ps.take jn) id := ⟨_, rfl⟩
            have hcw : (cn : Int) ≤ 1000 := by
              have := cntC_le (ps.take jn) id
              rw [List.length_take] at this
              have := HLE.out
              omega
            have HCN := Lib.hid hcn
            rw [← hcn]
            clear hcn
            have hcw0 : (0 : Int) ≤ cn := by omega
            by_cases hj2 : jn < pl.length
            · have hj1 : (jn : Int) < pl.length := by omega
              have hj0 : (0 : Int) ≤ jn := by omega
              have hj3 := hj2
              obtain ⟨p, hp⟩ : ∃ p, pl[jn]? = some p := ⟨_, List.getElem?_eq_getElem hj2⟩
              have hpps : ps[jn]? = some p.1 := by rw [← HPL.out, List.getElem?_map, hp]; rfl
              have hpr := HPR.out.keepB HBY.out
              obtain ⟨qp, cqp, hqv, -, -⟩ := hpr.row.form (by omega)
              obtain ⟨rfl, rfl⟩ : A0 = some ⟨qp, 0, none⟩ ∧ cqp = c0 := by
                injection hqv with h1 h2 h3
                exact ⟨h1, h3.symm⟩
              have c1 := (hpr.row.cellAt (jn * 3 + 1) (by omega)).trans (pflat_at pl jn p hp).2.1
              have c2 := World.ownsRow.cellAt (owns_keep HV'.out HBY.out) k (by omega)
              rw [List.getElem?_map, HGT.out] at c2
              simp only [Option.map_some, es] at c2
              have hct := cntC_take ps id jn p.1 hpps
              obtain ⟨tx, htx⟩ : ∃ tx, tx = p.1.text := ⟨_, rfl⟩
              rw [← htx] at c1 hct
              rw [← HCN.out] at hct
              have HCT := Lib.hid hct
              clear hby hp hpps hpr hqv hct hj hj2 htx
              by_cases hte : tx = sTake ++ id
              · have htb : (tx.toList == (sTake ++ id).toList) = true := by rw [hte]; simp
                have HTE := Lib.hid hte
                clear hte
                go_wp2_with fail
                go_quiet (fail)
                go_wp2_with fail
                go_roundw
                case measure => simp [intOf]; omega
                case rel => exact ⟨jn + 1, by omega, by go_num, by rw [HCT.out, if_pos HTE.out]; go_num, HBZ.out.trans ⟨rfl, rfl, rfl, Nat.le_refl _, fun _ _ => rfl⟩⟩
              · have htb : (tx.toList == (sTake ++ id).toList) = false := by
                  rw [Bool.eq_false_iff]
                  intro hx
                  exact hte (toList_inj (by simpa using hx))
                have HTE := Lib.hid hte
                clear hte
                go_wp2_with fail
                go_quiet (fail)
                go_wp2_with fail
                go_roundw
                case measure => simp [intOf]; omega
                case rel => exact ⟨jn + 1, by omega, by go_num, by rw [HCT.out, if_neg HTE.out]; rfl, HBZ.out.trans ⟨rfl, rfl, rfl, Nat.le_refl _, fun _ _ => rfl⟩⟩
            · have hj1 : ¬ (jn : Int) < pl.length := by omega
              have hjl : ps.take jn = ps := by rw [show jn = ps.length by have := HLN.out; omega]; exact List.take_length
              have HCP := Lib.hid (show cn = cntC ps id by rw [HCN.out, hjl])
              have HVY := Lib.hid (owns_keep HV9.out HBZ.out)
              have c2 := World.ownsRow.cellAt (owns_keep HV'.out HBY.out) k (by omega)
              rw [List.getElem?_map, HGT.out] at c2
              simp only [Option.map_some, es] at c2
              have hnm := HNM.out
              clear hjl hby hj hj2
              by_cases h1 : 1 < cn
              · have h1' : (1 : Int) < cn := by omega
                have HT1 := Lib.hid (show crT nm ps id = [lnT nm id] by unfold crT; rw [← HCP.out, if_pos h1])
                clear h1
                have HNW := Lib.hid (heap_alloc_new wy (.cells #[.string (lnT nm id)] 9))
                have HRW := Lib.hid (owns_keep HVY.out (below_new wy (.cells #[.string (lnT nm id)] 9)))
                have HBW := Lib.hid (bel2 HBY.out (below_new wy (.cells #[.string (lnT nm id)] 9)))
                go_wp2_with (first | (refine wpList_app1 _ rfl (.tmp 73) (.tmp 82) rfl w2.heap.size (.slice A9 n9 c9) X (lnT nm id) rfl HRW.out wy.heap.size rfl HNW.out (Nat.le_trans HLX.out (by omega)) HBW.out.size ?_
                                      intro A6 n6 c6 w6 ho hg
                                      have HO6 := Lib.hid ho
                                      have HBX := Lib.hid (HBW.out.trans hg)
                                      clear ho hg))
                obtain ⟨X2, hX2⟩ : ∃ X2, X2 = X ++ crT nm ps id := ⟨_, rfl⟩
                rw [← hX2] at HTK9
                have HLX2 := Lib.hid (show X2.length ≤ 5 by rw [hX2, HT1.out]; have := HLX.out; simp; omega)
                have HXX := Lib.hid (show SRow w6 w2.heap.size (.slice A6 n6 c6) X2 by rw [hX2, HT1.out]; exact HO6.out)
                clear hX2
                go_loopw [9, 13] (fun v j wy => ∃ jn : Nat, jn ≤ hs.length ∧ j = .int .i64 jn ∧ SRow wy w2.heap.size v (X2 ++ hitB nm id ((hs.map (·.1)).take jn)) ∧ Below w2.heap.size w2 wy) (fun _ j _ => hs.length - (intOf j).toNat)
                case atStart => exact ⟨0, Nat.zero_le _, rfl, by simpa [hitB] using HXX.out, HBX.out⟩
                case round =>
                  obtain ⟨wx, rfl⟩ : ∃ x, x = wr := ⟨_, rfl⟩
                  obtain ⟨jn, hj, rfl, hv4, hb4⟩ := hrel
                  have HB4 := Lib.hid hb4
                  have c2 := World.ownsRow.cellAt (owns_keep HV'.out hb4) k (by omega)
                  rw [List.getElem?_map, HGT.out] at c2
                  simp only [Option.map_some, es] at c2
                  by_cases hj2 : jn < hs.length
                  · have hj1 : (jn : Int) < hs.length := by omega
                    have hj0 : (0 : Int) ≤ jn := by omega
                    have hj3 := hj2
                    obtain ⟨hh, hhe⟩ : ∃ hh, hs[jn]? = some hh := ⟨_, List.getElem?_eq_getElem hj2⟩
                    have hrow := owns_keep HHR.out hb4
                    obtain ⟨q2, cq2, hqv, -, -⟩ := hrow.form (by omega)
                    obtain ⟨rfl, rfl⟩ : Ah = some ⟨q2, 0, none⟩ ∧ cq2 = ch := by
                      injection hqv with h1 h2 h3
                      exact ⟨h1, h3.symm⟩
                    have c3 := (hrow.cellAt (jn * 4) (by omega)).trans (hflat_at hs jn 0 hh hhe (by omega))
                    simp only [List.getElem?_cons_zero] at c3
                    have htk := hitB_take nm id (hs.map (·.1)) jn hh.1 (by rw [List.getElem?_map, hhe]; rfl)
                    obtain ⟨ht, hht⟩ : ∃ ht, ht = hh.1 := ⟨_, rfl⟩
                    rw [← hht] at c3 htk
                    have HTK := Lib.hid htk
                    obtain ⟨XX, hXX⟩ : ∃ XX, XX = X2 ++ hitB nm id ((hs.map (·.1)).take jn) := ⟨_, rfl⟩
                    have HLX := Lib.hid (show XX.length ≤ 10000 by
                      rw [hXX, List.length_append]
                      have e1 := hitB_len nm id ((hs.map (·.1)).take jn)
                      rw [List.length_take, List.length_map] at e1
                      have := HHL.out
                      have := HLX2.out
                      omega)
                    rw [← hXX] at hv4
                    have HX := Lib.hid hXX
                    obtain ⟨A8, c8, rfl⟩ := SRow.slice hv4
                    obtain ⟨n8, hn8⟩ : ∃ n8, n8 = XX.length := ⟨_, rfl⟩
                    rw [← hn8] at hv4
                    rw [← hn8]
                    have HV4 := Lib.hid hv4
                    clear hv4 hb4 hqv hrow hhe hj hj2 hht hXX hn8 htk
                    by_cases hte : ht.toList = id.toList
                    · have htb : (ht.toList == id.toList) = true := by simpa using hte
                      have HTE := Lib.hid (toList_inj hte)
                      clear hte
                      go_wp2_with fail
                      go_quiet (fail)
                      have HNW := Lib.hid (heap_alloc_new (wx.drewN nq) (.cells #[.string (lnB nm id)] 9))
                      have HRW := Lib.hid (owns_keep (owns_keep HV4.out (quietB0 wx nq)) (below_new (wx.drewN nq) (.cells #[.string (lnB nm id)] 9)))
                      have HBW := Lib.hid (bel2 (HB4.out.trans ((quietB0 wx nq).mono HB4.out.size)) (below_new (wx.drewN nq) (.cells #[.string (lnB nm id)] 9)))
                      go_wp2_with (first | (refine wpList_app1 _ rfl (.tmp 100) (.tmp 109) rfl w2.heap.size (.slice A8 n8 c8) XX (lnB nm id) rfl HRW.out wx.heap.size rfl HNW.out HLX.out HBW.out.size ?_
                                            intro A9 n9 c9 w8 ho hg
                                            have HO8 := Lib.hid ho
                                            have HG8 := Lib.hid (HBW.out.trans hg)
                                            clear ho hg))
                      go_roundw
                      case measure => simp [intOf]; omega
                      case rel => exact ⟨jn + 1, by omega, by go_num, by rw [HTK.out, if_pos HTE.out, ← List.append_assoc, ← HX.out]; exact HO8.out, HG8.out⟩
                    · have htb : (ht.toList == id.toList) = false := by simpa using hte
                      have HTE := Lib.hid (show ht ≠ id from fun e => hte (by rw [e]))
                      clear hte
                      go_wp2_with fail
                      go_quiet (fail)
                      go_wp2_with fail
                      go_roundw
                      case measure => simp [intOf]; omega
                      case rel =>
                        refine ⟨jn + 1, by omega, by go_num, ?_, HB4.out.trans ⟨rfl, rfl, rfl, Nat.le_refl _, fun _ _ => rfl⟩⟩
                        rw [HTK.out, if_neg HTE.out, List.append_nil, ← HX.out]
                        exact HV4.out
                  · have hj1 : ¬ (jn : Int) < hs.length := by omega
                    have hjl : (hs.map (·.1)).take jn = hs.map (·.1) := by rw [show jn = (hs.map (·.1)).length by simp; omega]; exact List.take_length
                    rw [hjl, hitB_eq nm id _ HND.out] at hv4
                    have HV4 := Lib.hid hv4
                    clear hv4 hb4 hjl hj hj2
                    go_wp2_with fail
                    go_roundw
                    case measure => simp [intOf]; omega
                    case rel => exact ⟨k + 1, by omega, by go_num, by rw [HTK9.out]; exact HV4.out, HB4.out⟩
              · have h1' : ¬ (1 : Int) < cn := by omega
                have HT1 := Lib.hid (show crT nm ps id = [] by unfold crT; rw [← HCP.out, if_neg h1])
                clear h1
                go_wp2_with fail
                obtain ⟨X2, hX2⟩ : ∃ X2, X2 = X ++ crT nm ps id := ⟨_, rfl⟩
                rw [← hX2] at HTK9
                have HLX2 := Lib.hid (show X2.length ≤ 5 by rw [hX2, HT1.out]; have := HLX.out; simp; omega)
                have HXX := Lib.hid (show SRow wy w2.heap.size (.slice A9 n9 c9) X2 by rw [hX2, HT1.out, List.append_nil]; exact HVY.out)
                have HBX := HBY
                clear hX2
                go_loopw [9, 13] (fun v j wy => ∃ jn : Nat, jn ≤ hs.length ∧ j = .int .i64 jn ∧ SRow wy w2.heap.size v (X2 ++ hitB nm id ((hs.map (·.1)).take jn)) ∧ Below w2.heap.size w2 wy) (fun _ j _ => hs.length - (intOf j).toNat)
                case atStart => exact ⟨0, Nat.zero_le _, rfl, by simpa [hitB] using HXX.out, HBX.out⟩
                case round =>
                  obtain ⟨wx, rfl⟩ : ∃ x, x = wr := ⟨_, rfl⟩
                  obtain ⟨jn, hj, rfl, hv4, hb4⟩ := hrel
                  have HB4 := Lib.hid hb4
                  have c2 := World.ownsRow.cellAt (owns_keep HV'.out hb4) k (by omega)
                  rw [List.getElem?_map, HGT.out] at c2
                  simp only [Option.map_some, es] at c2
                  by_cases hj2 : jn < hs.length
                  · have hj1 : (jn : Int) < hs.length := by omega
                    have hj0 : (0 : Int) ≤ jn := by omega
                    have hj3 := hj2
                    obtain ⟨hh, hhe⟩ : ∃ hh, hs[jn]? = some hh := ⟨_, List.getElem?_eq_getElem hj2⟩
                    have hrow := owns_keep HHR.out hb4
                    obtain ⟨q2, cq2, hqv, -, -⟩ := hrow.form (by omega)
                    obtain ⟨rfl, rfl⟩ : Ah = some ⟨q2, 0, none⟩ ∧ cq2 = ch := by
                      injection hqv with h1 h2 h3
                      exact ⟨h1, h3.symm⟩
                    have c3 := (hrow.cellAt (jn * 4) (by omega)).trans (hflat_at hs jn 0 hh hhe (by omega))
                    simp only [List.getElem?_cons_zero] at c3
                    have htk := hitB_take nm id (hs.map (·.1)) jn hh.1 (by rw [List.getElem?_map, hhe]; rfl)
                    obtain ⟨ht, hht⟩ : ∃ ht, ht = hh.1 := ⟨_, rfl⟩
                    rw [← hht] at c3 htk
                    have HTK := Lib.hid htk
                    obtain ⟨XX, hXX⟩ : ∃ XX, XX = X2 ++ hitB nm id ((hs.map (·.1)).take jn) := ⟨_, rfl⟩
                    have HLX := Lib.hid (show XX.length ≤ 10000 by
                      rw [hXX, List.length_append]
                      have e1 := hitB_len nm id ((hs.map (·.1)).take jn)
                      rw [List.length_take, List.length_map] at e1
                      have := HHL.out
                      have := HLX2.out
                      omega)
                    rw [← hXX] at hv4
                    have HX := Lib.hid hXX
                    obtain ⟨A8, c8, rfl⟩ := SRow.slice hv4
                    obtain ⟨n8, hn8⟩ : ∃ n8, n8 = XX.length := ⟨_, rfl⟩
                    rw [← hn8] at hv4
                    rw [← hn8]
                    have HV4 := Lib.hid hv4
                    clear hv4 hb4 hqv hrow hhe hj hj2 hht hXX hn8 htk
                    by_cases hte : ht.toList = id.toList
                    · have htb : (ht.toList == id.toList) = true := by simpa using hte
                      have HTE := Lib.hid (toList_inj hte)
                      clear hte
                      go_wp2_with fail
                      go_quiet (fail)
                      have HNW := Lib.hid (heap_alloc_new (wx.drewN nq) (.cells #[.string (lnB nm id)] 9))
                      have HRW := Lib.hid (owns_keep (owns_keep HV4.out (quietB0 wx nq)) (below_new (wx.drewN nq) (.cells #[.string (lnB nm id)] 9)))
                      have HBW := Lib.hid (bel2 (HB4.out.trans ((quietB0 wx nq).mono HB4.out.size)) (below_new (wx.drewN nq) (.cells #[.string (lnB nm id)] 9)))
                      go_wp2_with (first | (refine wpList_app1 _ rfl (.tmp 100) (.tmp 109) rfl w2.heap.size (.slice A8 n8 c8) XX (lnB nm id) rfl HRW.out wx.heap.size rfl HNW.out HLX.out HBW.out.size ?_
                                            intro A9 n9 c9 w8 ho hg
                                            have HO8 := Lib.hid ho
                                            have HG8 := Lib.hid (HBW.out.trans hg)
                                            clear ho hg))
                      go_roundw
                      case measure => simp [intOf]; omega
                      case rel => exact ⟨jn + 1, by omega, by go_num, by rw [HTK.out, if_pos HTE.out, ← List.append_assoc, ← HX.out]; exact HO8.out, HG8.out⟩
                    · have htb : (ht.toList == id.toList) = false := by simpa using hte
                      have HTE := Lib.hid (show ht ≠ id from fun e => hte (by rw [e]))
                      clear hte
                      go_wp2_with fail
                      go_quiet (fail)
                      go_wp2_with fail
                      go_roundw
                      case measure => simp [intOf]; omega
                      case rel =>
                        refine ⟨jn + 1, by omega, by go_num, ?_, HB4.out.trans ⟨rfl, rfl, rfl, Nat.le_refl _, fun _ _ => rfl⟩⟩
                        rw [HTK.out, if_neg HTE.out, List.append_nil, ← HX.out]
                        exact HV4.out
                  · have hj1 : ¬ (jn : Int) < hs.length := by omega
                    have hjl : (hs.map (·.1)).take jn = hs.map (·.1) := by rw [show jn = (hs.map (·.1)).length by simp; omega]; exact List.take_length
                    rw [hjl, hitB_eq nm id _ HND.out] at hv4
                    have HV4 := Lib.hid hv4
                    clear hv4 hb4 hjl hj hj2
                    go_wp2_with fail
                    go_roundw
                    case measure => simp [intOf]; omega
                    case rel => exact ⟨k + 1, by omega, by go_num, by rw [HTK9.out]; exact HV4.out, HB4.out⟩
        · have hk1 : ¬ (k : Int) < l.length := by omega
          have hkl : l.take k = l := by rw [show k = l.length by omega]; exact List.take_length
          rw [hkl] at hv
          have HF := Lib.hid (And.intro (SRow.wide hv HB.out.size) (bel2 HB.out hb))
          clear hv hb hkl hk hk2
          obtain ⟨A9, c9, rfl⟩ := SRow.slice HF.out.1
          go_wp2
          go_returns
          exact ⟨_, rfl, by rw [← HQ.out]; exact HF.out.1, HF.out.2⟩
end Go.Proofs.YtpkiiegadckloaaDoor
