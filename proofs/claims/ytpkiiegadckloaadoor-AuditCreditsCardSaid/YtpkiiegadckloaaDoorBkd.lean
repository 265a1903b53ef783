/- The walk of booked. -/
import Derived.Test.YtpkiiegadckloaaDoorMvs
set_option linter.unusedSimpArgs false
set_option linter.unusedVariables false
namespace Go.Proofs.YtpkiiegadckloaaDoor
open Go.RowKit

abbrev sG : ByteArray := ⟨#[103]⟩
theorem rowAt (w : World) (b : Nat) (e1 e2 : Ent) (h : w.heap[b]? = some (.cells #[.string e1.acct, .string e1.cur, .int .i64 e1.amt, .string e2.acct, .string e2.cur, .int .i64 e2.amt] 57 (0, 0))) : w.ownsRow 0 57 3 (.slice (some ⟨b, 0, none⟩) 2 2) 2 (eflat [e1, e2]) :=
  ⟨rfl, .inr ⟨b, 2, _, rfl, Nat.zero_le _, h, Nat.le_refl _, by decide, rfl, rfl⟩⟩

set_option maxRecDepth 100000 in
set_option maxHeartbeats 4000000 in
theorem booked_any (A0 : Option Addr) (c0 : Nat) (l : List Mv) (va : Value) (acs : List ByteArray) (w : World) (hl : l.length ≤ 30) (hms : MS w A0 l) (hok : ∀ m ∈ l, MvOK m) (hva : SRow w 0 va acs) (hn : Names acs) :
    Calls Tryd.prog 7 #[.slice A0 l.length c0, va] w fun x w' => ∃ g na A S, x = .returned (.pointer (some ⟨g, 0, none⟩)) ∧ LedAt w' g sG na A (bkN acs l l.length) [] S ∧ (∀ k, S k → w.heap.size ≤ k) ∧ Below w.heap.size w w' := by
  obtain ⟨Aa, ca, rfl⟩ := hva.slice
  obtain ⟨q, ca', hqa, -, -⟩ := hva.form hn.ne
  obtain ⟨rfl, rfl⟩ : Aa = some ⟨q, 0, none⟩ ∧ ca' = ca := by
    injection hqa with h1 h2 h3
    exact ⟨h1, h3.symm⟩
  have hql := (hva.lt _ rfl).2
  have hl63 : (l.length : Int) ≤ 30 := by omega
  have ha63 : (acs.length : Int) ≤ 3 := by have := hn.few; omega
  have ha1 : (1 : Int) ≤ acs.length := by have := hn.ne; omega
  have HMS := Lib.hid hms
  have HOK := Lib.hid hok
  have HVA := Lib.hid hva
  have HN := Lib.hid hn
  clear hms hok hva hn hl hqa
  go_enter Tryd.func7, Tryd.ntmps7
  go_wp2_with fail
  refine (New_any sG _).mono ?_
  rintro x w1 ⟨g, rfl, hl1, hb1⟩
  have HL1 := Lib.hid hl1
  have HB1 := Lib.hid hb1
  clear hl1 hb1
  go_wp2_with fail
  obtain ⟨w2, hw2⟩ : ∃ w2, w2 = w1.alloc (.cells #[.string ⟨#[69, 85, 82]⟩, .string ⟨#[85, 83, 68]⟩] 9) := ⟨_, rfl⟩
  rw [← hw2]
  have hb2 : Below w1.heap.size w1 w2 := hw2 ▸ below_new _ _
  have HR2 := Lib.hid (show w2.heap[w1.heap.size]? = some (.cells #[.string ⟨#[69, 85, 82]⟩, .string ⟨#[85, 83, 68]⟩] 9 (0, 0)) from hw2 ▸ heap_alloc_new _ _)
  have HL2 := Lib.hid (HL1.out.keepB hb2)
  have HB2 := Lib.hid (bel2 HB1.out hb2)
  clear hw2 hb2
  go_loopw [16] (fun i wr => ∃ k : Nat, k ≤ 2 ∧ i = .int .i64 k ∧ ∃ (na : Nat) (A : Key → Option Acc), LedAt wr g sG na A [] [] (fun k => w.heap.size ≤ k ∧ k < w1.heap.size) ∧ na ≤ k * 4 ∧ Opened A (keysTo acs k) ∧ wr.heap[w1.heap.size]? = some (.cells #[.string ⟨#[69, 85, 82]⟩, .string ⟨#[85, 83, 68]⟩] 9 (0, 0)) ∧ Below w.heap.size w wr)
    (fun i _ => 2 - (intOf i).toNat)
  case atStart => exact ⟨0, by omega, rfl, 0, _, HL2.out, Nat.zero_le _, fun k => by simp [keysTo], HR2.out, HB2.out⟩
  case round =>
    obtain ⟨k, hk, rfl, na, A, hled, hna, hop, hrow, hb⟩ := hrel
    have HLED := Lib.hid hled
    have HNA := Lib.hid hna
    have HOP := Lib.hid hop
    have HROW := Lib.hid hrow
    have HB := Lib.hid hb
    clear hled hna hop hrow hb
    by_cases hk2 : k < 2
    · have hk1 : (k : Int) < 2 := by omega
      obtain ⟨c, hc⟩ : ∃ c, curs[k]? = some c := ⟨_, List.getElem?_eq_getElem hk2⟩
      have hcell : wr.cell? ⟨w1.heap.size, k, none⟩ = some (.string c) := by
        rw [cell_of_row wr _ k _ _ _ HROW.out]
        have h01 : k = 0 ∨ k = 1 := by omega
        rcases h01 with rfl | rfl
        · simp [curs] at hc; subst hc; rfl
        · simp [curs] at hc; subst hc; rfl
      have HC := Lib.hid hc
      clear hc hk
      go_wp2_with fail
      refine (Open_any g sG na A [] [] _ sX c (-1099511627776) _ HLED.out (by decide) (by decide) (by decide) (cur_ok HC.out).1 (cur_ok HC.out).2 (by decide) (by decide) (HOP.out.no (not_before HC.out)) (by have := HNA.out; omega)).mono ?_
      rintro x w3 ⟨rfl, hl3, hc3⟩
      have HL3 := Lib.hid hl3
      have HO3 := Lib.hid (HOP.out.more (sX, c))
      have HR3 := Lib.hid ((hc3.block (Array.getElem?_eq_some_iff.1 HROW.out).1 (fun h => by have := h.2; omega)).trans HROW.out)
      have HB3 := Lib.hid (show Below w.heap.size w w3 from HB.out.trans (hc3.below HB.out.size (fun k hk => hk.1)))
      clear hl3 hc3
      go_wp2_with fail
      go_loopw [25] (fun i wq => ∃ j : Nat, j ≤ acs.length ∧ i = .int .i64 j ∧ ∃ (nb : Nat) (B : Key → Option Acc), LedAt wq g sG nb B [] [] (fun k => w.heap.size ≤ k ∧ k < w1.heap.size) ∧ nb ≤ k * 4 + 1 + j ∧ Opened B (keysTo acs k ++ keysIn acs c (j + 1)) ∧
          wq.heap[w1.heap.size]? = some (.cells #[.string ⟨#[69, 85, 82]⟩, .string ⟨#[85, 83, 68]⟩] 9 (0, 0)) ∧ Below w.heap.size w wq)
        (fun i _ => acs.length - (intOf i).toNat)
      case atStart => exact ⟨0, Nat.zero_le _, rfl, _, _, HL3.out, by have := HNA.out; omega, HO3.out, HR3.out, HB3.out⟩
      case round =>
        obtain ⟨j, hj, rfl, nb, B, hled, hnb, hop, hrow, hb⟩ := hrel
        have HLEDB := Lib.hid hled
        have HNB := Lib.hid hnb
        have HOPB := Lib.hid hop
        have HROWB := Lib.hid hrow
        have HBB := Lib.hid hb
        by_cases hj2 : j < acs.length
        · have hj1 : (j : Int) < acs.length := by omega
          obtain ⟨a, ha⟩ : ∃ a, acs[j]? = some a := ⟨_, List.getElem?_eq_getElem hj2⟩
          have hca := (owns_keep HVA.out hb).cellAt j (by omega)
          rw [List.getElem?_map, ha] at hca
          simp only [Option.map_some, es] at hca
          have HA := Lib.hid ha
          clear hled hnb hop hrow hb ha hj
          go_wp2_with fail
          refine (Open_any g sG nb B [] [] _ a c (-1099511627776) _ HLEDB.out (HN.out.good a (List.mem_of_getElem? HA.out)).1 (HN.out.good a (List.mem_of_getElem? HA.out)).2.1 (HN.out.good a (List.mem_of_getElem? HA.out)).2.2 (cur_ok HC.out).1 (cur_ok HC.out).2 (by decide) (by decide)
            (HOPB.out.no (fun hm => (List.mem_append.1 hm).elim (not_before HC.out) (not_within HN.out.nodup (j := j + 1) (by simpa using HA.out)))) (by have := HNB.out; have := HN.out.few; omega)).mono ?_
          rintro x w4 ⟨rfl, hl4, hc4⟩
          have HL4 := Lib.hid hl4
          have HO4 := Lib.hid (HOPB.out.more (a, c))
          have HR4 := Lib.hid ((hc4.block (Array.getElem?_eq_some_iff.1 HROWB.out).1 (fun h => by have := h.2; omega)).trans HROWB.out)
          have HB4 := Lib.hid (show Below w.heap.size w w4 from HBB.out.trans (hc4.below HBB.out.size (fun k hk => hk.1)))
          clear hl4 hc4
          go_wp2_with fail
          go_roundw
          case measure => simp [intOf]; omega
          case rel =>
            refine ⟨j + 1, by omega, by go_num, _, _, HL4.out, by have := HNB.out; omega, ?_, HR4.out, HB4.out⟩
            rw [keysIn_succ acs c HA.out, ← List.append_assoc]
            exact HO4.out
        · have hj1 : ¬ (j : Int) < acs.length := by omega
          obtain rfl : j = acs.length := by omega
          clear hled hnb hop hrow hb hj hj2
          go_wp2_with fail
          go_roundw
          case measure => simp [intOf]; omega
          case rel =>
            refine ⟨k + 1, by omega, by go_num, _, _, HLEDB.out, by have := HNB.out; have := HN.out.few; omega, ?_, HROWB.out, HBB.out⟩
            rw [keysTo_succ acs HC.out]
            exact HOPB.out
    · have hk1 : ¬ (k : Int) < 2 := by omega
      obtain rfl : k = 2 := by omega
      clear hk hk2
      go_wp2_with fail
      have HAK := Lib.hid (show ∀ key ∈ keysTo acs 2, AccOK A (32768 * (0 : Nat)) key from fun key hk => by simpa using HOP.out.ok hk)
      clear hk1
      go_loopw [37] (fun i wr => ∃ k : Nat, k ≤ l.length ∧ i = .int .i64 k ∧ ∃ (A : Key → Option Acc) (S : Nat → Prop), LedAt wr g sG na A (bkN acs l k) [] S ∧ (∀ key ∈ keysTo acs 2, AccOK A (32768 * k) key) ∧ (∀ j, S j → w.heap.size ≤ j) ∧ Below w.heap.size w wr) (fun i _ => l.length - (intOf i).toNat)
      case atStart => exact ⟨0, Nat.zero_le _, rfl, A, _, HLED.out, HAK.out, fun j h => h.1, HB.out⟩
      case round =>
        obtain ⟨k, hk, rfl, A, S, hled, hak, hS, hb⟩ := hrel
        have HLED := Lib.hid hled
        have HAK := Lib.hid hak
        have HS := Lib.hid hS
        have HB := Lib.hid hb
        clear hled hak hS
        by_cases hk2 : k < l.length
        · have hk1 : (k : Int) < l.length := by omega
          obtain ⟨b, off, rfl, hbl, hrg⟩ : ∃ b off, A0 = some ⟨b, off, none⟩ ∧ b < w.heap.size ∧ w.rangeAt b (off + k * 3) (mvV (mv l k)) := by
            rcases HMS.out with h | ⟨b, off, h1, h2, h3⟩
            · rw [h] at hk2; simp at hk2
            · exact ⟨b, off, h1, h2, h3 k hk2⟩
          have hrg2 := range_keep hrg hbl hb
          obtain ⟨m, hm⟩ : ∃ m, mv l k = m := ⟨_, rfl⟩
          have hmok : MvOK m := HOK.out m (by rw [← hm]; unfold mv; rw [List.getD_eq_getElem?_getD, List.getElem?_eq_getElem hk2]; exact List.getElem_mem hk2)
          rw [hm] at hrg2
          have HRG := Lib.hid hrg2
          have HM := Lib.hid hm
          have hbr : b < wr.heap.size := Nat.lt_of_lt_of_le hbl hb.size
          clear hrg hrg2 hb hm hk
          obtain ⟨mN, mU, mA⟩ := m
          obtain ⟨hn1, hn2, hn3⟩ := hmok
          simp only at hn1 hn2 hn3
          have hal := HN.out.ne
          have hmd := Nat.mod_lt mA (show 0 < acs.length by omega)
          obtain ⟨r, hr⟩ : ∃ r, r = mA % acs.length := ⟨_, rfl⟩
          rw [← hr] at hmd
          obtain ⟨ac, hac⟩ : ∃ ac, acs[r]? = some ac := ⟨_, List.getElem?_eq_getElem hmd⟩
          have HRL := Lib.hid hmd
          have HACS := Lib.hid hac
          have HRR := Lib.hid hr
          have hr1 : (0 : Int) ≤ r := by omega
          have hr2 : (r : Int) < acs.length := by omega
          have hrm : (mA : Int).tmod acs.length = r := by rw [hr, Int.natCast_emod]; exact Int.tmod_eq_emod_of_nonneg (by omega)
          have hwa : IntKind.i64.wrap (mA : Int) = mA := IntWalk.i64_in _ (by omega)
          have hwn : IntKind.i64.wrap mN = mN := IntWalk.i64_in _ (by omega)
          have hwm : IntKind.i64.wrap (-mN) = -mN := IntWalk.i64_in _ (by omega)
          have hqr : q < wr.heap.size := Nat.lt_of_lt_of_le hql HB.out.size
          have hanil : ¬ acs = [] := fun h => by rw [h] at hal; simp at hal
          clear hr hac hal hmd
          cases mU
          · go_wp2_with (first | (refine wpList_load_mid rfl 37 (.tmp 39) rfl b (off + k * 3) rfl [.int .i16 mN, .bool false, .int .u8 mA] _ HRG.out Tryd.underlying37 rfl (by kernel_rfl) ?_))
            obtain ⟨wx, hwx⟩ : ∃ wx, wx = wr.alloc (.cells #[.int .i16 mN, .bool false, .int .u8 mA] 37) := ⟨_, rfl⟩
            rw [← hwx]
            have hbx : Below wr.heap.size wr wx := hwx ▸ below_new _ _
            have HRX := Lib.hid (show wx.heap[wr.heap.size]? = some (.cells #[.int .i16 mN, .bool false, .int .u8 mA] 37 (0, 0)) from hwx ▸ heap_alloc_new _ _)
            have HBX := Lib.hid (bel2 HB.out hbx)
            have HLX := Lib.hid (HLED.out.keepB hbx)
            have HSX := Lib.hid (show wx.heap.size = wr.heap.size + 1 by rw [hwx]; simp)
            clear hwx hbx
            have KEY := Lib.hid (show ∀ W, Below wx.heap.size wx W → W.heap[wr.heap.size]? = some (.cells #[.int .i16 mN, .bool false, .int .u8 mA] 37 (0, 0)) ∧ W.cell? ⟨q, r, none⟩ = some (.string ac) from fun W hW => ⟨(hW.block wr.heap.size (by have := HSX.out; omega)).trans HRX.out, by
              have := (owns_keep HVA.out (HBX.out.trans (hW.mono HBX.out.size))).cellAt r (by simpa using HRL.out)
              rw [List.getElem?_map, HACS.out] at this
              simpa [es] using this⟩)
            refine region_lays 22 [43, 44, 45, 46, 47, 48, 49, 50, 51, 52, 53, 54, 55, 56, 57, 58, 59, 60, 61, 62, 63, 64] [21] (asg [(43, .pointer (some ⟨g, 0, none⟩)), (44, .slice (some ⟨q, 0, none⟩) acs.length ca'), (45, .pointer (some ⟨wr.heap.size, 2, none⟩)), (46, .int .u8 mA), (47, .int .i64 mA),
                (48, .slice (some ⟨q, 0, none⟩) acs.length ca'), (49, .int .i64 acs.length), (50, .int .i64 r), (51, .pointer (some ⟨q, r, none⟩)), (52, .string ac), (53, .string sEur), (54, .pointer (some ⟨wr.heap.size, 0, none⟩)), (55, .int .i16 mN), (56, .int .i64 mN),
                (57, .agg #[.string ac, .string sEur, .int .i64 mN]), (58, .string sEur), (59, .pointer (some ⟨wr.heap.size, 0, none⟩)), (60, .int .i16 mN), (61, .int .i64 mN), (62, .int .i64 (-mN)),
                (63, .agg #[.string sX, .string sEur, .int .i64 (-mN)]), (64, .slice (some ⟨wx.heap.size, 0, none⟩) 2 2)])
              (fun W => W.heap[wr.heap.size]? = some (.cells #[.int .i16 mN, .bool false, .int .u8 mA] 37 (0, 0)) ∧ W.cell? ⟨q, r, none⟩ = some (.string ac))
              (fun m => if m = 0 then wx.drew else (wx.alloc (.cells #[.string ac, .string sEur, .int .i64 mN, .string sX, .string sEur, .int .i64 (-mN)] 57)).drew) (by kernel_rfl) (by kernel_rfl) rfl ?_ ?_ ?_ ?_
            · intro m _
              by_cases hm0 : m = 0
              · rw [if_pos hm0]; exact KEY.out _ ((Below.refl _ _).drew)
              · rw [if_neg hm0]; exact KEY.out _ ((below_new _ _).drew)
            · intro i o hi hiC ho τ W hR hd
              have R0 := cell_of_row W _ 0 _ _ _ hR.1
              have R2 := cell_of_row W _ 2 _ _ _ hR.1
              have R3 := hR.2
              simp only [List.getElem?_toArray, List.getElem?_cons_zero, List.getElem?_cons_succ] at R0 R2
              clear hR
              rcases i with _ | _ | _ | _ | _ | _ | _ | _ | _ | _ | _ | _ | _ | _ | _ | _ | _ | _ | _ | _ | _ | _ | i
              all_goals (try (exfalso; omega))
              all_goals (try (exfalso; revert hiC; decide))
              all_goals (simp at ho; subst ho)
              all_goals (simp [dstAt, Region.binds, asg] at hd)
              all_goals (intro K hK; simp only [left1, Option.getD_some, Option.getD_none, putAll, asg, ↓reduceIte, Nat.reduceEqDiff, Act.put, List.setIfInBounds_toArray, List.set_cons_succ, List.set_cons_zero] at hK ⊢; (try simp only [hd] at hK ⊢); go_simp; exact hK)
            · intro k o hk ho τ hR hd
              rcases k with _ | k
              all_goals (first | (exfalso; simp at hk; done) | (exfalso; simp at hk; omega) | skip)
              all_goals (simp at ho; subst ho)
              all_goals (simp [dstAt, Region.binds, asg] at hd)
              rw [if_pos rfl, if_neg (by decide)]
              (intro K hK; simp only [left1, Option.getD_some, Option.getD_none, putAll, asg, ↓reduceIte, Nat.reduceEqDiff, Act.put, List.setIfInBounds_toArray, List.set_cons_succ, List.set_cons_zero] at hK ⊢; (try simp only [hd] at hK ⊢); go_simp; exact hK)
            · (simp only [List.drop_succ_cons, List.drop_zero, List.drop_nil, List.length_cons, List.length_nil, Nat.zero_add, Nat.reduceAdd, putAll, asg, ↓reduceIte, Nat.reduceEqDiff, Act.put, List.setIfInBounds_toArray, List.set_cons_succ, List.set_cons_zero]; first | refine wpList_nil ?_ | skip)
              obtain ⟨w5, hw5⟩ : ∃ w5, w5 = (wx.alloc (.cells #[.string ac, .string sEur, .int .i64 mN, .string sX, .string sEur, .int .i64 (-mN)] 57)).drew := ⟨_, rfl⟩
              rw [← hw5]
              have hb5 : Below wx.heap.size wx w5 := hw5 ▸ (below_new _ _).drew
              have HR5 := Lib.hid (show w5.heap[wx.heap.size]? = some (.cells #[.string ac, .string sEur, .int .i64 mN, .string sX, .string sEur, .int .i64 (-mN)] 57 (0, 0)) from hw5 ▸ heap_alloc_new _ _)
              have HL5 := Lib.hid (HLX.out.keepB hb5)
              have HB5 := Lib.hid (bel2 HBX.out hb5)
              clear hw5 hb5
              go_wp2_with fail
              have hk4 := bkN_length acs l k
              have hin : acs[r]? = some ac := HACS.out
              have hmv := HM.out
              have hacn : ac ≠ sX := fun e => by
                have := HN.out.nodup
                simp only [List.nodup_cons] at this
                exact this.1 (e ▸ List.mem_of_getElem? hin)
              obtain ⟨x1, a1, f1, g1, p1, p2⟩ := HAK.out (ac, sEur) (mem_keys2 (Or.inl rfl) (List.mem_cons_of_mem _ (List.mem_of_getElem? hin)))
              obtain ⟨x2, a2, f2, g2, p3, p4⟩ := HAK.out (sX, sEur) (mem_keys2 (Or.inl rfl) (List.mem_cons_self ..))
              refine (Post_any g sG na A (bkN acs l k) [] S sM wx.heap.size ⟨ac, sEur, mN⟩ ⟨sX, sEur, -mN⟩ x1 x2 _ HL5.out (rowAt _ _ ⟨ac, sEur, mN⟩ ⟨sX, sEur, -mN⟩ HR5.out) (fun h => by have := HLX.out.lt _ h; omega) (by decide) (by omega) rfl hacn (by simp only; omega) a1 a2
                (bears_of f1 g1 p1 p2 (by omega) (by simp only; omega) (by simp only; omega)) (bears_of f2 g2 p3 p4 (by omega) (by simp only; omega) (by simp only; omega))).mono ?_
              rintro x w6 ⟨rfl, hl6, hc6⟩
              have hps : bkN acs l k ++ [⟨((bkN acs l k).length : Int) + 1, sM, [⟨ac, sEur, mN⟩, ⟨sX, sEur, -mN⟩]⟩] = bkN acs l (k + 1) := by
                rw [bkN_succ, hk4, hmv, mvE_eq (cu := sEur) HRR.out hin rfl]
              rw [hps] at hl6
              have HL6 := Lib.hid hl6
              have HAK6 := Lib.hid (show ∀ key ∈ keysTo acs 2, AccOK (chgA A (chs [⟨ac, sEur, mN⟩, ⟨sX, sEur, -mN⟩] 2)) (32768 * ((k + 1 : Nat) : Int)) key by
                intro key hkey
                have h := accOK_post (cl := chs [⟨ac, sEur, mN⟩, ⟨sX, sEur, -mN⟩] 2) (c := 32768) (HAK.out key hkey) (fun p hp => by
                  simp only [chs, List.take_succ_cons, List.take_zero, List.map_cons, List.map_nil, List.mem_cons, List.not_mem_nil, or_false] at hp
                  rcases hp with rfl | rfl
                  · simp only; omega
                  · simp only; omega) (by omega)
                rw [show (32768 : Int) * ((k + 1 : Nat) : Int) = 32768 * k + 32768 by omega]
                exact h)
              have HS6 := Lib.hid (show ∀ j, grow S w5 w6 j → w.heap.size ≤ j from fun j hj => by
                rcases hj with hj | hj
                · exact HS.out j hj
                · exact Nat.le_trans HB5.out.size hj.1)
              have HB6 := Lib.hid (show Below w.heap.size w w6 from HB5.out.trans (hc6.below HB5.out.size HS.out))
              clear hl6 hc6 hps hmv hin hk4 hacn a1 f1 g1 p1 p2 a2 f2 g2 p3 p4
              go_wp2_with fail
              go_roundw
              case measure => simp [intOf]; omega
              case rel => exact ⟨k + 1, by omega, by go_num, _, _, HL6.out, HAK6.out, HS6.out, HB6.out⟩
          · go_wp2_with (first | (refine wpList_load_mid rfl 37 (.tmp 39) rfl b (off + k * 3) rfl [.int .i16 mN, .bool true, .int .u8 mA] _ HRG.out Tryd.underlying37 rfl (by kernel_rfl) ?_))
            obtain ⟨wx, hwx⟩ : ∃ wx, wx = wr.alloc (.cells #[.int .i16 mN, .bool true, .int .u8 mA] 37) := ⟨_, rfl⟩
            rw [← hwx]
            have hbx : Below wr.heap.size wr wx := hwx ▸ below_new _ _
            have HRX := Lib.hid (show wx.heap[wr.heap.size]? = some (.cells #[.int .i16 mN, .bool true, .int .u8 mA] 37 (0, 0)) from hwx ▸ heap_alloc_new _ _)
            have HBX := Lib.hid (bel2 HB.out hbx)
            have HLX := Lib.hid (HLED.out.keepB hbx)
            have HSX := Lib.hid (show wx.heap.size = wr.heap.size + 1 by rw [hwx]; simp)
            clear hwx hbx
            have KEY := Lib.hid (show ∀ W, Below wx.heap.size wx W → W.heap[wr.heap.size]? = some (.cells #[.int .i16 mN, .bool true, .int .u8 mA] 37 (0, 0)) ∧ W.cell? ⟨q, r, none⟩ = some (.string ac) from fun W hW => ⟨(hW.block wr.heap.size (by have := HSX.out; omega)).trans HRX.out, by
              have := (owns_keep HVA.out (HBX.out.trans (hW.mono HBX.out.size))).cellAt r (by simpa using HRL.out)
              rw [List.getElem?_map, HACS.out] at this
              simpa [es] using this⟩)
            refine region_lays 22 [43, 44, 45, 46, 47, 48, 49, 50, 51, 52, 53, 54, 55, 56, 57, 58, 59, 60, 61, 62, 63, 64] [21] (asg [(43, .pointer (some ⟨g, 0, none⟩)), (44, .slice (some ⟨q, 0, none⟩) acs.length ca'), (45, .pointer (some ⟨wr.heap.size, 2, none⟩)), (46, .int .u8 mA), (47, .int .i64 mA),
                (48, .slice (some ⟨q, 0, none⟩) acs.length ca'), (49, .int .i64 acs.length), (50, .int .i64 r), (51, .pointer (some ⟨q, r, none⟩)), (52, .string ac), (53, .string sUsd), (54, .pointer (some ⟨wr.heap.size, 0, none⟩)), (55, .int .i16 mN), (56, .int .i64 mN),
                (57, .agg #[.string ac, .string sUsd, .int .i64 mN]), (58, .string sUsd), (59, .pointer (some ⟨wr.heap.size, 0, none⟩)), (60, .int .i16 mN), (61, .int .i64 mN), (62, .int .i64 (-mN)),
                (63, .agg #[.string sX, .string sUsd, .int .i64 (-mN)]), (64, .slice (some ⟨wx.heap.size, 0, none⟩) 2 2)])
              (fun W => W.heap[wr.heap.size]? = some (.cells #[.int .i16 mN, .bool true, .int .u8 mA] 37 (0, 0)) ∧ W.cell? ⟨q, r, none⟩ = some (.string ac))
              (fun m => if m = 0 then wx.drew else (wx.alloc (.cells #[.string ac, .string sUsd, .int .i64 mN, .string sX, .string sUsd, .int .i64 (-mN)] 57)).drew) (by kernel_rfl) (by kernel_rfl) rfl ?_ ?_ ?_ ?_
            · intro m _
              by_cases hm0 : m = 0
              · rw [if_pos hm0]; exact KEY.out _ ((Below.refl _ _).drew)
              · rw [if_neg hm0]; exact KEY.out _ ((below_new _ _).drew)
            · intro i o hi hiC ho τ W hR hd
              have R0 := cell_of_row W _ 0 _ _ _ hR.1
              have R2 := cell_of_row W _ 2 _ _ _ hR.1
              have R3 := hR.2
              simp only [List.getElem?_toArray, List.getElem?_cons_zero, List.getElem?_cons_succ] at R0 R2
              clear hR
              rcases i with _ | _ | _ | _ | _ | _ | _ | _ | _ | _ | _ | _ | _ | _ | _ | _ | _ | _ | _ | _ | _ | _ | i
              all_goals (try (exfalso; omega))
              all_goals (try (exfalso; revert hiC; decide))
              all_goals (simp at ho; subst ho)
              all_goals (simp [dstAt, Region.binds, asg] at hd)
              all_goals (intro K hK; simp only [left1, Option.getD_some, Option.getD_none, putAll, asg, ↓reduceIte, Nat.reduceEqDiff, Act.put, List.setIfInBounds_toArray, List.set_cons_succ, List.set_cons_zero] at hK ⊢; (try simp only [hd] at hK ⊢); go_simp; exact hK)
            · intro k o hk ho τ hR hd
              rcases k with _ | k
              all_goals (first | (exfalso; simp at hk; done) | (exfalso; simp at hk; omega) | skip)
              all_goals (simp at ho; subst ho)
              all_goals (simp [dstAt, Region.binds, asg] at hd)
              rw [if_pos rfl, if_neg (by decide)]
              (intro K hK; simp only [left1, Option.getD_some, Option.getD_none, putAll, asg, ↓reduceIte, Nat.reduceEqDiff, Act.put, List.setIfInBounds_toArray, List.set_cons_succ, List.set_cons_zero] at hK ⊢; (try simp only [hd] at hK ⊢); go_simp; exact hK)
            · (simp only [List.drop_succ_cons, List.drop_zero, List.drop_nil, List.length_cons, List.length_nil, Nat.zero_add, Nat.reduceAdd, putAll, asg, ↓reduceIte, Nat.reduceEqDiff, Act.put, List.setIfInBounds_toArray, List.set_cons_succ, List.set_cons_zero]; first | refine wpList_nil ?_ | skip)
              obtain ⟨w5, hw5⟩ : ∃ w5, w5 = (wx.alloc (.cells #[.string ac, .string sUsd, .int .i64 mN, .string sX, .string sUsd, .int .i64 (-mN)] 57)).drew := ⟨_, rfl⟩
              rw [← hw5]
              have hb5 : Below wx.heap.size wx w5 := hw5 ▸ (below_new _ _).drew
              have HR5 := Lib.hid (show w5.heap[wx.heap.size]? = some (.cells #[.string ac, .string sUsd, .int .i64 mN, .string sX, .string sUsd, .int .i64 (-mN)] 57 (0, 0)) from hw5 ▸ heap_alloc_new _ _)
              have HL5 := Lib.hid (HLX.out.keepB hb5)
              have HB5 := Lib.hid (bel2 HBX.out hb5)
              clear hw5 hb5
              go_wp2_with fail
              have hk4 := bkN_length acs l k
              have hin : acs[r]? = some ac := HACS.out
              have hmv := HM.out
              have hacn : ac ≠ sX := fun e => by
                have := HN.out.nodup
                simp only [List.nodup_cons] at this
                exact this.1 (e ▸ List.mem_of_getElem? hin)
              obtain ⟨x1, a1, f1, g1, p1, p2⟩ := HAK.out (ac, sUsd) (mem_keys2 (Or.inr rfl) (List.mem_cons_of_mem _ (List.mem_of_getElem? hin)))
              obtain ⟨x2, a2, f2, g2, p3, p4⟩ := HAK.out (sX, sUsd) (mem_keys2 (Or.inr rfl) (List.mem_cons_self ..))
              refine (Post_any g sG na A (bkN acs l k) [] S sM wx.heap.size ⟨ac, sUsd, mN⟩ ⟨sX, sUsd, -mN⟩ x1 x2 _ HL5.out (rowAt _ _ ⟨ac, sUsd, mN⟩ ⟨sX, sUsd, -mN⟩ HR5.out) (fun h => by have := HLX.out.lt _ h; omega) (by decide) (by omega) rfl hacn (by simp only; omega) a1 a2
                (bears_of f1 g1 p1 p2 (by omega) (by simp only; omega) (by simp only; omega)) (bears_of f2 g2 p3 p4 (by omega) (by simp only; omega) (by simp only; omega))).mono ?_
              rintro x w6 ⟨rfl, hl6, hc6⟩
              have hps : bkN acs l k ++ [⟨((bkN acs l k).length : Int) + 1, sM, [⟨ac, sUsd, mN⟩, ⟨sX, sUsd, -mN⟩]⟩] = bkN acs l (k + 1) := by
                rw [bkN_succ, hk4, hmv, mvE_eq (cu := sUsd) HRR.out hin rfl]
              rw [hps] at hl6
              have HL6 := Lib.hid hl6
              have HAK6 := Lib.hid (show ∀ key ∈ keysTo acs 2, AccOK (chgA A (chs [⟨ac, sUsd, mN⟩, ⟨sX, sUsd, -mN⟩] 2)) (32768 * ((k + 1 : Nat) : Int)) key by
                intro key hkey
                have h := accOK_post (cl := chs [⟨ac, sUsd, mN⟩, ⟨sX, sUsd, -mN⟩] 2) (c := 32768) (HAK.out key hkey) (fun p hp => by
                  simp only [chs, List.take_succ_cons, List.take_zero, List.map_cons, List.map_nil, List.mem_cons, List.not_mem_nil, or_false] at hp
                  rcases hp with rfl | rfl
                  · simp only; omega
                  · simp only; omega) (by omega)
                rw [show (32768 : Int) * ((k + 1 : Nat) : Int) = 32768 * k + 32768 by omega]
                exact h)
              have HS6 := Lib.hid (show ∀ j, grow S w5 w6 j → w.heap.size ≤ j from fun j hj => by
                rcases hj with hj | hj
                · exact HS.out j hj
                · exact Nat.le_trans HB5.out.size hj.1)
              have HB6 := Lib.hid (show Below w.heap.size w w6 from HB5.out.trans (hc6.below HB5.out.size HS.out))
              clear hl6 hc6 hps hmv hin hk4 hacn a1 f1 g1 p1 p2 a2 f2 g2 p3 p4
              go_wp2_with fail
              go_roundw
              case measure => simp [intOf]; omega
              case rel => exact ⟨k + 1, by omega, by go_num, _, _, HL6.out, HAK6.out, HS6.out, HB6.out⟩
        · have hk1 : ¬ (k : Int) < l.length := by omega
          obtain rfl : k = l.length := by omega
          clear hk hk2 hb
          go_wp2_with fail
          go_returns
          exact ⟨g, rfl, na, A, S, HLED.out, HS.out, HB.out⟩
end Go.Proofs.YtpkiiegadckloaaDoor
