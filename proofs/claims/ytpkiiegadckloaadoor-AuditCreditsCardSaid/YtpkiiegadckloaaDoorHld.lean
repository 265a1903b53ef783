/- Something is held. -/
import Derived.Test.YtpkiiegadckloaaDoorLet
set_option linter.unusedSimpArgs false
set_option linter.unusedVariables false
namespace Go.Proofs.YtpkiiegadckloaaDoor
open Go.RowKit

set_option maxRecDepth 100000 in
set_option maxHeartbeats 4000000 in
theorem Hold_any (g k base : Nat) (id : ByteArray) (sum : Int) (w : World) (hk : k ≤ 40) (hbs : base ≤ w.heap.size) (hu : U id) (hs0 : 0 ≤ sum) (hs1 : sum ≤ 65535) (h : Cst w g k base) :
    Calls Tryd.prog 16 #[.pointer (some ⟨g, 0, none⟩), .string id, .string sAa, .string sEur, .int .i64 sum] w fun r w' => Acted w g k base r w' := by
  have hC := h
  obtain ⟨A, ps, hl, S, h1, h2, h3, h4, h5, h6, h7, h8⟩ := h
  obtain ⟨⟨af, ab, ah⟩, hx, x1, x2, x3, x4, x5, x6⟩ := h2
  simp only at x1 x2 x3 x4 x5 x6
  have HC := Lib.hid hC
  have H1 := Lib.hid h1
  have HX := Lib.hid hx
  have H3 := Lib.hid h3
  have H4 := Lib.hid h4
  have H5 := Lib.hid (And.intro h5 h6)
  have H7 := Lib.hid h7
  have H8 := Lib.hid h8
  have HU := Lib.hid hu
  obtain ⟨w1, hw1⟩ : ∃ w1, w1 = w.alloc (.cells #[.string sAa, .string sEur] 72) := ⟨_, rfl⟩
  have hb1 : Below w.heap.size w w1 := hw1 ▸ below_new _ _
  have HK1 := Lib.hid (show w1.heap[w.heap.size]? = some (.cells #[.string sAa, .string sEur] 72 (0, 0)) from hw1 ▸ heap_alloc_new _ _)
  have HS1 := Lib.hid (show w1.heap.size = w.heap.size + 1 by rw [hw1]; simp)
  obtain ⟨ma, mh, v, pl, hB, hps⟩ := (h1.keepB hb1).open
  have HL := Lib.hid hB
  have HPS := Lib.hid hps
  have HB1 := Lib.hid hb1
  clear hC h1 hx h3 h4 h5 h6 h7 h8 hu hB hps hb1
  go_enter Tryd.func16, Tryd.ntmps16
  go_wp2_with fail
  rw [← hw1]
  clear hw1
  have key : ∀ W, Below w1.heap.size w1 W → W.cell? ⟨g, 1, none⟩ = some (.map (some ma)) ∧ W.heap[w.heap.size]? = some (.cells #[.string sAa, .string sEur] 72 (0, 0)) ∧
      (Instr.lookup 67 (.map (some ma)) (.agg #[.string sAa, .string sEur]) true).run Tryd.prog W = .ok (.tuple #[.agg #[.int .i64 af, .int .i64 ab, .int .i64 ah], .bool true]) W := by
    intro W hB
    have h1 := HL.out.keepB hB
    exact ⟨h1.c1, (hB.block w.heap.size (by have := HS1.out; omega)).trans HK1.out, h1.look (sAa, sEur) HX.out true⟩
  have KEY := Lib.hid key
  clear key
  refine region_lays 12 [20, 21, 22, 23, 24, 25, 19, 26, 27, 12, 13] [9, 10] (asg [(20, .pointer (some ⟨g, 0, none⟩)), (21, .pointer (some ⟨g, 0, none⟩)), (22, .pointer (some ⟨g, 1, none⟩)), (23, .map (some ma)), (24, .agg #[.string sAa, .string sEur]), (25, .tuple #[.agg #[.int .i64 af, .int .i64 ab, .int .i64 ah], .bool true]), (19, .tuple #[.agg #[.int .i64 af, .int .i64 ab, .int .i64 ah], .bool true]), (26, .agg #[.int .i64 af, .int .i64 ab, .int .i64 ah]), (27, .bool true), (12, .pointer (some ⟨w1.heap.size, 0, none⟩)), (13, .bool true)])
    (fun W => W.cell? ⟨g, 1, none⟩ = some (.map (some ma)) ∧ W.heap[w.heap.size]? = some (.cells #[.string sAa, .string sEur] 72 (0, 0)) ∧ (Instr.lookup 67 (.map (some ma)) (.agg #[.string sAa, .string sEur]) true).run Tryd.prog W = .ok (.tuple #[.agg #[.int .i64 af, .int .i64 ab, .int .i64 ah], .bool true]) W)
    (fun m => if m = 0 then w1.drew else if m = 1 then (w1.alloc (.cells #[.int .i64 0, .int .i64 0, .int .i64 0] 74)).drew else (w1.alloc (.cells #[.int .i64 af, .int .i64 ab, .int .i64 ah] 74)).drew) (by kernel_rfl) (by kernel_rfl) rfl ?_ ?_ ?_ ?_
  · intro m _
    by_cases hm0 : m = 0
    · rw [if_pos hm0]; exact KEY.out _ ((Below.refl _ _).drew)
    · rw [if_neg hm0]
      by_cases hm1 : m = 1
      · rw [if_pos hm1]; exact KEY.out _ ((below_new _ _).drew)
      · rw [if_neg hm1]; exact KEY.out _ ((below_new _ _).drew)
  · intro i o hi hiC ho τ W hR hd
    obtain ⟨R1, R2, R3⟩ := hR
    rcases i with _ | _ | _ | _ | _ | _ | _ | _ | _ | _ | _ | _ | i
    all_goals (try (exfalso; omega))
    all_goals (try (exfalso; revert hiC; decide))
    all_goals (simp at ho; subst ho)
    all_goals (simp [dstAt, Region.binds, asg] at hd)
    · (intro K hK; simp only [left1, Option.getD_some, Option.getD_none, putAll, asg, ↓reduceIte, Nat.reduceEqDiff, Act.put, List.setIfInBounds_toArray, List.set_cons_succ, List.set_cons_zero] at hK ⊢; (try simp only [hd] at hK ⊢); go_simp; exact hK)
    · (intro K hK; simp only [left1, Option.getD_some, Option.getD_none, putAll, asg, ↓reduceIte, Nat.reduceEqDiff, Act.put, List.setIfInBounds_toArray, List.set_cons_succ, List.set_cons_zero] at hK ⊢; (try simp only [hd] at hK ⊢); go_simp; exact hK)
    · (intro K hK; simp only [left1, Option.getD_some, Option.getD_none, putAll, asg, ↓reduceIte, Nat.reduceEqDiff, Act.put, List.setIfInBounds_toArray, List.set_cons_succ, List.set_cons_zero] at hK ⊢; (try simp only [hd] at hK ⊢); go_simp; exact hK)
    · (intro K hK; simp only [left1, Option.getD_some, Option.getD_none, putAll, asg, ↓reduceIte, Nat.reduceEqDiff, Act.put, List.setIfInBounds_toArray, List.set_cons_succ, List.set_cons_zero] at hK ⊢; (try simp only [hd] at hK ⊢); go_simp; exact hK)
    · (intro K hK; simp only [left1, Option.getD_some, Option.getD_none, putAll, asg, ↓reduceIte, Nat.reduceEqDiff, Act.put, List.setIfInBounds_toArray, List.set_cons_succ, List.set_cons_zero] at hK ⊢; (try simp only [hd] at hK ⊢); refine wp_load_row _ _ rfl _ rfl 72 _ (0, 0) _ R2 Tryd.underlying72 rfl (by kernel_rfl) ?_; exact hK)
    · (intro K hK; simp only [left1, Option.getD_some, Option.getD_none, putAll, asg, ↓reduceIte, Nat.reduceEqDiff, Act.put, List.setIfInBounds_toArray, List.set_cons_succ, List.set_cons_zero] at hK ⊢; (try simp only [hd] at hK ⊢); go_simp; exact hK)
    · (intro K hK; simp only [left1, Option.getD_some, Option.getD_none, putAll, asg, ↓reduceIte, Nat.reduceEqDiff, Act.put, List.setIfInBounds_toArray, List.set_cons_succ, List.set_cons_zero] at hK ⊢; (try simp only [hd] at hK ⊢); go_simp; exact hK)
    · (intro K hK; simp only [left1, Option.getD_some, Option.getD_none, putAll, asg, ↓reduceIte, Nat.reduceEqDiff, Act.put, List.setIfInBounds_toArray, List.set_cons_succ, List.set_cons_zero] at hK ⊢; (try simp only [hd] at hK ⊢); go_simp; exact hK)
    · (intro K hK; simp only [left1, Option.getD_some, Option.getD_none, putAll, asg, ↓reduceIte, Nat.reduceEqDiff, Act.put, List.setIfInBounds_toArray, List.set_cons_succ, List.set_cons_zero] at hK ⊢; (try simp only [hd] at hK ⊢); go_simp; exact hK)
    · (intro K hK; simp only [left1, Option.getD_some, Option.getD_none, putAll, asg, ↓reduceIte, Nat.reduceEqDiff, Act.put, List.setIfInBounds_toArray, List.set_cons_succ, List.set_cons_zero] at hK ⊢; (try simp only [hd] at hK ⊢); go_simp; exact hK)
  · intro k o hk ho τ hR hd
    rcases k with _ | _ | k
    all_goals (first | (exfalso; simp at hk; done) | (exfalso; simp at hk; omega) | skip)
    all_goals (simp at ho; subst ho)
    all_goals (simp [dstAt, Region.binds, asg] at hd)
    · rw [if_pos rfl, if_neg (by decide), if_pos rfl]
      (intro K hK; simp only [left1, Option.getD_some, Option.getD_none, putAll, asg, ↓reduceIte, Nat.reduceEqDiff, Act.put, List.setIfInBounds_toArray, List.set_cons_succ, List.set_cons_zero] at hK ⊢; (try simp only [hd] at hK ⊢); go_simp; exact hK)
    · rw [if_neg (by decide), if_pos rfl, if_neg (by decide), if_neg (by decide)]
      (intro K hK; simp only [left1, Option.getD_some, Option.getD_none, putAll, asg, ↓reduceIte, Nat.reduceEqDiff, Act.put, List.setIfInBounds_toArray, List.set_cons_succ, List.set_cons_zero] at hK ⊢; (try simp only [hd] at hK ⊢); go_simp; exact hK)
  · (simp only [List.drop_succ_cons, List.drop_zero, List.drop_nil, List.length_cons, List.length_nil, Nat.zero_add, Nat.reduceAdd, putAll, asg, ↓reduceIte, Nat.reduceEqDiff, Act.put, List.setIfInBounds_toArray, List.set_cons_succ, List.set_cons_zero]; first | refine wpList_nil ?_ | skip)
    obtain ⟨w2, hw2⟩ : ∃ w2, w2 = (w1.alloc (.cells #[.int .i64 af, .int .i64 ab, .int .i64 ah] 74)).drew := ⟨_, rfl⟩
    rw [← hw2]
    have hb2 : Below w1.heap.size w1 w2 := hw2 ▸ (below_new _ _).drew
    have HR2 := Lib.hid (show w2.heap[w1.heap.size]? = some (.cells #[.int .i64 af, .int .i64 ab, .int .i64 ah] 74 (0, 0)) from hw2 ▸ heap_alloc_new _ _)
    have HK2 := Lib.hid ((hb2.block w.heap.size (by have := HS1.out; omega)).trans HK1.out)
    have HL2 := Lib.hid (HL.out.keepB hb2)
    have HB2 := Lib.hid (bel2 HB1.out hb2)
    clear hw2 hb2
    have hlk := HL2.out.hlook id true
    have c3 := HL2.out.c3
    have hgl : g < w2.heap.size := HL2.out.lt _ HL2.out.sg
    cases hf : fnd hl id with
    | some u =>
      rw [hf] at hlk
      obtain ⟨-, n, rfl, -, -⟩ := H4.out id u hf
      simp only [Option.getD_some, Option.isSome_some, if_true] at hlk
      rw [hv] at hlk
      clear hf
      go_wp2_with (first | (go_at_call 29; refine (name_any id HU.out.good.1 HU.out.good.2.1 (by have := HU.out.good.2.2; omega) _).mono ?_; rintro r w4 ⟨rfl, hb4⟩))
      go_returns
      have hbb := bel2 (bel2 HB2.out (below_new w2 (.cells #[.string id, .string sAa, .string sEur, .int .i64 n] 79))) hb4
      exact acted (HC.out.keepB hbb).more (hbb.mono hbs)
    | none =>
      have HF := Lib.hid hf
      rw [hf] at hlk
      simp only [Option.getD_none, Option.isSome_none, if_true] at hlk
      clear hf
      obtain ⟨w3, hw3⟩ : ∃ w3, w3 = w2.alloc (.cells #[.string ⟨#[]⟩, .string ⟨#[]⟩, .string ⟨#[]⟩, .int .i64 0] 79) := ⟨_, rfl⟩
      have hb3 : Below w2.heap.size w2 w3 := hw3 ▸ below_new _ _
      have HB3 := Lib.hid (bel2 HB2.out hb3)
      have HR3 := Lib.hid ((hb3.block _ (Array.getElem?_eq_some_iff.1 HR2.out).1).trans HR2.out)
      have HK3 := Lib.hid ((hb3.block _ (Array.getElem?_eq_some_iff.1 HK2.out).1).trans HK2.out)
      have HL3 := Lib.hid (HL2.out.keepB hb3)
      have HW3 := Lib.hid hw3
      clear hb3 hw3
      by_cases hs2 : sum < 1
      · have d1 : decide (sum < 1) = true := decide_eq_true hs2
        clear hs2
        go_wp2_with (first | (go_at_call 29; rw [← HW3.out]; refine (name_any id HU.out.good.1 HU.out.good.2.1 (by have := HU.out.good.2.2; omega) _).mono ?_; rintro r w4 ⟨rfl, hb4⟩))
        go_returns
        exact acted (HC.out.keepB (bel2 HB3.out hb4)).more ((bel2 HB3.out hb4).mono hbs)
      · have d1 : decide (sum < 1) = false := decide_eq_false hs2
        have d2 : decide (1099511627776 < sum) = false := decide_eq_false (by omega)
        go_wp2_with (first
          | (go_at_call 29; rw [← HW3.out]; refine (name_any id HU.out.good.1 HU.out.good.2.1 (by have := HU.out.good.2.2; omega) _).mono ?_; rintro r w4 ⟨rfl, hb4⟩
             have HB4 := Lib.hid (bel2 HB3.out hb4)
             have HR4 := Lib.hid ((hb4.block _ (Array.getElem?_eq_some_iff.1 HR3.out).1).trans HR3.out)
             have HK4 := Lib.hid ((hb4.block _ (Array.getElem?_eq_some_iff.1 HK3.out).1).trans HK3.out)
             have HL4 := Lib.hid (HL3.out.keepB hb4)
             clear hb4)
          | (refine wpList_load_row rfl 74 (.tmp 12) rfl w1.heap.size rfl 74 _ (0, 0) _ HR4.out Tryd.underlying74 rfl (by kernel_rfl) ?_))
        refine (free_any af ab ah (by omega) (by omega) _).mono ?_
        rintro r w5 ⟨rfl, hb5⟩
        have HB5 := Lib.hid (bel2 HB4.out hb5)
        have HK5 := Lib.hid ((hb5.block _ (Array.getElem?_eq_some_iff.1 HK4.out).1).trans HK4.out)
        have HL5 := Lib.hid (HL4.out.keepB hb5)
        have c5 := HL5.out.c3
        have hl5 : ∀ ty, (Builtin.len_ #[68] ty #[.map (some mh)]).run Tryd.prog w5 = .ok (.int .i64 hl.length) w5 := fun ty => run_lenM HL5.out.hmap Tryd.underlying68 ty
        have hlen : ((hl.length : Nat) : Int) < 4096 := by have := H5.out.1; omega
        clear hb5 c3
        by_cases hfr : ab - ah - af < sum
        · have d3 : decide (ab - ah - af < sum) = true := decide_eq_true hfr
          clear hfr
          go_wp2_with fail
          go_returns
          exact acted (HC.out.keepB HB5.out).more (HB5.out.mono hbs)
        · have d3 : decide (ab - ah - af < sum) = false := decide_eq_false hfr
          clear hfr
          obtain ⟨w6, hr6, hl6, hg6, hs6⟩ := HL5.out.hput id (hv id sAa sEur sum)
          have HMS := Lib.hid HL5.out.sh
          have HC6 := Lib.hid (show Chg S w5 w6 from Chg.of_grown hg6 (fun i hi => by cases hi; exact HMS.out))
          have HL6 := Lib.hid hl6
          have HK6 := Lib.hid ((HC6.out.block (Array.getElem?_eq_some_iff.1 HK5.out).1 (fun hS => by have := H1.out.lt _ hS; omega)).trans HK5.out)
          have HR6 := Lib.hid hr6
          clear hr6 hl6 hg6 hs6
          have hr6 := HR6.out
          rw [hv] at hr6
          go_wp2_with (first | (refine wpList_load_row rfl 72 (.tmp 11) rfl w.heap.size rfl 72 _ (0, 0) _ HK6.out Tryd.underlying72 rfl (by kernel_rfl) ?_))
          have hat := HL6.out.at
          rw [HPS.out] at hat
          refine (keep_any g sG 2 A ps _ S (sAa, sEur) ⟨af, ab, ah⟩ sum _ hat HX.out (by simp only; omega) (by simp only; omega)).mono ?_
          rintro r w7 ⟨rfl, hl7, hc7⟩
          have HFin := Lib.hid (acted (c := 0) (show Cst w7 g (k + 1) base from ⟨_, ps, _, S, hl7, (AccB.held (d := 131072) (x := ⟨af, ab, ah⟩) ⟨⟨af, ab, ah⟩, HX.out, x1, x2, x3, x4, x5, x6⟩ HX.out ⟨x1, x2, x3, x4, x5, x6⟩ (by omega) (by omega) (by omega)).mono (by omega),
            (H3.out.held (d := 131072) (x := ⟨af, ab, ah⟩) HX.out ⟨x1, x2, x3, x4, x5, x6⟩ (by omega) (by omega) (by omega)).mono (by omega), H4.out.put HU.out (by omega) hs1, Nat.le_trans (put_length _ _ _) (by have := H5.out.1; omega), by have := H5.out.2; omega, H7.out, H8.out⟩)
            ((HB5.out.mono hbs).trans ((HC6.out.trans hc7 (fun i hi => Or.inl hi)).below (by have := HB5.out.size; omega) H8.out)))
          clear hl7 hc7 hr6 hat
          go_wp2_with fail
          go_returns
          exact HFin.out
end Go.Proofs.YtpkiiegadckloaaDoor
