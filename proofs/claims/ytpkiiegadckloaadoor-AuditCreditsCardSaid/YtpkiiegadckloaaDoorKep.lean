/- What is held of an account is changed. -/
import Derived.Test.YtpkiiegadckloaaDoorHol
set_option linter.unusedSimpArgs false
set_option linter.unusedVariables false
namespace Go.Proofs.YtpkiiegadckloaaDoor
open Go.RowKit

set_option maxRecDepth 100000 in
set_option maxHeartbeats 1000000 in
theorem keep_any (g : Nat) (ow : ByteArray) (na : Nat) (A : Key → Option Acc) (ps : List Pst) (hl : List (ByteArray × Value)) (S : Nat → Prop) (k : Key) (x : Acc) (n : Int) (w : World) (h : LedAt w g ow na A ps hl S) (ha : A k = some x)
    (hb : -9223372036854775808 ≤ x.held + n) (hb' : x.held + n ≤ 9223372036854775807) :
    Calls Tryd.prog 35 #[.pointer (some ⟨g, 0, none⟩), ek k, .int .i64 n] w fun r w' => r = .returned (.tuple #[]) ∧ LedAt w' g ow na (upd A k ⟨x.floor, x.bal, x.held + n⟩) ps hl S ∧ Chg S w w' := by
  obtain ⟨ma, mh, v, pl, hB, rfl⟩ := h.open
  obtain ⟨kc, ku⟩ := k
  obtain ⟨af, ab, ah⟩ := x
  simp only at hb hb'
  have hw : IntKind.i64.wrap (ah + n) = ah + n := IntWalk.i64_in _ (by omega)
  have HB := Lib.hid hB
  have HAK := Lib.hid ha
  clear hB h ha
  unfold ek
  go_enter Tryd.func35, Tryd.ntmps35
  go_wp2_with fail
  obtain ⟨wk, hwk⟩ : ∃ wk, wk = w.alloc (.cells #[.string kc, .string ku] 72) := ⟨_, rfl⟩
  rw [← hwk]
  have HBK := Lib.hid (show Below w.heap.size w wk from hwk ▸ below_new _ _)
  have HRK := Lib.hid (show wk.heap[w.heap.size]? = some (.cells #[.string kc, .string ku] 72 (0, 0)) from hwk ▸ heap_alloc_new _ _)
  have HSK := Lib.hid (show wk.heap.size = w.heap.size + 1 by rw [hwk]; simp)
  clear hwk
  have HLK := Lib.hid (HB.out.keepB HBK.out)
  have key : ∀ W, Below wk.heap.size wk W → W.cell? ⟨g, 1, none⟩ = some (.map (some ma)) ∧ W.heap[w.heap.size]? = some (.cells #[.string kc, .string ku] 72 (0, 0)) ∧
      (Instr.lookup 67 (.map (some ma)) (.agg #[.string kc, .string ku]) false).run Tryd.prog W = .ok (.agg #[.int .i64 af, .int .i64 ab, .int .i64 ah]) W := by
    intro W hB
    have h1 := HLK.out.keepB hB
    exact ⟨h1.c1, (hB.block w.heap.size (by have := HSK.out; omega)).trans HRK.out, h1.look (kc, ku) HAK.out false⟩
  have KEY := Lib.hid key
  clear key
  refine region_lays 8 [7, 8, 9, 10, 11, 12, 6] [6, 7] (asg [(7, .pointer (some ⟨g, 0, none⟩)), (8, .pointer (some ⟨g, 0, none⟩)), (9, .pointer (some ⟨g, 1, none⟩)), (10, .map (some ma)),
      (11, .agg #[.string kc, .string ku]), (12, .agg #[.int .i64 af, .int .i64 ab, .int .i64 ah]), (6, .pointer (some ⟨wk.heap.size, 0, none⟩))])
    (fun W => W.cell? ⟨g, 1, none⟩ = some (.map (some ma)) ∧ W.heap[w.heap.size]? = some (.cells #[.string kc, .string ku] 72 (0, 0)) ∧
      (Instr.lookup 67 (.map (some ma)) (.agg #[.string kc, .string ku]) false).run Tryd.prog W = .ok (.agg #[.int .i64 af, .int .i64 ab, .int .i64 ah]) W)
    (fun m => if m = 0 then wk.drew else if m = 1 then (wk.alloc (.cells #[.int .i64 0, .int .i64 0, .int .i64 0] 74)).drew else (wk.alloc (.cells #[.int .i64 af, .int .i64 ab, .int .i64 ah] 74)).drew) (by kernel_rfl) (by kernel_rfl) rfl ?_ ?_ ?_ ?_
  · intro m _
    by_cases hm0 : m = 0
    · rw [if_pos hm0]; exact KEY.out _ ((Below.refl _ _).drew)
    · rw [if_neg hm0]
      by_cases hm1 : m = 1
      · rw [if_pos hm1]; exact KEY.out _ ((below_new _ _).drew)
      · rw [if_neg hm1]; exact KEY.out _ ((below_new _ _).drew)
  · intro i o hi hiC ho τ W hR hd
    obtain ⟨R1, R2, R3⟩ := hR
    rcases i with _ | _ | _ | _ | _ | _ | _ | _ | i
    all_goals (try (exfalso; omega))
    all_goals (try (exfalso; revert hiC; decide))
    all_goals (simp at ho; subst ho)
    all_goals (simp [dstAt, Region.binds, asg] at hd)
    · (intro K hK; simp only [left1, Option.getD_some, Option.getD_none, putAll, asg, ↓reduceIte, Nat.reduceEqDiff, Act.put, List.setIfInBounds_toArray, List.set_cons_succ, List.set_cons_zero] at hK ⊢; (try simp only [hd] at hK ⊢); go_simp; exact hK)
    · (intro K hK; simp only [left1, Option.getD_some, Option.getD_none, putAll, asg, ↓reduceIte, Nat.reduceEqDiff, Act.put, List.setIfInBounds_toArray, List.set_cons_succ, List.set_cons_zero] at hK ⊢; (try simp only [hd] at hK ⊢); go_simp; exact hK)
    · (intro K hK; simp only [left1, Option.getD_some, Option.getD_none, putAll, asg, ↓reduceIte, Nat.reduceEqDiff, Act.put, List.setIfInBounds_toArray, List.set_cons_succ, List.set_cons_zero] at hK ⊢; (try simp only [hd] at hK ⊢); go_simp; exact hK)
    · (intro K hK; simp only [left1, Option.getD_some, Option.getD_none, putAll, asg, ↓reduceIte, Nat.reduceEqDiff, Act.put, List.setIfInBounds_toArray, List.set_cons_succ, List.set_cons_zero] at hK ⊢; (try simp only [hd] at hK ⊢); go_simp; exact hK)
    · (intro K hK; simp only [left1, Option.getD_some, Option.getD_none, putAll, asg, ↓reduceIte, Nat.reduceEqDiff, Act.put, List.setIfInBounds_toArray, List.set_cons_succ, List.set_cons_zero] at hK ⊢; (try simp only [hd] at hK ⊢); refine wp_load_row _ _ rfl _ rfl 72 _ (0, 0) _ R2 Tryd.underlying72 rfl (by kernel_rfl) ?_; exact hK)
    · (intro K hK; simp only [left1, Option.getD_some, Option.getD_none, putAll, asg, ↓reduceIte, Nat.reduceEqDiff, Act.put, List.setIfInBounds_toArray, List.set_cons_succ, List.set_cons_zero] at hK ⊢; (try simp only [hd] at hK ⊢); go_simp; exact hK)
  · intro k o hk ho τ hR hd
    rcases k with _ | _ | k
    all_goals (first | (exfalso; simp at hk; done) | (exfalso; simp at hk; omega) | skip)
    all_goals (simp at ho; subst ho)
    all_goals (simp [dstAt, Region.binds, asg] at hd)
    · rw [if_pos rfl, if_neg (by decide), if_pos rfl]
      (intro K hK; simp only [left1, Option.getD_some, Option.getD_none, putAll, asg, ↓reduceIte, Nat.reduceEqDiff, Act.put, List.setIfInBounds_toArray, List.set_cons_succ, List.set_cons_zero] at hK ⊢; (try simp only [hd] at hK ⊢); go_simp; exact hK)
    · rw [if_neg (by decide), if_pos rfl, if_neg (by decide), if_neg (by decide)]
      (intro K hK; simp only [left1, Option.getD_some, Option.getD_none, putAll, asg, ↓reduceIte, Nat.reduceEqDiff, Act.put, List.setIfInBounds_toArray, List.set_cons_succ, List.set_cons_zero] at hK ⊢; (try simp only [hd] at hK ⊢); go_simp; exact hK)
  · (simp only [List.drop_succ_cons, List.drop_zero, List.drop_nil, List.length_cons, List.length_nil, Nat.zero_add, Nat.reduceAdd, putAll, asg, ↓reduceIte, Nat.reduceEqDiff, Act.put, List.setIfInBounds_toArray, List.set_cons_succ, List.set_cons_zero]; first | refine wpList_nil ?_ | skip)
    go_wp2_with fail
    obtain ⟨w5, hw5⟩ : ∃ w5, w5 = (wk.alloc (.cells #[.int .i64 af, .int .i64 ab, .int .i64 (ah + n)] 74)).drew := ⟨_, rfl⟩
    rw [← hw5]
    have HB5 := Lib.hid (show Below wk.heap.size wk w5 from hw5 ▸ (below_new _ _).drew)
    have HR5 := Lib.hid (show w5.heap[wk.heap.size]? = some (.cells #[.int .i64 af, .int .i64 ab, .int .i64 (ah + n)] 74 (0, 0)) from hw5 ▸ heap_alloc_new _ _)
    have HRK5 := Lib.hid ((HB5.out.block w.heap.size (by have := HSK.out; omega)).trans HRK.out)
    have HL5 := Lib.hid ((HLK.out.keepB HB5.out).keepB (w' := w5.drew) ((Below.refl _ _).drew))
    clear hw5
    obtain ⟨w6, hr6, hl6, hg6, hs6⟩ := HL5.out.upd (kc, ku) HAK.out ⟨af, ab, ah + n⟩
    have HF := Lib.hid (show _ ∧ _ from ⟨hl6.at, (Chg.of_below (S := S) (bel2 HBK.out HB5.out)).trans (T := S) (Chg.of_grown (w' := w6) (w := w5.drew) hg6 (fun i hi => by cases hi; exact HLK.out.sa)) (fun i hi => Or.inl hi)⟩)
    have HR6 := Lib.hid hr6
    clear hr6 hl6 hg6 hs6
    refine region_lays 6 [18, 19, 20, 21, 22, 23] [] (asg [(18, .pointer (some ⟨g, 0, none⟩)), (19, .pointer (some ⟨g, 0, none⟩)), (20, .pointer (some ⟨g, 1, none⟩)), (21, .map (some ma)),
        (22, .agg #[.string kc, .string ku]), (23, .agg #[.int .i64 af, .int .i64 ab, .int .i64 (ah + n)])])
      (fun W => W.cell? ⟨g, 1, none⟩ = some (.map (some ma)) ∧ W.heap[w.heap.size]? = some (.cells #[.string kc, .string ku] 72 (0, 0)) ∧ W.heap[wk.heap.size]? = some (.cells #[.int .i64 af, .int .i64 ab, .int .i64 (ah + n)] 74 (0, 0)))
      (fun _ => w5.drew) (by kernel_rfl) (by kernel_rfl) rfl ?_ ?_ ?_ ?_
    · intro m _
      exact ⟨HL5.out.c1, HRK5.out, HR5.out⟩
    · intro i o hi hiC ho τ W hR hd
      obtain ⟨R1, R2, R3⟩ := hR
      rcases i with _ | _ | _ | _ | _ | _ | i
      all_goals (try (exfalso; omega))
      all_goals (simp at ho; subst ho)
      all_goals (simp [dstAt, Region.binds, asg] at hd)
      · (intro K hK; simp only [left1, Option.getD_some, Option.getD_none, putAll, asg, ↓reduceIte, Nat.reduceEqDiff, Act.put, List.setIfInBounds_toArray, List.set_cons_succ, List.set_cons_zero] at hK ⊢; (try simp only [hd] at hK ⊢); go_simp; exact hK)
      · (intro K hK; simp only [left1, Option.getD_some, Option.getD_none, putAll, asg, ↓reduceIte, Nat.reduceEqDiff, Act.put, List.setIfInBounds_toArray, List.set_cons_succ, List.set_cons_zero] at hK ⊢; (try simp only [hd] at hK ⊢); go_simp; exact hK)
      · (intro K hK; simp only [left1, Option.getD_some, Option.getD_none, putAll, asg, ↓reduceIte, Nat.reduceEqDiff, Act.put, List.setIfInBounds_toArray, List.set_cons_succ, List.set_cons_zero] at hK ⊢; (try simp only [hd] at hK ⊢); go_simp; exact hK)
      · (intro K hK; simp only [left1, Option.getD_some, Option.getD_none, putAll, asg, ↓reduceIte, Nat.reduceEqDiff, Act.put, List.setIfInBounds_toArray, List.set_cons_succ, List.set_cons_zero] at hK ⊢; (try simp only [hd] at hK ⊢); go_simp; exact hK)
      · (intro K hK; simp only [left1, Option.getD_some, Option.getD_none, putAll, asg, ↓reduceIte, Nat.reduceEqDiff, Act.put, List.setIfInBounds_toArray, List.set_cons_succ, List.set_cons_zero] at hK ⊢; (try simp only [hd] at hK ⊢); refine wp_load_row _ _ rfl _ rfl 72 _ (0, 0) _ R2 Tryd.underlying72 rfl (by kernel_rfl) ?_; exact hK)
      · (intro K hK; simp only [left1, Option.getD_some, Option.getD_none, putAll, asg, ↓reduceIte, Nat.reduceEqDiff, Act.put, List.setIfInBounds_toArray, List.set_cons_succ, List.set_cons_zero] at hK ⊢; (try simp only [hd] at hK ⊢); refine wp_load_row _ _ rfl _ rfl 74 _ (0, 0) _ R3 Tryd.underlying74 rfl (by kernel_rfl) ?_; exact hK)
    · intro k o hk
      simp at hk
    · (simp only [List.drop_succ_cons, List.drop_zero, List.drop_nil, List.length_cons, List.length_nil, Nat.zero_add, Nat.reduceAdd, putAll, asg, ↓reduceIte, Nat.reduceEqDiff, Act.put, List.setIfInBounds_toArray, List.set_cons_succ, List.set_cons_zero]; first | refine wpList_nil ?_ | skip)
      have hr6 := HR6.out
      simp only [ek, av] at hr6
      go_wp2
      clear hr6
      go_returns
      exact ⟨rfl, HF.out.1, HF.out.2⟩
end Go.Proofs.YtpkiiegadckloaaDoor
