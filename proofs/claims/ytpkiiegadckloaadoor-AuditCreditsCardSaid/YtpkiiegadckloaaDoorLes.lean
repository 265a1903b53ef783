/- A hold is lessened. -/
import Derived.Test.YtpkiiegadckloaaDoorKep
set_option linter.unusedSimpArgs false
set_option linter.unusedVariables false
namespace Go.Proofs.YtpkiiegadckloaaDoor
open Go.RowKit

def hv (id ac cu : ByteArray) (n : Int) : Value := .agg #[.string id, .string ac, .string cu, .int .i64 n]
/-- The holds where this much is left of one. -/
def lessH (id ac cu : ByteArray) (d : Int) (hl : List (ByteArray × Value)) : List (ByteArray × Value) := if d = 0 then del id hl else put id (hv id ac cu d) hl

set_option maxRecDepth 100000 in
set_option maxHeartbeats 1000000 in
theorem less_any (g : Nat) (ow : ByteArray) (na : Nat) (A : Key → Option Acc) (ps : List Pst) (hl : List (ByteArray × Value)) (S : Nat → Prop) (id ac cu : ByteArray) (amt sum : Int) (x : Acc) (w : World) (h : LedAt w g ow na A ps hl S) (ha : A (ac, cu) = some x)
    (hb : -1152921504606846976 ≤ x.held) (hb' : x.held ≤ 1152921504606846976) (ham : 0 ≤ amt) (ham' : amt ≤ 1099511627776) (hsu : 0 ≤ sum) (hsu' : sum ≤ 1099511627776) :
    Calls Tryd.prog 32 #[.pointer (some ⟨g, 0, none⟩), hv id ac cu amt, .int .i64 sum] w fun r w' => r = .returned (.tuple #[]) ∧
      LedAt w' g ow na (upd A (ac, cu) ⟨x.floor, x.bal, x.held + (-sum)⟩) ps (lessH id ac cu (amt - sum) hl) S ∧ Chg S w w' := by
  have H := Lib.hid h
  have HA := Lib.hid ha
  have HLT := Lib.hid h.lt
  have hwn : IntKind.i64.wrap (-sum) = -sum := IntWalk.i64_in _ (by omega)
  have hws : IntKind.i64.wrap (amt - sum) = amt - sum := IntWalk.i64_in _ (by omega)
  clear h ha
  rw [hv]
  go_enter Tryd.func32, Tryd.ntmps32
  go_wp2_with fail
  obtain ⟨w1, hw1⟩ : ∃ w1, w1 = w.alloc (.cells #[.string id, .string ac, .string cu, .int .i64 amt] 79) := ⟨_, rfl⟩
  rw [← hw1]
  have HB1 := Lib.hid (show Below w.heap.size w w1 from hw1 ▸ below_new _ _)
  have HR1 := Lib.hid (show w1.heap[w.heap.size]? = some (.cells #[.string id, .string ac, .string cu, .int .i64 amt] 79 (0, 0)) from hw1 ▸ heap_alloc_new _ _)
  clear hw1
  obtain ⟨b, hbe⟩ : ∃ b, b = w.heap.size := ⟨_, rfl⟩
  have HSb := Lib.hid (show ¬ S b from fun hS => by have := HLT.out b hS; omega)
  have HBE := Lib.hid hbe
  rw [← hbe] at HR1 ⊢
  clear hbe
  refine (keep_any g ow na A ps hl S (ac, cu) x (-sum) _ (H.out.keepB HB1.out) HA.out (by omega) (by omega)).mono ?_
  rintro r w2 ⟨rfl, hl2, hc2⟩
  have HL2 := Lib.hid hl2
  have HC2 := Lib.hid ((Chg.of_below (S := S) HB1.out).trans hc2 (fun i hi => Or.inl hi))
  have hr2 := (hc2.block (Array.getElem?_eq_some_iff.1 HR1.out).1 HSb.out).trans HR1.out
  have c3 := cell_of_row w2 b 3 _ _ _ hr2
  have f3 := frozen_of_row w2 b 3 _ _ hr2
  simp only [List.getElem?_toArray, List.getElem?_cons_zero, List.getElem?_cons_succ] at c3
  have HR2 := Lib.hid hr2
  have hbl : b < w2.heap.size := (Array.getElem?_eq_some_iff.1 hr2).1
  clear hl2 hc2 hr2
  obtain ⟨w3, hw3⟩ : ∃ w3, w3 = w2.setCell ⟨b, 3, none⟩ (.int .i64 (amt - sum)) := ⟨_, rfl⟩
  have hg3 : w2.grownBy w3 (some b) := hw3 ▸ ⟨rfl, rfl, rfl, by simp, fun k _ hk => heap_setCell_other w2 ⟨b, 3, none⟩ k _ (fun e => hk (by simp [e]))⟩
  have HR3 := Lib.hid (show w3.heap[b]? = some (.cells #[.string id, .string ac, .string cu, .int .i64 (amt - sum)] 79 (0, 0)) by
    have h := heap_setCell_same w2 b 3 _ 79 (.int .i64 (amt - sum)) HR2.out
    rw [← hw3] at h
    simpa using h)
  have HL3 := Lib.hid (HL2.out.keep (T := fun k => k = b) (Chg.of_grown hg3 (fun k hk => (Option.some.inj hk).symm)) (fun k hk e => HSb.out (e ▸ hk)))
  have HC3 := Lib.hid (HC2.out.trans (T := fun k => k = b) (Chg.of_grown hg3 (fun k hk => (Option.some.inj hk).symm)) (fun i hi => Or.inr (by rw [hi, HBE.out]; exact Nat.le_refl _)))
  have HW3 := Lib.hid hw3
  have hc33 := cell_of_row w3 b 3 _ _ _ HR3.out
  simp only [List.getElem?_toArray, List.getElem?_cons_zero, List.getElem?_cons_succ] at hc33
  clear hg3 hw3
  obtain ⟨ma, mh, v, pl, hB, hps⟩ := HL3.out.open
  have HLB := Lib.hid (hB.keepB (w' := w3.drew) ((Below.refl _ _).drew))
  have HPS := Lib.hid hps
  have HSZ := Lib.hid (Array.getElem?_eq_some_iff.1 HR3.out).1
  clear hB hps
  by_cases hz : amt - sum = 0
  · have hz' : ((amt - sum : Int) == 0) = true := by rw [hz]; rfl
    obtain ⟨w4, hr4, hl4, hg4, hs4⟩ := HLB.out.hdel id 0
    have HF := Lib.hid (show LedAt w4 g ow na (upd A (ac, cu) ⟨x.floor, x.bal, x.held + (-sum)⟩) ps (lessH id ac cu (amt - sum) hl) S ∧ Chg S w w4 from ⟨by have := hl4.at; unfold lessH; rw [if_pos hz]; rwa [HPS.out] at this, (HC3.out.trans (T := S) (Chg.of_below (S := S) (w' := w3.drew) ((Below.refl _ _).drew)) (fun i hi => Or.inl hi)).trans (T := S) (Chg.of_grown hg4 (fun i hi => by cases hi; exact HLB.out.sh)) (fun i hi => Or.inl hi)⟩)
    have HR4 := Lib.hid hr4
    clear hr4 hl4 hg4 hs4 hz
    go_wp2_with fail
    rw [← HW3.out]
    refine region_lays 6 [23, 24, 25, 26, 27, 28] [] (asg [(23, .pointer (some ⟨g, 0, none⟩)), (24, .pointer (some ⟨g, 0, none⟩)), (25, .pointer (some ⟨g, 3, none⟩)), (26, .map (some mh)), (27, .pointer (some ⟨b, 0, none⟩)), (28, .string id)])
      (fun W => W.cell? ⟨g, 3, none⟩ = some (.map (some mh)) ∧ W.cell? ⟨b, 0, none⟩ = some (.string id)) (fun _ => w3.drew) (by kernel_rfl) (by kernel_rfl) rfl ?_ ?_ ?_ ?_
    · intro m _
      exact ⟨HLB.out.c3, cell_of_row w3 b 0 _ _ _ HR3.out⟩
    · intro i o hi hiC ho τ W hR hd
      obtain ⟨R1, R2⟩ := hR
      rcases i with _ | _ | _ | _ | _ | _ | i
      all_goals (try (exfalso; omega))
      all_goals (simp at ho; subst ho)
      all_goals (simp [dstAt, Region.binds, asg] at hd)
      all_goals (intro K hK; simp only [left1, Option.getD_some, Option.getD_none, putAll, asg, ↓reduceIte, Nat.reduceEqDiff, Act.put, List.setIfInBounds_toArray, List.set_cons_succ, List.set_cons_zero] at hK ⊢; (try simp only [hd] at hK ⊢); go_simp; exact hK)
    · intro k o hk
      simp at hk
    · (simp only [List.drop_succ_cons, List.drop_zero, List.drop_nil, List.length_cons, List.length_nil, Nat.zero_add, Nat.reduceAdd, putAll, asg, ↓reduceIte, Nat.reduceEqDiff, Act.put, List.setIfInBounds_toArray, List.set_cons_succ, List.set_cons_zero]; first | refine wpList_nil ?_ | skip)
      have hr4 := HR4.out
      go_wp2
      clear hr4
      go_returns
      exact ⟨rfl, HF.out.1, HF.out.2⟩
  · have hz' : ((amt - sum : Int) == 0) = false := by simpa using hz
    obtain ⟨w4, hr4, hl4, hg4, hs4⟩ := HLB.out.hput id (hv id ac cu (amt - sum))
    have HF := Lib.hid (show LedAt w4 g ow na (upd A (ac, cu) ⟨x.floor, x.bal, x.held + (-sum)⟩) ps (lessH id ac cu (amt - sum) hl) S ∧ Chg S w w4 from ⟨by have := hl4.at; unfold lessH; rw [if_neg hz]; rwa [HPS.out] at this, (HC3.out.trans (T := S) (Chg.of_below (S := S) (w' := w3.drew) ((Below.refl _ _).drew)) (fun i hi => Or.inl hi)).trans (T := S) (Chg.of_grown hg4 (fun i hi => by cases hi; exact HLB.out.sh)) (fun i hi => Or.inl hi)⟩)
    have HR4 := Lib.hid hr4
    clear hr4 hl4 hg4 hs4 hz
    go_wp2_with fail
    rw [← HW3.out]
    refine region_lays 7 [29, 30, 31, 32, 33, 34, 35] [] (asg [(29, .pointer (some ⟨g, 0, none⟩)), (30, .pointer (some ⟨g, 0, none⟩)), (31, .pointer (some ⟨g, 3, none⟩)), (32, .map (some mh)), (33, .pointer (some ⟨b, 0, none⟩)), (34, .string id), (35, .agg #[.string id, .string ac, .string cu, .int .i64 (amt - sum)])])
      (fun W => W.cell? ⟨g, 3, none⟩ = some (.map (some mh)) ∧ W.cell? ⟨b, 0, none⟩ = some (.string id) ∧ W.heap[b]? = some (.cells #[.string id, .string ac, .string cu, .int .i64 (amt - sum)] 79 (0, 0))) (fun _ => w3.drew) (by kernel_rfl) (by kernel_rfl) rfl ?_ ?_ ?_ ?_
    · intro m _
      exact ⟨HLB.out.c3, cell_of_row w3 b 0 _ _ _ HR3.out, HR3.out⟩
    · intro i o hi hiC ho τ W hR hd
      obtain ⟨R1, R2, R3⟩ := hR
      rcases i with _ | _ | _ | _ | _ | _ | _ | i
      all_goals (try (exfalso; omega))
      all_goals (simp at ho; subst ho)
      all_goals (simp [dstAt, Region.binds, asg] at hd)
      · (intro K hK; simp only [left1, Option.getD_some, Option.getD_none, putAll, asg, ↓reduceIte, Nat.reduceEqDiff, Act.put, List.setIfInBounds_toArray, List.set_cons_succ, List.set_cons_zero] at hK ⊢; (try simp only [hd] at hK ⊢); go_simp; exact hK)
      · (intro K hK; simp only [left1, Option.getD_some, Option.getD_none, putAll, asg, ↓reduceIte, Nat.reduceEqDiff, Act.put, List.setIfInBounds_toArray, List.set_cons_succ, List.set_cons_zero] at hK ⊢; (try simp only [hd] at hK ⊢); go_simp; exact hK)
      · (intro K hK; simp only [left1, Option.getD_some, Option.getD_none, putAll, asg, ↓reduceIte, Nat.reduceEqDiff, Act.put, List.setIfInBounds_toArray, List.set_cons_succ, List.set_cons_zero] at hK ⊢; (try simp only [hd] at hK ⊢); go_simp; exact hK)
      · (intro K hK; simp only [left1, Option.getD_some, Option.getD_none, putAll, asg, ↓reduceIte, Nat.reduceEqDiff, Act.put, List.setIfInBounds_toArray, List.set_cons_succ, List.set_cons_zero] at hK ⊢; (try simp only [hd] at hK ⊢); go_simp; exact hK)
      · (intro K hK; simp only [left1, Option.getD_some, Option.getD_none, putAll, asg, ↓reduceIte, Nat.reduceEqDiff, Act.put, List.setIfInBounds_toArray, List.set_cons_succ, List.set_cons_zero] at hK ⊢; (try simp only [hd] at hK ⊢); go_simp; exact hK)
      · (intro K hK; simp only [left1, Option.getD_some, Option.getD_none, putAll, asg, ↓reduceIte, Nat.reduceEqDiff, Act.put, List.setIfInBounds_toArray, List.set_cons_succ, List.set_cons_zero] at hK ⊢; (try simp only [hd] at hK ⊢); go_simp; exact hK)
      · (intro K hK; simp only [left1, Option.getD_some, Option.getD_none, putAll, asg, ↓reduceIte, Nat.reduceEqDiff, Act.put, List.setIfInBounds_toArray, List.set_cons_succ, List.set_cons_zero] at hK ⊢; (try simp only [hd] at hK ⊢); refine wp_load_row _ _ rfl _ rfl 79 _ (0, 0) _ R3 Tryd.underlying79 rfl (by kernel_rfl) ?_; exact hK)
    · intro k o hk
      simp at hk
    · (simp only [List.drop_succ_cons, List.drop_zero, List.drop_nil, List.length_cons, List.length_nil, Nat.zero_add, Nat.reduceAdd, putAll, asg, ↓reduceIte, Nat.reduceEqDiff, Act.put, List.setIfInBounds_toArray, List.set_cons_succ, List.set_cons_zero]; first | refine wpList_nil ?_ | skip)
      have hr4 := HR4.out
      simp only [hv] at hr4
      go_wp2
      clear hr4
      go_returns
      exact ⟨rfl, HF.out.1, HF.out.2⟩
end Go.Proofs.YtpkiiegadckloaaDoor
