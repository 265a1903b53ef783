/- Something is taken out of a hold. -/
import Derived.Test.YtpkiiegadckloaaDoorHld
import Derived.Test.YtpkiiegadckloaaDoorGen
set_option linter.unusedSimpArgs false
set_option linter.unusedVariables false
namespace Go.Proofs.YtpkiiegadckloaaDoor
open Go.RowKit
/-- An account read, whether it is there or not. -/
theorem LedB.looks {w : World} {g : Nat} {ow : ByteArray} {ma mh : Nat} {v : Value} {pl : List (Pst × Value)} {na : Nat} {A : Key → Option Acc} {hl : List (ByteArray × Value)} {S : Nat → Prop} (h : LedB w g ow ma mh v pl na A hl S) (k : Key) :
    (Instr.lookup 67 (.map (some ma)) (ek k) true).run Tryd.prog w = .ok (.tuple #[av ((A k).getD ⟨0, 0, 0⟩), .bool (A k).isSome]) w := by
  obtain ⟨la, h, h3, h4⟩ := h
  have := run_look (c := true) klKey h.acc (T := 67) Tryd.underlying67 (zero74 w) k
  rw [look_fnd, isin_fnd, h4] at this
  cases ha : A k with
  | none => rw [ha] at this; exact this
  | some a => rw [ha] at this; exact this

/-- What of two changes has been laid. -/
def clOK (p1 p2 : Key × Int) : Bool → Bool → List (Key × Int) → Prop
  | false, false, cl => cl = []
  | true, false, cl => cl = [p1]
  | false, true, cl => cl = [p2]
  | true, true, cl => cl = [p1, p2] ∨ cl = [p2, p1]
theorem clOK_one {p1 p2 : Key × Int} (hne : p1.1 ≠ p2.1) {b : Bool} {cl : List (Key × Int)} (h : clOK p1 p2 false b cl) : ∃ cl', clOK p1 p2 true b cl' ∧ put p1.1 (.int .i64 p1.2) (clV cl) = clV cl' := by
  cases b
  · obtain rfl : cl = [] := h
    exact ⟨[p1], rfl, rfl⟩
  · obtain rfl : cl = [p2] := h
    refine ⟨[p2, p1], Or.inr rfl, ?_⟩
    simp only [clV, List.map_cons, List.map_nil, put, if_neg hne]
theorem clOK_two {p1 p2 : Key × Int} (hne : p1.1 ≠ p2.1) {b : Bool} {cl : List (Key × Int)} (h : clOK p1 p2 b false cl) : ∃ cl', clOK p1 p2 b true cl' ∧ put p2.1 (.int .i64 p2.2) (clV cl) = clV cl' := by
  cases b
  · obtain rfl : cl = [] := h
    exact ⟨[p2], rfl, rfl⟩
  · obtain rfl : cl = [p1] := h
    refine ⟨[p1, p2], Or.inl rfl, ?_⟩
    simp only [clV, List.map_cons, List.map_nil, put, if_neg hne.symm]
/-- The state behind some operations of the line that books a take. -/
def RT (p1 p2 : Key × Int) (wy : World) (L : Nat → Bool) (W : World) : Prop := Below wy.heap.size wy W ∧ (L 4 = false → W.heap.size = wy.heap.size) ∧ (L 4 = true → ∃ cl, MapAt ek W wy.heap.size (clV cl) ∧ clOK p1 p2 (L 12) (L 18) cl) ∧ (L 4 = false → L 12 = false ∧ L 18 = false)
attribute [local go_sem] made_map
attribute [local irreducible] Oper.wp

set_option maxRecDepth 100000 in
set_option maxHeartbeats 8000000 in
theorem Take_any (g k base : Nat) (id : ByteArray) (sum : Int) (w : World) (hk : k ≤ 40) (hbs : base ≤ w.heap.size) (hu : U id) (hs0 : 0 ≤ sum) (hs1 : sum ≤ 65535) (h : Cst w g k base) :
    Calls Tryd.prog 14 #[.pointer (some ⟨g, 0, none⟩), .string id, .string sBb, .int .i64 sum] w fun r w' => Acted w g k base r w' := by
  have hC := h
  obtain ⟨A, ps, hl, S, h1, h2, h3, h4, h5, h6, h7, h8⟩ := h
  obtain ⟨ma, mh, v, pl, hB, hps⟩ := h1.open
  have hlk := hB.hlook id true
  have c3 := hB.c3
  have HC := Lib.hid hC
  have H1 := Lib.hid h1
  have HN := Lib.hid h1.hnodup
  have H2 := Lib.hid h2
  have H3 := Lib.hid h3
  have H4 := Lib.hid h4
  have H5 := Lib.hid (And.intro h5 h6)
  have H7 := Lib.hid h7
  have H8 := Lib.hid h8
  have HU := Lib.hid hu
  have HLB := Lib.hid hB
  have HPS := Lib.hid hps
  have hgl : g < w.heap.size := hB.lt _ hB.sg
  clear hC h1 h2 h3 h5 h6 h7 h8 hu hB hps
  cases hf : fnd hl id with
  | none =>
    rw [hf] at hlk
    simp only [Option.getD_none, Option.isSome_none, if_true] at hlk
    clear hf h4
    obtain ⟨⟨yf, yb, yh⟩, hy⟩ : ∃ y, (A (sBb, ⟨#[]⟩)).getD ⟨0, 0, 0⟩ = y := ⟨_, rfl⟩
    obtain ⟨yt, hyt⟩ : ∃ y, (A (sBb, ⟨#[]⟩)).isSome = y := ⟨_, rfl⟩
    have HY := Lib.hid hy
    have HYT := Lib.hid hyt
    clear hy hyt
    go_enter Tryd.func14, Tryd.ntmps14
    go_wp2_with fail
    obtain ⟨w1, hw1⟩ : ∃ w1, w1 = w.alloc (.cells #[.string ⟨#[]⟩, .string ⟨#[]⟩, .string ⟨#[]⟩, .int .i64 0] 79) := ⟨_, rfl⟩
    rw [← hw1]
    have HB1 := Lib.hid (show Below w.heap.size w w1 from hw1 ▸ below_new _ _)
    have HR1 := Lib.hid (show w1.heap[w.heap.size]? = some (.cells #[.string ⟨#[]⟩, .string ⟨#[]⟩, .string ⟨#[]⟩, .int .i64 0] 79 (0, 0)) from hw1 ▸ heap_alloc_new _ _)
    have HS1 := Lib.hid (show w1.heap.size = w.heap.size + 1 by rw [hw1]; simp)
    clear hw1
    have KEY := Lib.hid (show ∀ W, Below w1.heap.size w1 W → W.cell? ⟨g, 1, none⟩ = some (.map (some ma)) ∧ W.cell? ⟨w.heap.size, 2, none⟩ = some (.string ⟨#[]⟩) ∧ (Instr.lookup 67 (.map (some ma)) (.agg #[.string sBb, .string ⟨#[]⟩]) true).run Tryd.prog W = .ok (.tuple #[.agg #[.int .i64 yf, .int .i64 yb, .int .i64 yh], .bool yt]) W by
      intro W hW
      have h1 := (HLB.out.keepB HB1.out).keepB hW
      refine ⟨h1.c1, cell_of_row W _ 2 _ _ _ ((hW.block w.heap.size (by have := HS1.out; omega)).trans HR1.out), ?_⟩
      have h2 := h1.looks (sBb, ⟨#[]⟩)
      rw [HY.out, HYT.out] at h2
      exact h2)
    refine region_lays 15 [24, 25, 26, 27, 28, 29, 30, 31, 32, 23, 33, 34, 11, 12] [12, 13] (asg [(24, .pointer (some ⟨g, 0, none⟩)), (25, .pointer (some ⟨g, 0, none⟩)), (26, .pointer (some ⟨g, 1, none⟩)), (27, .map (some ma)), (28, .string sBb), (29, .pointer (some ⟨w.heap.size, 2, none⟩)), (30, .string ⟨#[]⟩), (31, .agg #[.string sBb, .string ⟨#[]⟩]), (32, .tuple #[.agg #[.int .i64 yf, .int .i64 yb, .int .i64 yh], .bool yt]), (23, .tuple #[.agg #[.int .i64 yf, .int .i64 yb, .int .i64 yh], .bool yt]), (33, .agg #[.int .i64 yf, .int .i64 yb, .int .i64 yh]), (34, .bool yt), (11, .pointer (some ⟨w1.heap.size, 0, none⟩)), (12, .bool yt)])
      (fun W => W.cell? ⟨g, 1, none⟩ = some (.map (some ma)) ∧ W.cell? ⟨w.heap.size, 2, none⟩ = some (.string ⟨#[]⟩) ∧ (Instr.lookup 67 (.map (some ma)) (.agg #[.string sBb, .string ⟨#[]⟩]) true).run Tryd.prog W = .ok (.tuple #[.agg #[.int .i64 yf, .int .i64 yb, .int .i64 yh], .bool yt]) W)
      (fun m => if m = 0 then w1.drew else if m = 1 then (w1.alloc (.cells #[.int .i64 0, .int .i64 0, .int .i64 0] 74)).drew else (w1.alloc (.cells #[.int .i64 yf, .int .i64 yb, .int .i64 yh] 74)).drew) (by kernel_rfl) (by kernel_rfl) rfl ?_ ?_ ?_ ?_
    · intro m _
      by_cases hm0 : m = 0
      · rw [if_pos hm0]; exact KEY.out _ ((Below.refl _ _).drew)
      · rw [if_neg hm0]
        by_cases hm1 : m = 1
        · rw [if_pos hm1]; exact KEY.out _ ((below_new _ _).drew)
        · rw [if_neg hm1]; exact KEY.out _ ((below_new _ _).drew)
    · intro i o hi hiC ho τ W hR hd
      obtain ⟨R1, R2, R3⟩ := hR
      rcases i with _ | _ | _ | _ | _ | _ | _ | _ | _ | _ | _ | _ | _ | _ | _ | i
      all_goals (try (exfalso; omega))
      all_goals (try (exfalso; revert hiC; decide))
      all_goals (simp at ho; subst ho)
      all_goals (simp [dstAt, Region.binds, asg] at hd)
      all_goals (intro K hK; simp only [left1, Option.getD_some, Option.getD_none, putAll, asg, ↓reduceIte, Nat.reduceEqDiff, Act.put, List.setIfInBounds_toArray, List.set_cons_succ, List.set_cons_zero] at hK ⊢; (try simp only [hd] at hK ⊢); go_simp; exact hK)
    · intro k o hk ho τ hR hd
      rcases k with _ | _ | k
      all_goals (first | (exfalso; simp at hk; done) | (exfalso; simp at hk; omega) | skip)
      all_goals (simp at ho; subst ho)
      all_goals (simp [dstAt, Region.binds, asg] at hd)
      · rw [if_pos rfl, if_neg (by decide), if_pos rfl]
        (intro K hK; simp only [left1, Option.getD_some, Option.getD_none, putAll, asg, ↓reduceIte, Nat.reduceEqDiff, Act.put, List.setIfInBounds_toArray, List.set_cons_succ, List.set_cons_zero] at hK ⊢; (try simp only [hd] at hK ⊢); go_simp; exact hK)
      · rw [if_neg (by decide), if_pos rfl, if_neg (by decide), if_neg (by decide)]
        (intro K hK; simp only [left1, Option.getD_some, Option.getD_none, putAll, asg, ↓reduceIte, Nat.reduceEqDiff, Act.put, List.setIfInBounds_toArray, List.set_cons_succ, List.set_cons_zero] at hK ⊢; (try simp only [hd] at hK ⊢); go_simp; exact hK)
    · (simp only [List.drop_succ_cons, List.drop_zero, List.drop_nil, List.length_cons, List.length_nil, Nat.zero_add, Nat.reduceAdd, putAll, asg, ↓reduceIte, Nat.reduceEqDiff, Act.put, List.setIfInBounds_toArray, List.set_cons_succ, List.set_cons_zero]; first | refine wpList_nil ?_ | skip)
      obtain ⟨w2, hw2⟩ : ∃ w2, w2 = (w1.alloc (.cells #[.int .i64 yf, .int .i64 yb, .int .i64 yh] 74)).drew := ⟨_, rfl⟩
      rw [← hw2]
      have HB2 := Lib.hid (bel2 HB1.out (show Below w1.heap.size w1 w2 from hw2 ▸ (below_new _ _).drew))
      clear hw2
      go_wp2
      all_goals go_returns
      all_goals exact acted (HC.out.keepB HB2.out).more (HB2.out.mono hbs)
  | some u =>
    obtain ⟨-, n, rfl, hn1, hn2⟩ := h4 id u hf
    rw [hf] at hlk
    simp only [Option.getD_some, Option.isSome_some, if_true] at hlk
    rw [hv] at hlk
    clear hf h4
    obtain ⟨⟨bf, bb, bh⟩, hy, y1, y2, y3, y4, y5, y6⟩ := H3.out
    have HY := Lib.hid hy
    simp only at y1 y2 y3 y4 y5 y6
    clear hy
    go_enter Tryd.func14, Tryd.ntmps14
    go_wp2_with fail
    obtain ⟨w1, hw1⟩ : ∃ w1, w1 = w.alloc (.cells #[.string id, .string sAa, .string sEur, .int .i64 n] 79) := ⟨_, rfl⟩
    rw [← hw1]
    have HB1 := Lib.hid (show Below w.heap.size w w1 from hw1 ▸ below_new _ _)
    have HR1 := Lib.hid (show w1.heap[w.heap.size]? = some (.cells #[.string id, .string sAa, .string sEur, .int .i64 n] 79 (0, 0)) from hw1 ▸ heap_alloc_new _ _)
    have HS1 := Lib.hid (show w1.heap.size = w.heap.size + 1 by rw [hw1]; simp)
    clear hw1
    have KEY := Lib.hid (show ∀ W, Below w1.heap.size w1 W → W.cell? ⟨g, 1, none⟩ = some (.map (some ma)) ∧ W.cell? ⟨w.heap.size, 2, none⟩ = some (.string sEur) ∧ (Instr.lookup 67 (.map (some ma)) (.agg #[.string sBb, .string sEur]) true).run Tryd.prog W = .ok (.tuple #[.agg #[.int .i64 bf, .int .i64 bb, .int .i64 bh], .bool true]) W by
      intro W hW
      have h1 := (HLB.out.keepB HB1.out).keepB hW
      exact ⟨h1.c1, cell_of_row W _ 2 _ _ _ ((hW.block w.heap.size (by have := HS1.out; omega)).trans HR1.out), h1.look (sBb, sEur) HY.out true⟩)
    refine region_lays 15 [24, 25, 26, 27, 28, 29, 30, 31, 32, 23, 33, 34, 11, 12] [12, 13] (asg [(24, .pointer (some ⟨g, 0, none⟩)), (25, .pointer (some ⟨g, 0, none⟩)), (26, .pointer (some ⟨g, 1, none⟩)), (27, .map (some ma)), (28, .string sBb), (29, .pointer (some ⟨w.heap.size, 2, none⟩)), (30, .string sEur), (31, .agg #[.string sBb, .string sEur]), (32, .tuple #[.agg #[.int .i64 bf, .int .i64 bb, .int .i64 bh], .bool true]), (23, .tuple #[.agg #[.int .i64 bf, .int .i64 bb, .int .i64 bh], .bool true]), (33, .agg #[.int .i64 bf, .int .i64 bb, .int .i64 bh]), (34, .bool true), (11, .pointer (some ⟨w1.heap.size, 0, none⟩)), (12, .bool true)])
      (fun W => W.cell? ⟨g, 1, none⟩ = some (.map (some ma)) ∧ W.cell? ⟨w.heap.size, 2, none⟩ = some (.string sEur) ∧ (Instr.lookup 67 (.map (some ma)) (.agg #[.string sBb, .string sEur]) true).run Tryd.prog W = .ok (.tuple #[.agg #[.int .i64 bf, .int .i64 bb, .int .i64 bh], .bool true]) W)
      (fun m => if m = 0 then w1.drew else if m = 1 then (w1.alloc (.cells #[.int .i64 0, .int .i64 0, .int .i64 0] 74)).drew else (w1.alloc (.cells #[.int .i64 bf, .int .i64 bb, .int .i64 bh] 74)).drew) (by kernel_rfl) (by kernel_rfl) rfl ?_ ?_ ?_ ?_
    · intro m _
      by_cases hm0 : m = 0
      · rw [if_pos hm0]; exact KEY.out _ ((Below.refl _ _).drew)
      · rw [if_neg hm0]
        by_cases hm1 : m = 1
        · rw [if_pos hm1]; exact KEY.out _ ((below_new _ _).drew)
        · rw [if_neg hm1]; exact KEY.out _ ((below_new _ _).drew)
    · intro i o hi hiC ho τ W hR hd
      obtain ⟨R1, R2, R3⟩ := hR
      rcases i with _ | _ | _ | _ | _ | _ | _ | _ | _ | _ | _ | _ | _ | _ | _ | i
      all_goals (try (exfalso; omega))
      all_goals (try (exfalso; revert hiC; decide))
      all_goals (simp at ho; subst ho)
      all_goals (simp [dstAt, Region.binds, asg] at hd)
      all_goals (intro K hK; simp only [left1, Option.getD_some, Option.getD_none, putAll, asg, ↓reduceIte, Nat.reduceEqDiff, Act.put, List.setIfInBounds_toArray, List.set_cons_succ, List.set_cons_zero] at hK ⊢; (try simp only [hd] at hK ⊢); go_simp; exact hK)
    · intro k o hk ho τ hR hd
      rcases k with _ | _ | k
      all_goals (first | (exfalso; simp at hk; done) | (exfalso; simp at hk; omega) | skip)
      all_goals (simp at ho; subst ho)
      all_goals (simp [dstAt, Region.binds, asg] at hd)
      · rw [if_pos rfl, if_neg (by decide), if_pos rfl]
        (intro K hK; simp only [left1, Option.getD_some, Option.getD_none, putAll, asg, ↓reduceIte, Nat.reduceEqDiff, Act.put, List.setIfInBounds_toArray, List.set_cons_succ, List.set_cons_zero] at hK ⊢; (try simp only [hd] at hK ⊢); go_simp; exact hK)
      · rw [if_neg (by decide), if_pos rfl, if_neg (by decide), if_neg (by decide)]
        (intro K hK; simp only [left1, Option.getD_some, Option.getD_none, putAll, asg, ↓reduceIte, Nat.reduceEqDiff, Act.put, List.setIfInBounds_toArray, List.set_cons_succ, List.set_cons_zero] at hK ⊢; (try simp only [hd] at hK ⊢); go_simp; exact hK)
    · (simp only [List.drop_succ_cons, List.drop_zero, List.drop_nil, List.length_cons, List.length_nil, Nat.zero_add, Nat.reduceAdd, putAll, asg, ↓reduceIte, Nat.reduceEqDiff, Act.put, List.setIfInBounds_toArray, List.set_cons_succ, List.set_cons_zero]; first | refine wpList_nil ?_ | skip)
      obtain ⟨w2, hw2⟩ : ∃ w2, w2 = (w1.alloc (.cells #[.int .i64 bf, .int .i64 bb, .int .i64 bh] 74)).drew := ⟨_, rfl⟩
      rw [← hw2]
      have hb2 : Below w1.heap.size w1 w2 := hw2 ▸ (below_new _ _).drew
      have HB2 := Lib.hid (bel2 HB1.out hb2)
      have hrh := (hb2.block _ (Array.getElem?_eq_some_iff.1 HR1.out).1).trans HR1.out
      have hra : w2.heap[w1.heap.size]? = some (.cells #[.int .i64 bf, .int .i64 bb, .int .i64 bh] 74 (0, 0)) := hw2 ▸ heap_alloc_new _ _
      have HRH := Lib.hid hrh
      have HL2 := Lib.hid ((HLB.out.keepB HB1.out).keepB hb2)
      have q1 := cell_of_row w2 _ 1 _ _ _ hrh
      have q2 := cell_of_row w2 _ 2 _ _ _ hrh
      have q3 := cell_of_row w2 _ 3 _ _ _ hrh
      have q4 := cell_of_row w2 _ 1 _ _ _ hra
      simp only [List.getElem?_toArray, List.getElem?_cons_zero, List.getElem?_cons_succ] at q1 q2 q3 q4
      obtain ⟨A0, cc, hvv⟩ := HL2.out.form
      have q5 := HL2.out.c2
      rw [hvv] at q5
      have hpl : (pl.length : Int) < 4096 := by have h6 := H5.out.2; rw [← HPS.out] at h6; simp at h6; omega
      have hgl2 : g < w2.heap.size := HL2.out.lt _ HL2.out.sg
      have hhl : w.heap.size < w2.heap.size := (Array.getElem?_eq_some_iff.1 hrh).1
      have hal : w1.heap.size < w2.heap.size := (Array.getElem?_eq_some_iff.1 hra).1
      clear hw2 hb2 hrh hra hvv c3 hlk
      by_cases hs2 : sum < 1
      · have d1 : decide (sum < 1) = true := decide_eq_true hs2
        clear hs2
        go_wp2_with fail
        go_returns
        exact acted (HC.out.keepB HB2.out).more (HB2.out.mono hbs)
      · have d1 : decide (sum < 1) = false := decide_eq_false hs2
        by_cases hs3 : n < sum
        · have d2 : decide (n < sum) = true := decide_eq_true hs3
          clear hs3 hs2
          go_wp2_with fail
          go_returns
          exact acted (HC.out.keepB HB2.out).more (HB2.out.mono hbs)
        · have d2 : decide (n < sum) = false := decide_eq_false hs3
          have d3 : decide (1099511627776 < bb + sum) = false := decide_eq_false (by omega)
          have hwb : IntKind.i64.wrap (bb + sum) = bb + sum := IntWalk.i64_in _ (by omega)
          have hwn : IntKind.i64.wrap (-sum) = -sum := IntWalk.i64_in _ (by omega)
          go_wp2_with (first | (refine wpList_load_row rfl 79 (.tmp 9) rfl w.heap.size rfl 79 _ (0, 0) _ HRH.out Tryd.underlying79 rfl (by kernel_rfl) ?_))
          obtain ⟨⟨af, ab, ah⟩, hx, x1, x2, x3, x4, x5, x6⟩ := H2.out
          simp only at x1 x2 x3 x4 x5 x6
          have hat := HL2.out.at
          rw [HPS.out] at hat
          have HX := Lib.hid hx
          refine (less_any g sG 2 A ps hl S id sAa sEur n sum ⟨af, ab, ah⟩ _ hat hx (by simp only; omega) (by simp only; omega) (by omega) (by omega) (by omega) (by omega)).mono ?_
          clear hat hx
          rintro r w3 ⟨rfl, hl3, hc3⟩
          have HL3 := Lib.hid hl3
          have HC3 := Lib.hid hc3
          have HSL := Lib.hid H1.out.lt
          have HRH3 := Lib.hid ((hc3.block hhl (fun hS => by have := HSL.out _ hS; omega)).trans HRH.out)
          have hh3 : w.heap.size < w3.heap.size := Nat.lt_of_lt_of_le hhl hc3.size
          have p1 := cell_of_row w3 _ 1 _ _ _ HRH3.out
          have p2 := cell_of_row w3 _ 2 _ _ _ HRH3.out
          simp only [List.getElem?_toArray, List.getElem?_cons_zero, List.getElem?_cons_succ] at p1 p2
          clear hl3 hc3 q1 q2 q3 q4 q5 d1 d2 d3
          go_wp2_with fail
          obtain ⟨wy, hwy⟩ : ∃ wy, wy = w3.alloc (.cells #[.string sAa, .string sEur, .int .i64 (-sum), .string sBb, .string sEur, .int .i64 sum] 57) := ⟨_, rfl⟩
          rw [← hwy]
          have hby : Below w3.heap.size w3 wy := hwy ▸ below_new _ _
          have HRY := Lib.hid (show wy.heap[w3.heap.size]? = some (.cells #[.string sAa, .string sEur, .int .i64 (-sum), .string sBb, .string sEur, .int .i64 sum] 57 (0, 0)) from hwy ▸ heap_alloc_new _ _)
          have HRHy := Lib.hid ((hby.block _ hh3).trans HRH3.out)
          have HLY := Lib.hid (HL3.out.keepB hby)
          have HBY := Lib.hid hby
          have hzy : w3.heap.size < wy.heap.size := (Array.getElem?_eq_some_iff.1 HRY.out).1
          have hcat : ¬ 9223372036854775807 < 5 + id.size := by have := HU.out.good.2.2; omega
          clear hwy hby p1 p2
          have hne : ((sAa, sEur) : Key) ≠ (sBb, sEur) := fun e => absurd (Prod.mk.inj e).1 (by decide)
          have HNE := Lib.hid hne
          clear hne
          refine region_gen 20 [86, 87, 88, 89, 90, 91, 92, 93, 94, 95, 96, 97, 98, 99, 100, 101, 102, 103] [4, 12, 18]
            (fun i v _ => v = asg [(0, .pointer (some ⟨g, 0, none⟩)), (1, .string id), (2, .string (sTake ++ id)), (3, .slice (some ⟨w3.heap.size, 0, none⟩) 2 2), (4, .map (some wy.heap.size)), (5, .pointer (some ⟨w.heap.size, 1, none⟩)), (6, .string sAa), (7, .pointer (some ⟨w.heap.size, 2, none⟩)), (8, .string sEur), (9, .agg #[.string sAa, .string sEur]), (10, .int .i64 sum), (11, .int .i64 (-sum)),
              (13, .string sBb), (14, .pointer (some ⟨w.heap.size, 2, none⟩)), (15, .string sEur), (16, .agg #[.string sBb, .string sEur]), (17, .int .i64 sum), (19, .map (some wy.heap.size))] i)
            (RT ((sAa, sEur), -sum) ((sBb, sEur), sum) wy) (by kernel_rfl) (by kernel_rfl) ?_ ?_ ?_ ?_ ?_
          · exact ⟨(Below.refl _ _).drew, fun _ => rfl, (fun h => by cases h), fun _ => ⟨rfl, rfl⟩⟩
          · intro i hi hiC L W hR
            have e4 : also L i 4 = L 4 := also_ne _ (fun e => hiC (by rw [← e]; decide))
            have e12 : also L i 12 = L 12 := also_ne _ (fun e => hiC (by rw [← e]; decide))
            have e18 : also L i 18 = L 18 := also_ne _ (fun e => hiC (by rw [← e]; decide))
            unfold RT
            rw [e4, e12, e18]
            exact hR
          · intro i o hi hiC ho τ W L hR hdl hd K hK
            have hrow := (hR.1.block w.heap.size (Nat.lt_trans hh3 hzy)).trans HRHy.out
            have r1 := cell_of_row W _ 1 _ _ _ hrow
            have r2 := cell_of_row W _ 2 _ _ _ hrow
            simp only [List.getElem?_toArray, List.getElem?_cons_zero, List.getElem?_cons_succ] at r1 r2
            clear hR hdl hrow
            rcases i with _ | _ | _ | _ | _ | _ | _ | _ | _ | _ | _ | _ | _ | _ | _ | _ | _ | _ | _ | _ | i
            all_goals (try (exfalso; omega))
            all_goals (try (exfalso; revert hiC; decide))
            all_goals (simp at ho; subst ho)
            all_goals (simp [dstAt, Region.binds, asg] at hd)
            all_goals (have hK := hK _ rfl; simp only [asg, ↓reduceIte, Nat.reduceEqDiff, putAll, Act.put, List.setIfInBounds_toArray, List.set_cons_succ, List.set_cons_zero] at hK ⊢; (try simp only [hd] at hK ⊢); go_simp; exact hK)
          · intro i o hi hiC ho τ W L hR hLi hdl hd K hK
            rcases i with _ | _ | _ | _ | _ | _ | _ | _ | _ | _ | _ | _ | _ | _ | _ | _ | _ | _ | _ | _ | i
            all_goals (try (exfalso; omega))
            all_goals (try (exfalso; revert hiC; decide))
            all_goals (simp at ho; subst ho)
            all_goals (simp [dstAt, Region.binds, asg] at hd)
            · have hsz : W.heap.size = wy.heap.size := hR.2.1 hLi
              obtain ⟨l12, l18⟩ := hR.2.2.2 hLi
              have hmm := MapAt.made (enc := ek) W
              rw [hsz] at hmm
              have hK := hK (.map (some wy.heap.size)) (W.alloc (.map #[] 0)) ⟨hR.1.trans ((below_new _ _).mono hR.1.size), (fun h => by cases h), (fun _ => ⟨[], hmm, by
                show clOK _ _ (also L 4 12) (also L 4 18) []
                rw [also_ne _ (by decide), also_ne _ (by decide), l12, l18]
                rfl⟩), (fun h => by cases h)⟩ (fun _ _ _ _ h => h) rfl
              clear hmm hR hdl
              simp only [putAll, Act.put, List.setIfInBounds_toArray, List.set_cons_succ, List.set_cons_zero] at hK ⊢
              go_simp
              exact hK
            · simp [Region.binds] at hdl
              have l4 : L 4 = true := hdl.1
              obtain ⟨cl, hm, hc⟩ := hR.2.2.1 l4
              rw [hLi] at hc
              obtain ⟨cl', hc', hp⟩ := clOK_one HNE.out hc
              obtain ⟨W', hr, hm', hg, hs⟩ := run_put klKey hm (T := 84) (E := 2) Tryd.underlying84 (sAa, sEur) (.int .i64 (-sum))
              simp only at hp
              rw [hp] at hm'
              have hK := hK undef W' ⟨hR.1.trans ⟨hg.os, hg.tape, hg.output, hg.size, fun j hj => hg.block j (Nat.lt_of_lt_of_le hj hR.1.size) (fun e => by have := Option.some.inj e; omega)⟩, (fun h => by rw [also_ne _ (by decide), l4] at h; cases h), (fun _ => ⟨cl', hm', by
                rw [also_self, also_ne _ (by decide)]
                exact hc'⟩), (fun h => by rw [also_ne _ (by decide), l4] at h; cases h)⟩ (fun _ _ _ _ h => h) rfl
              clear hm hm' hg hs hR hdl hc hc' hp
              simp only [ek] at hr
              simp only [putAll, Act.put, List.setIfInBounds_toArray, List.set_cons_succ, List.set_cons_zero] at hK ⊢
              (try simp only [hd] at hK ⊢)
              go_simp
              exact hK
            · simp [Region.binds] at hdl
              have l4 : L 4 = true := hdl.1
              obtain ⟨cl, hm, hc⟩ := hR.2.2.1 l4
              rw [hLi] at hc
              obtain ⟨cl', hc', hp⟩ := clOK_two HNE.out hc
              obtain ⟨W', hr, hm', hg, hs⟩ := run_put klKey hm (T := 84) (E := 2) Tryd.underlying84 (sBb, sEur) (.int .i64 sum)
              simp only at hp
              rw [hp] at hm'
              have hK := hK undef W' ⟨hR.1.trans ⟨hg.os, hg.tape, hg.output, hg.size, fun j hj => hg.block j (Nat.lt_of_lt_of_le hj hR.1.size) (fun e => by have := Option.some.inj e; omega)⟩, (fun h => by rw [also_ne _ (by decide), l4] at h; cases h), (fun _ => ⟨cl', hm', by
                rw [also_self, also_ne _ (by decide)]
                exact hc'⟩), (fun h => by rw [also_ne _ (by decide), l4] at h; cases h)⟩ (fun _ _ _ _ h => h) rfl
              clear hm hm' hg hs hR hdl hc hc' hp
              simp only [ek] at hr
              simp only [putAll, Act.put, List.setIfInBounds_toArray, List.set_cons_succ, List.set_cons_zero] at hK ⊢
              (try simp only [hd] at hK ⊢)
              go_simp
              exact hK
          · intro τ W L hL hR hd
            obtain ⟨cl, hm, hc⟩ := hR.2.2.1 (hL 4 (by decide))
            rw [hL 12 (by decide), hL 18 (by decide)] at hc
            have t0 := hd 0 (by decide) 86 rfl
            have t2 := hd 2 (by decide) 88 rfl
            have t3 := hd 3 (by decide) 89 rfl
            have t19 := hd 19 (by decide) 103 rfl
            simp only [asg, ↓reduceIte, Nat.reduceEqDiff] at t0 t2 t3 t19
            (simp only [List.drop_succ_cons, List.drop_zero, List.drop_nil, List.length_cons, List.length_nil, Nat.zero_add, Nat.reduceAdd, putAll, asg, ↓reduceIte, Nat.reduceEqDiff, Act.put, List.setIfInBounds_toArray, List.set_cons_succ, List.set_cons_zero]; first | refine wpList_nil ?_ | skip)
            simp only [t0, t2, t3, t19]
            have HM := Lib.hid hm
            have HCL := Lib.hid (show cl = [((sAa, sEur), -sum), ((sBb, sEur), sum)] ∨ cl = [((sBb, sEur), sum), ((sAa, sEur), -sum)] from hc)
            have HBW := Lib.hid hR.1
            clear hm hc hR hd hL t0 t2 t3 t19
            have HLW := Lib.hid (HLY.out.keepB HBW.out)
            have hrw := (HBW.out.block _ hzy).trans HRY.out
            have HROW := Lib.hid (rowAt W w3.heap.size ⟨sAa, sEur, -sum⟩ ⟨sBb, sEur, sum⟩ hrw)
            clear hrw
            have HA3 := Lib.hid (show upd A (sAa, sEur) ⟨af, ab, ah + -sum⟩ (sBb, sEur) = some ⟨bf, bb, bh⟩ by
              unfold upd
              rw [if_neg HNE.out.symm]
              exact HY.out)
            have HA4 := Lib.hid (show upd A (sAa, sEur) ⟨af, ab, ah + -sum⟩ (sAa, sEur) = some ⟨af, ab, ah + -sum⟩ by
              unfold upd
              rw [if_pos rfl])
            have HCB := Lib.hid (show ∀ p ∈ cl, (p = ((sAa, sEur), -sum) ∨ p = ((sBb, sEur), sum)) by
              intro p hp
              rcases HCL.out with rfl | rfl
              · simp at hp; exact hp
              · simp at hp; exact hp.symm)
            have hpl2 : ps.length < 4096 := by have := H5.out.2; omega
            go_wp2_with (first
              | (go_at_call 33; refine (book_any g sG 2 _ ps _ S (sTake ++ id) w3.heap.size wy.heap.size ⟨sAa, sEur, -sum⟩ ⟨sBb, sEur, sum⟩ cl _ HLW.out HROW.out (fun hS => by have := HSL.out _ hS; omega) hpl2 HM.out (fun hS => by have := HSL.out _ hS; omega) (fun p hp => ?_)).mono ?_
                 · rcases HCB.out p hp with rfl | rfl
                   · exact ⟨_, HA4.out, by simp only; omega, by simp only; omega⟩
                   · exact ⟨_, HA3.out, by simp only; omega, by simp only; omega⟩
                 rintro r w9 ⟨rfl, hl9, hc9⟩))
            have hbase : Below base w w9 := by
              have hs := HB2.out.size
              have c1 : Chg S w2 w9 := ((HC3.out.trans (T := S) (Chg.of_below HBY.out) (fun i hi => Or.inl hi)).trans (T := S) (Chg.of_below HBW.out) (fun i hi => Or.inl hi)).trans (T := S) hc9 (fun i hi => Or.inl hi)
              exact (HB2.out.mono hbs).trans (c1.below (by omega) H8.out)
            have hcl : ∀ p ∈ cl, -(65535 : Int) ≤ p.2 ∧ p.2 ≤ 65535 := fun p hp => by
              rcases HCB.out p hp with rfl | rfl
              · simp only; omega
              · simp only; omega
            have ha1 := ((AccB.held (d := 65535) (x := ⟨af, ab, ah⟩) H2.out HX.out ⟨x1, x2, x3, x4, x5, x6⟩ (n := -sum) (by omega) (by omega) (by omega)).post hcl (by omega)).mono (c := 131072 * ((k + 1 : Nat) : Int)) (by omega)
            have ha2 := ((AccB.held (d := 65535) (x := ⟨af, ab, ah⟩) H3.out HX.out ⟨x1, x2, x3, x4, x5, x6⟩ (n := -sum) (by omega) (by omega) (by omega)).post hcl (by omega)).mono (c := 131072 * ((k + 1 : Nat) : Int)) (by omega)
            have HFin := Lib.hid (acted (c := 0) (show Cst w9 g (k + 1) base from ⟨_, _, _, _, hl9, ha1, ha2, H4.out.less HN.out HU.out hs0 (by omega) hn2, Nat.le_trans (lessH_length _ _ _ _ _) (by have := H5.out.1; omega), (by have := H5.out.2; simp; omega), (fun p hp => by
              rcases List.mem_append.1 hp with h | h
              · exact H7.out p h
              · rw [List.mem_singleton] at h
                rw [h]
                exact ⟨⟨id, HU.out, rfl⟩, rfl⟩), (fun j hj => by
              rcases hj with h | h
              · exact H8.out j h
              · have := HBW.out.size
                have := h.1
                omega)⟩) hbase)
            clear hl9 hc9 hbase hcl ha1 ha2
            go_wp2_with fail
            go_returns
            exact HFin.out
end Go.Proofs.YtpkiiegadckloaaDoor
