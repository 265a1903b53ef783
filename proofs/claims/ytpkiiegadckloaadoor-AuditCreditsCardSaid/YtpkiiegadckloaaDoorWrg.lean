/- Entries that may be posted. -/
import Derived.Test.YtpkiiegadckloaaDoorOpn
import Derived.Deep.MidRow
set_option linter.unusedSimpArgs false
namespace Go.Proofs.YtpkiiegadckloaaDoor
open Go.RowKit
attribute [local go_sem] made_map

def en (l : List Ent) (k : Nat) : Ent := l.getD k ⟨⟨#[]⟩, ⟨#[]⟩, 0⟩
def eV (e : Ent) : List Value := [.string e.acct, .string e.cur, .int .i64 e.amt]

theorem eflat_at : ∀ (l : List Ent) (k j : Nat), k < l.length → j < 3 → (eflat l)[k * 3 + j]? = (eV (en l k))[j]?
  | [], _, _, h, _ => by simp at h
  | e :: r, 0, j, _, hj => by
    rcases j with _ | _ | _ | j
    · rfl
    · rfl
    · rfl
    · omega
  | e :: r, k + 1, j, h, hj => by
    have := eflat_at r k j (by simpa using h) hj
    rw [show (k + 1) * 3 + j = (k * 3 + j) + 1 + 1 + 1 by omega]
    simp only [eflat, List.getElem?_cons_succ]
    exact this
theorem eflat_length : ∀ l : List Ent, (eflat l).length = l.length * 3
  | [] => rfl
  | _ :: r => by simp [eflat, eflat_length r]; omega

theorem ent_range {w : World} {base b c : Nat} {l : List Ent} (h : w.ownsRow base 57 3 (.slice (some ⟨b, 0, none⟩) l.length c) l.length (eflat l)) (k : Nat) (hk : k < l.length) : w.rangeAt b (k * 3) (eV (en l k)) := by
  intro j v hv
  have hj : j < 3 := by
    have := (List.getElem?_eq_some_iff.1 hv).1
    simpa [eV] using this
  rw [h.cellAt (k * 3 + j) (by omega), eflat_at l k j hk hj]
  exact hv

/-- The sums behind k of two entries. -/
def sumL (e1 : Ent) (k : Nat) : List (ByteArray × Value) := if k = 0 then [] else [(e1.cur, .int .i64 (if k = 1 then e1.amt else 0))]
def sumB (e1 : Ent) (k : Nat) : Int := if k = 0 then 0 else e1.amt
theorem sum_look {e1 e2 : Ent} (hc : e1.cur = e2.cur) {k : Nat} (hk : k < 2) : look (sumL e1 k) (en [e1, e2] k).cur (.int .i64 0) = .int .i64 (sumB e1 k) := by
  have hk01 : k = 0 ∨ k = 1 := by omega
  rcases hk01 with rfl | rfl
  · rfl
  · simp [look, sumL, idx, en, sumB, hc]
theorem sum_put {e1 e2 : Ent} (hc : e1.cur = e2.cur) (hs : e1.amt + e2.amt = 0) {k : Nat} (hk : k < 2) : put (en [e1, e2] k).cur (.int .i64 (sumB e1 k + (en [e1, e2] k).amt)) (sumL e1 k) = sumL e1 (k + 1) := by
  have hk01 : k = 0 ∨ k = 1 := by omega
  rcases hk01 with rfl | rfl
  · simp [put, sumL, en, sumB]
  · simp [put, sumL, en, sumB, hc, hs]

set_option maxRecDepth 100000 in
theorem wrong_any (g : Nat) (ow : ByteArray) (na : Nat) (A : Key → Option Acc) (ps : List Pst) (hl : List (ByteArray × Value)) (S : Nat → Prop) (t : ByteArray) (b : Nat) (e1 e2 : Ent) (w : World) (h : LedAt w g ow na A ps hl S)
    (hx : w.ownsRow 0 57 3 (.slice (some ⟨b, 0, none⟩) 2 2) 2 (eflat [e1, e2])) (ht : t.size ≤ 4096) (hps : ps.length < 4096) (a1 : (A (e1.acct, e1.cur)).isSome = true) (a2 : (A (e2.acct, e2.cur)).isSome = true)
    (hc : e1.cur = e2.cur) (hs : e1.amt + e2.amt = 0) (hm : -1099511627776 ≤ e1.amt) (hm' : e1.amt ≤ 1099511627776) :
    Calls Tryd.prog 43 #[.pointer (some ⟨g, 0, none⟩), .string t, .slice (some ⟨b, 0, none⟩) 2 2] w fun x w' => x = .returned (.int .i64 0) ∧ Below w.heap.size w w' := by
  have H := Lib.hid h
  have HX := Lib.hid hx
  have hx2 := owns_lt hx b rfl
  have A1 := Lib.hid a1
  have A2 := Lib.hid a2
  have HC := Lib.hid hc
  have HS := Lib.hid hs
  have HM := Lib.hid hm
  have HM' := Lib.hid hm'
  clear hx a1 a2 hc hs hm hm'
  obtain ⟨ma, mh, v, pl, la, h, h2, h3, h4⟩ := h
  have c1 := cell_of_row w g 1 _ _ _ h.blk
  have c2 := cell_of_row w g 2 _ _ _ h.blk
  simp only [ledC] at c1 c2
  have hgl := h.lt _ h.sg
  obtain ⟨vc, hvc⟩ : ∃ vc, v = vc := ⟨_, rfl⟩
  obtain ⟨A0, c0, hv⟩ : ∃ A0 c0, v = .slice A0 pl.length c0 := by
    rcases h.row.2 with ⟨rfl, h0⟩ | ⟨b', cap, cur, rfl, _⟩
    · exact ⟨none, 0, by rw [h0]⟩
    · exact ⟨_, _, rfl⟩
  rw [hv] at c2
  have ht' : ¬ (4096 : Int) < t.size := by omega
  have hpl : ¬ (4096 : Int) ≤ pl.length := by rw [← h2] at hps; simp at hps; omega
  clear hv hvc ht hps
  have HL := Lib.hid h
  have H4 := Lib.hid h4
  clear h h2 h3 h4
  go_enter Tryd.func43, Tryd.ntmps43
  go_wp2_with fail
  go_loopw [37] (fun i wr => ∃ k : Nat, k ≤ 2 ∧ i = .int .i64 k ∧ Below w.heap.size w wr) (fun i _ => 2 - (intOf i).toNat)
  case atStart => exact ⟨0, Nat.zero_le _, rfl, Below.refl _ _⟩
  case round =>
    obtain ⟨k, hk, rfl, hb⟩ := hrel
    have HB := Lib.hid hb
    by_cases hk2 : k < 2
    · have hsz := hb.size
      clear hb
      have hk1 : (k : Int) < 2 := by omega
      have HE := Lib.hid (ent_range (owns_keep HX.out HB.out) k hk2)
      obtain ⟨e, he⟩ : ∃ e, en [e1, e2] k = e := ⟨_, rfl⟩
      rw [he] at HE
      have hbw : b < wr.heap.size := by omega
      go_wp2_with (first | (refine wpList_load_mid rfl 57 (.tmp 39) rfl b (k * 3) rfl [.string e.acct, .string e.cur, .int .i64 e.amt] _ HE.out Tryd.underlying57 rfl (by kernel_rfl) ?_))
      obtain ⟨wx, hwx⟩ : ∃ wx, wx = wr.alloc (.cells #[.string e.acct, .string e.cur, .int .i64 e.amt] 57) := ⟨_, rfl⟩
      rw [← hwx]
      have HBX := Lib.hid (show Below wr.heap.size wr wx from hwx ▸ below_new _ _)
      have HRX := Lib.hid (show wx.heap[wr.heap.size]? = some (.cells #[.string e.acct, .string e.cur, .int .i64 e.amt] 57 (0, 0)) from hwx ▸ heap_alloc_new _ _)
      have HSX := Lib.hid (show wx.heap.size = wr.heap.size + 1 by rw [hwx]; simp)
      clear hwx
      obtain ⟨ac, hac⟩ : ∃ ac, A (e.acct, e.cur) = some ac := by
        have hk01 : k = 0 ∨ k = 1 := by omega
        rcases hk01 with rfl | rfl
        · obtain rfl : e1 = e := he
          exact Option.isSome_iff_exists.1 A1.out
        · obtain rfl : e2 = e := he
          exact Option.isSome_iff_exists.1 A2.out
      have HAC := Lib.hid hac
      clear hac
      obtain ⟨af, ab, ah⟩ := ac
      have key : ∀ W, Below wx.heap.size wx W → W.cell? ⟨g, 1, none⟩ = some (.map (some ma)) ∧ W.cell? ⟨wr.heap.size, 0, none⟩ = some (.string e.acct) ∧ W.cell? ⟨wr.heap.size, 1, none⟩ = some (.string e.cur) ∧
          (Instr.lookup 67 (.map (some ma)) (.agg #[.string e.acct, .string e.cur]) true).run Tryd.prog W = .ok (.tuple #[.agg #[.int .i64 af, .int .i64 ab, .int .i64 ah], .bool true]) W := by
        intro W hB
        have h1 := ((HL.out.keepB HB.out).keepB HBX.out).keepB hB
        have h2 := (hB.block wr.heap.size (by have := HSX.out; omega)).trans HRX.out
        refine ⟨cell_of_row W g 1 _ _ _ h1.blk, cell_of_row W _ 0 _ _ _ h2, cell_of_row W _ 1 _ _ _ h2, ?_⟩
        have h3 := run_look (c := true) klKey h1.acc (T := 67) Tryd.underlying67 (zero74 W) (e.acct, e.cur)
        rw [look_fnd, isin_fnd, H4.out, HAC.out] at h3
        exact h3
      have KEY := Lib.hid key
      clear key
      refine region_lays 16 [42, 43, 44, 45, 46, 47, 48, 49, 50, 51, 41, 52, 53, 9, 10] [13, 14] (asg [(42, .pointer (some ⟨g, 0, none⟩)), (43, .pointer (some ⟨g, 0, none⟩)), (44, .pointer (some ⟨g, 1, none⟩)), (45, .map (some ma)),
          (46, .pointer (some ⟨wr.heap.size, 0, none⟩)), (47, .string e.acct), (48, .pointer (some ⟨wr.heap.size, 1, none⟩)), (49, .string e.cur), (50, .agg #[.string e.acct, .string e.cur]),
          (51, .tuple #[.agg #[.int .i64 af, .int .i64 ab, .int .i64 ah], .bool true]), (41, .tuple #[.agg #[.int .i64 af, .int .i64 ab, .int .i64 ah], .bool true]), (52, .agg #[.int .i64 af, .int .i64 ab, .int .i64 ah]), (53, .bool true), (9, .pointer (some ⟨wx.heap.size, 0, none⟩)), (10, .bool true)])
        (fun W => W.cell? ⟨g, 1, none⟩ = some (.map (some ma)) ∧ W.cell? ⟨wr.heap.size, 0, none⟩ = some (.string e.acct) ∧ W.cell? ⟨wr.heap.size, 1, none⟩ = some (.string e.cur) ∧
          (Instr.lookup 67 (.map (some ma)) (.agg #[.string e.acct, .string e.cur]) true).run Tryd.prog W = .ok (.tuple #[.agg #[.int .i64 af, .int .i64 ab, .int .i64 ah], .bool true]) W)
        (fun m => if m = 0 then wx.drew else if m = 1 then (wx.alloc (.cells #[.int .i64 0, .int .i64 0, .int .i64 0] 74)).drew else (wx.alloc (.cells #[.int .i64 af, .int .i64 ab, .int .i64 ah] 74)).drew) (by kernel_rfl) (by kernel_rfl) rfl ?_ ?_ ?_ ?_
      · intro m _
        by_cases hm0 : m = 0
        · rw [if_pos hm0]; exact KEY.out _ ((Below.refl _ _).drew)
        · rw [if_neg hm0]
          by_cases hm1 : m = 1
          · rw [if_pos hm1]; exact KEY.out _ ((below_new _ _).drew)
          · rw [if_neg hm1]; exact KEY.out _ ((below_new _ _).drew)
      · intro i o hi hiC ho τ W hR hd
        obtain ⟨R1, R2, R3, R4⟩ := hR
        rcases i with _ | _ | _ | _ | _ | _ | _ | _ | _ | _ | _ | _ | _ | _ | _ | _ | i
        all_goals (try (exfalso; omega))
        all_goals (try (exfalso; revert hiC; decide))
        all_goals (simp at ho; subst ho)
        all_goals (simp [dstAt, Region.binds, asg] at hd)
        all_goals (intro K hK; simp only [left1, Option.getD_some, Option.getD_none, putAll, asg, ↓reduceIte, Nat.reduceEqDiff, Act.put, List.setIfInBounds_toArray, List.set_cons_succ, List.set_cons_zero] at hK ⊢; (try simp only [hd] at hK ⊢); go_simp; exact hK)
      · intro k o hk ho τ hR hd
        rcases k with _ | _ | k
        all_goals (first | (exfalso; simp at hk; done) | (exfalso; simp at hk; omega) | skip)
        all_goals (simp at ho; subst ho)
        all_goals (simp [dstAt, Region.binds, asg] at hd)
        · rw [if_pos rfl, if_neg (by decide), if_pos rfl]
          (intro K hK; simp only [left1, Option.getD_some, Option.getD_none, putAll, asg, ↓reduceIte, Nat.reduceEqDiff, Act.put, List.setIfInBounds_toArray, List.set_cons_succ, List.set_cons_zero] at hK ⊢; (try simp only [hd] at hK ⊢); go_simp; exact hK)
        · rw [if_neg (by decide), if_pos rfl, if_neg (by decide), if_neg (by decide)]
          (intro K hK; simp only [left1, Option.getD_some, Option.getD_none, putAll, asg, ↓reduceIte, Nat.reduceEqDiff, Act.put, List.setIfInBounds_toArray, List.set_cons_succ, List.set_cons_zero] at hK ⊢; (try simp only [hd] at hK ⊢); go_simp; exact hK)
      · (simp only [List.drop_succ_cons, List.drop_zero, List.drop_nil, List.length_cons, List.length_nil, Nat.zero_add, Nat.reduceAdd, putAll, asg, ↓reduceIte, Nat.reduceEqDiff, Act.put, List.setIfInBounds_toArray, List.set_cons_succ, List.set_cons_zero]; first | refine wpList_nil ?_ | skip)
        obtain ⟨w5, hw5⟩ : ∃ w5, w5 = (wx.alloc (.cells #[.int .i64 af, .int .i64 ab, .int .i64 ah] 74)).drew := ⟨_, rfl⟩
        rw [← hw5]
        have HB5 := Lib.hid (show Below wx.heap.size wx w5 from hw5 ▸ (below_new _ _).drew)
        clear hw5
        go_wp2
        go_roundw
        case rel => exact ⟨k + 1, by omega, by go_num, bel2 (bel2 HB.out HBX.out) HB5.out⟩
        case measure => simp [intOf]; omega
    · have hk1 : ¬ (k : Int) < 2 := by omega
      clear hk hk2 hb
      go_wp2_with fail
      clear hk1
      obtain ⟨wm, hwm⟩ : ∃ wm, wm = wr.alloc (.map #[] 0) := ⟨_, rfl⟩
      have HMP := Lib.hid (show MapAt es wm wr.heap.size [] from hwm ▸ MapAt.made wr)
      have HBM := Lib.hid (show Below wr.heap.size wr wm from hwm ▸ below_new _ _)
      rw [← hwm]
      clear hwm
      go_wp2_with fail
      obtain ⟨m, hm⟩ : ∃ m, m = wr.heap.size := ⟨_, rfl⟩
      rw [← hm]
      have HMW := Lib.hid (show w.heap.size ≤ m from hm ▸ HB.out.size)
      have HMm := Lib.hid hm
      clear hm
      go_loopw [60] (fun i wq => ∃ k : Nat, k ≤ 2 ∧ i = .int .i64 k ∧ MapAt es wq m (sumL e1 k) ∧ Below w.heap.size w wq) (fun i _ => 2 - (intOf i).toNat)
      case atStart => exact ⟨0, Nat.zero_le _, rfl, HMm.out ▸ HMP.out, bel2 HB.out HBM.out⟩
      case round =>
        obtain ⟨k, hk, rfl, hma, hb⟩ := hrel
        have HB' := Lib.hid hb
        by_cases hk2 : k < 2
        · have hsz := hb.size
          clear hb
          have hk1 : (k : Int) < 2 := by omega
          have HE := Lib.hid (ent_range (owns_keep HX.out HB'.out) k hk2)
          obtain ⟨e, he⟩ : ∃ e, en [e1, e2] k = e := ⟨_, rfl⟩
          have HE' := Lib.hid he
          have hb1 : -1099511627776 ≤ e.amt ∧ e.amt ≤ 1099511627776 := by
            have := HM.out
            have := HM'.out
            have := HS.out
            have hk01 : k = 0 ∨ k = 1 := by omega
            rcases hk01 with rfl | rfl
            · obtain rfl : e1 = e := he
              exact ⟨HM.out, HM'.out⟩
            · obtain rfl : e2 = e := he
              omega
          have hlk := sum_look HC.out hk2
          have hpt := sum_put HC.out HS.out hk2
          rw [he] at HE hlk hpt
          have hbw : b < wr.heap.size := by omega
          have hd1 : decide (e.amt < -1099511627776) = false := decide_eq_false (by omega)
          have hd2 : decide (1099511627776 < e.amt) = false := decide_eq_false (by omega)
          obtain ⟨s, hs⟩ : ∃ s, sumB e1 k = s := ⟨_, rfl⟩
          have hsb : -1099511627776 ≤ s ∧ s ≤ 1099511627776 := by
            have := HM.out
            have := HM'.out
            rw [← hs]
            unfold sumB
            split <;> omega
          have hwr : IntKind.i64.wrap (s + e.amt) = s + e.amt := IntWalk.i64_in _ (by omega)
          rw [hs] at hlk hpt
          obtain ⟨wx, hwx⟩ : ∃ wx, wx = wr.alloc (.cells #[.string e.acct, .string e.cur, .int .i64 e.amt] 57) := ⟨_, rfl⟩
          have hbx : Below wr.heap.size wr wx := hwx ▸ below_new _ _
          have hmx := hma.keep (hbx.block m hma.lt)
          have HRX := Lib.hid (show wx.heap[wr.heap.size]? = some (.cells #[.string e.acct, .string e.cur, .int .i64 e.amt] 57 (0, 0)) from hwx ▸ heap_alloc_new _ _)
          have hr1 := run_look (c := false) klStr hmx (T := 112) Tryd.underlying112 (z := .int .i64 0) (by go_simp) e.cur
          rw [hlk] at hr1
          obtain ⟨w2, hr2, hm2, hg2, -⟩ := run_put klStr hmx (T := 112) (E := 2) Tryd.underlying112 e.cur (.int .i64 (s + e.amt))
          rw [hpt] at hm2
          have hfin : Below w.heap.size w w2 := (bel2 HB'.out hbx).trans ⟨hg2.os, hg2.tape, hg2.output, hg2.size, fun i hi => hg2.block i (by have := hbx.size; omega) (fun e => by have := HMW.out; have := Option.some.inj e; omega)⟩
          have HF := Lib.hid hfin
          have HM2 := Lib.hid hm2
          rw [hwx] at hr1 hr2
          simp only [es, Bool.false_eq_true, if_false] at hr1 hr2
          clear hfin hm2 hg2 hbx hmx hwx hma he hpt hlk hs HRX
          go_wp2_with (first | (refine wpList_load_mid rfl 57 (.tmp 62) rfl b (k * 3) rfl [.string e.acct, .string e.cur, .int .i64 e.amt] _ HE.out Tryd.underlying57 rfl (by kernel_rfl) ?_))
          go_roundw
          case rel => exact ⟨k + 1, by omega, by go_num, HM2.out, HF.out⟩
          case measure => simp [intOf]; omega
        · obtain rfl : k = 2 := by omega
          clear hk hk2 hb
          obtain ⟨w3, hrg, hit, hb3, hs3⟩ := run_range hma (T := 112) (K := 9) (E := 2) Tryd.underlying112
          have HIT := Lib.hid hit
          have HB3 := Lib.hid (bel2 HB'.out hb3)
          have HSZ := Lib.hid (HB'.out.size)
          clear hma hit hb3 hs3
          go_wp2_with fail
          obtain ⟨r, hr⟩ : ∃ r, r = wr.heap.size := ⟨_, rfl⟩
          rw [← hr] at HIT HSZ ⊢
          clear hr hrg
          rw [show sumL e1 2 = [(e1.cur, .int .i64 0)] from rfl] at HIT
          refine wp_loop_rounds 3 ?_
          rw [rounds_succ]
          rcases run_next klStr HIT.out 0 with ⟨h0, -⟩ | ⟨a, v, w4, hav, hnx, hit4, hcur, hg4, -⟩
          · cases h0
          · simp only [List.mem_singleton, Prod.mk.injEq] at hav
            obtain ⟨rfl, rfl⟩ := hav
            have hen := hcur.run (P := Tryd.prog)
            have HIT4 := Lib.hid hit4
            have HF4 := Lib.hid (HB3.out.trans ⟨hg4.os, hg4.tape, hg4.output, hg4.size, fun i hi => hg4.block i (by have := HB3.out.size; omega) (fun e => by have := HSZ.out; have := Option.some.inj e; omega)⟩)
            clear hit4 hcur hg4
            simp only [es] at hnx hen
            go_wp2
            clear hnx hen
            rw [rounds_succ]
            rcases run_next klStr HIT4.out 0 with ⟨h0, hnx⟩ | ⟨a, v, w5, hav, -⟩
            · go_wp2
              go_returns
              exact ⟨rfl, HF4.out⟩
            · exfalso
              simp at hav
end Go.Proofs.YtpkiiegadckloaaDoor
