/- A post of two entries. -/
import Derived.Test.YtpkiiegadckloaaDoorBok
set_option linter.unusedSimpArgs false
set_option linter.unusedVariables false
namespace Go.Proofs.YtpkiiegadckloaaDoor
open Go.RowKit
attribute [local go_sem] made_map

/-- The law wpList_load_row of the library, at an operation that stands under a guard which is met. -/
theorem wpList_load_rowG {P : Program} {ops : Array Oper} {rest : List Oper} {o : Oper} {a : Act} {w : World} {Q : Exit → Act → World → Prop} (hgd : Region.wanted o (yielded ops a.tmps) = true) (ty : TypeId) (x : Operand) (ho : o.op = .load ty x)
    (g : Nat) (hx : a.eval x = .pointer (some ⟨g, 0, none⟩)) (t : TypeId) (cs : Array Value) (fr : Nat × Nat) (d : TypeDesc) (hg : w.heap[g]? = some (.cells cs t fr))
    (hu : P.underlying ty = some d) (hd : (match d with | .struct _ | .array _ _ => true | _ => false) = true) (hi : (P.info? ty).map (·.size) = some cs.size)
    (h : wpList P ops Q rest (a.put o.dst (.agg cs)) w) : wpList P ops Q (o :: rest) a w :=
  wpList_step fun _ hK => by rw [if_pos hgd]; exact wp_load_row ty x ho g hx t cs fr d hg hu hd hi (hK _ _ h)

theorem free_any (f b h : Int) (hf : -4611686018427387904 ≤ b - h ∧ b - h ≤ 4611686018427387904) (hf2 : -4611686018427387904 ≤ b - h - f ∧ b - h - f ≤ 4611686018427387904) (w : World) :
    Calls Tryd.prog 34 #[.agg #[.int .i64 f, .int .i64 b, .int .i64 h]] w fun x w' => x = .returned (.int .i64 (b - h - f)) ∧ Below w.heap.size w w' := by
  have e1 : IntKind.i64.wrap (b - h) = b - h := IntWalk.i64_in _ (by omega)
  have e2 : IntKind.i64.wrap (b - h - f) = b - h - f := IntWalk.i64_in _ (by omega)
  clear hf hf2
  go_enter Tryd.func34, Tryd.ntmps34
  go_wp2
  go_returns
  exact ⟨rfl, below_new _ _⟩

/-- A change that an account bears. -/
structure Bears (a : Acc) (n : Int) : Prop where
  top : a.bal + n ≤ 1099511627776
  free : n < 0 → -n ≤ a.bal - a.held - a.floor
  b1 : -2199023255552 ≤ a.bal ∧ a.bal ≤ 2199023255552
  b2 : -2199023255552 ≤ a.held ∧ a.held ≤ 2199023255552
  b3 : -2199023255552 ≤ a.floor ∧ a.floor ≤ 2199023255552
  b4 : -1099511627776 ≤ n ∧ n ≤ 1099511627776

/-- The changes behind k of two entries. -/
def chs (l : List Ent) (k : Nat) : List (Key × Int) := (l.take k).map fun e => ((e.acct, e.cur), e.amt)

theorem chs_look {e1 e2 : Ent} (hne : e1.acct ≠ e2.acct) {k : Nat} (hk : k < 2) : fnd (clV (chs [e1, e2] k)) ((en [e1, e2] k).acct, (en [e1, e2] k).cur) = none := by
  have hk01 : k = 0 ∨ k = 1 := by omega
  rcases hk01 with rfl | rfl
  · rfl
  · have : ¬ ((e2.acct, e2.cur) : Key) = (e1.acct, e1.cur) := fun e => hne (Prod.mk.inj e).1.symm
    simp only [chs, clV, List.take_succ_cons, List.take_zero, List.map_cons, List.map_nil, en, List.getD_cons_succ, List.getD_cons_zero]
    rw [fnd_cons, if_neg this]
    rfl
theorem chs_put {e1 e2 : Ent} (hne : e1.acct ≠ e2.acct) {k : Nat} (hk : k < 2) (z : Value) : put ((en [e1, e2] k).acct, (en [e1, e2] k).cur) (.int .i64 (en [e1, e2] k).amt) (put ((en [e1, e2] k).acct, (en [e1, e2] k).cur) z (clV (chs [e1, e2] k))) = clV (chs [e1, e2] (k + 1)) := by
  have hk01 : k = 0 ∨ k = 1 := by omega
  rcases hk01 with rfl | rfl
  · simp [chs, clV, en, put]
  · have : ¬ ((e2.acct, e2.cur) : Key) = (e1.acct, e1.cur) := fun e => hne (Prod.mk.inj e).1.symm
    simp only [chs, clV, List.take_succ_cons, List.take_zero, List.map_cons, List.map_nil, en, List.getD_cons_succ, List.getD_cons_zero, put, if_neg this, if_true]

set_option maxRecDepth 100000 in
set_option maxHeartbeats 4000000 in
theorem Post_any (g : Nat) (ow : ByteArray) (na : Nat) (A : Key → Option Acc) (ps : List Pst) (hl : List (ByteArray × Value)) (S : Nat → Prop) (t : ByteArray) (b : Nat) (e1 e2 : Ent) (x1 x2 : Acc) (w : World) (h : LedAt w g ow na A ps hl S)
    (hx : w.ownsRow 0 57 3 (.slice (some ⟨b, 0, none⟩) 2 2) 2 (eflat [e1, e2])) (hxS : ¬ S b) (ht : t.size ≤ 4096) (hps : ps.length < 4096) (hc : e1.cur = e2.cur) (hne : e1.acct ≠ e2.acct) (hs : e1.amt + e2.amt = 0)
    (a1 : A (e1.acct, e1.cur) = some x1) (a2 : A (e2.acct, e2.cur) = some x2) (h1 : Bears x1 e1.amt) (h2 : Bears x2 e2.amt) :
    Calls Tryd.prog 21 #[.pointer (some ⟨g, 0, none⟩), .string t, .slice (some ⟨b, 0, none⟩) 2 2] w fun x w' => x = .returned (.tuple #[.int .i64 (ps.length + 1), .int .i64 0]) ∧
      LedAt w' g ow na (chgA A (chs [e1, e2] 2)) (ps ++ [⟨ps.length + 1, t, [e1, e2]⟩]) hl (grow S w w') ∧ Chg S w w' := by
  have H := Lib.hid h
  have HX := Lib.hid hx
  have HXS := Lib.hid hxS
  have HT := Lib.hid ht
  have HPS := Lib.hid hps
  have HC := Lib.hid hc
  have HNE := Lib.hid hne
  have HS := Lib.hid hs
  have A1 := Lib.hid a1
  have A2 := Lib.hid a2
  have B1 := Lib.hid h1
  have B2 := Lib.hid h2
  have HBL := Lib.hid (owns_lt hx b rfl)
  clear h hx hxS ht hps hc hne hs a1 a2 h1 h2
  go_enter Tryd.func21, Tryd.ntmps21
  go_wp2_with (first
    | (go_at_call 43; refine (wrong_any g ow na A ps hl S t b e1 e2 _ H.out HX.out HT.out HPS.out (by rw [A1.out]; rfl) (by rw [A2.out]; rfl) HC.out HS.out B1.out.b4.1 B1.out.b4.2).mono ?_; rintro x w1 ⟨rfl, hb1⟩
       have HB1 := Lib.hid hb1
       clear hb1))
  obtain ⟨mc, hmc⟩ : ∃ mc, mc = w1.heap.size := ⟨_, rfl⟩
  obtain ⟨w2, hw2⟩ : ∃ w2, w2 = w1.alloc (.map #[] 0) := ⟨_, rfl⟩
  have HM2 := Lib.hid (show MapAt ek w2 mc [] from hw2 ▸ hmc ▸ MapAt.made w1)
  have HB2 := Lib.hid (bel2 HB1.out (show Below w1.heap.size w1 w2 from hw2 ▸ below_new _ _))
  have HMW := Lib.hid (show w.heap.size ≤ mc from hmc ▸ HB1.out.size)
  rw [← hw2, ← hmc]
  clear hw2 hmc HB1
  go_loopw [26] (fun i wr => ∃ k : Nat, k ≤ 2 ∧ i = .int .i64 k ∧ MapAt ek wr mc (clV (chs [e1, e2] k)) ∧ Below w.heap.size w wr) (fun i _ => 2 - (intOf i).toNat)
  case atStart => exact ⟨0, Nat.zero_le _, rfl, HM2.out, HB2.out⟩
  case round =>
    obtain ⟨k, hk, rfl, hma, hb⟩ := hrel
    have HB := Lib.hid hb
    by_cases hk2 : k < 2
    · have hsz := hb.size
      clear hb
      have hk1 : (k : Int) < 2 := by omega
      have HE := Lib.hid (ent_range (owns_keep HX.out HB.out) k hk2)
      have hlk := chs_look HNE.out hk2
      have hpt := chs_put HNE.out hk2 (.int .i64 0)
      obtain ⟨e, he⟩ : ∃ e, en [e1, e2] k = e := ⟨_, rfl⟩
      have hamt : -1099511627776 ≤ e.amt ∧ e.amt ≤ 1099511627776 := by
        have hk01 : k = 0 ∨ k = 1 := by omega
        rcases hk01 with rfl | rfl
        · obtain rfl : e1 = e := he
          exact B1.out.b4
        · obtain rfl : e2 = e := he
          exact B2.out.b4
      rw [he] at HE hlk hpt
      have hbw : b < wr.heap.size := by have := HBL.out; omega
      obtain ⟨wx, hwx⟩ : ∃ wx, wx = wr.alloc (.cells #[.string e.acct, .string e.cur, .int .i64 e.amt] 57) := ⟨_, rfl⟩
      have hbx : Below wr.heap.size wr wx := hwx ▸ below_new _ _
      have hmx := hma.keep (hbx.block mc hma.lt)
      have HRX := Lib.hid (show wx.heap[wr.heap.size]? = some (.cells #[.string e.acct, .string e.cur, .int .i64 e.amt] 57 (0, 0)) from hwx ▸ heap_alloc_new _ _)
      have hz2 : ∀ W : World, (zeroValue 2).run Tryd.prog W = .ok (.int .i64 0) W := fun W => by go_simp
      obtain ⟨wm, s, hr1, hm1, hst, hg1, hs1⟩ := run_mapEntry klKey (hmx.keep (w' := wx.drew) rfl) (T := 84) Tryd.underlying84 (hz2 _) (e.acct, e.cur)
      have hl1 : look (clV (chs [e1, e2] k)) (e.acct, e.cur) (.int .i64 0) = .int .i64 0 := by rw [look_fnd, hlk]; rfl
      rw [hl1] at hr1 hm1
      obtain ⟨wn, hr2, hm2, hg2, hs2⟩ := run_entryStore (T := 84) klKey hm1 hst (.int .i64 e.amt)
      rw [hpt] at hm2
      have hlk0 := run_look (c := false) klKey (hmx.keep (w' := wx.drew) rfl) (T := 84) Tryd.underlying84 (hz2 _) (e.acct, e.cur)
      rw [hl1] at hlk0
      have hlk1 := run_look (c := false) klKey hm1 (T := 84) Tryd.underlying84 (hz2 _) (e.acct, e.cur)
      rw [look_fnd, fnd_put, if_pos rfl] at hlk1
      have hbn : Below w.heap.size w wn := by
        have hx1 := bel2 HB.out hbx
        refine hx1.trans (Below.trans (b := wm) ⟨hg1.os, hg1.tape, hg1.output, hg1.size, fun i hi => hg1.block i (by have := hx1.size; show i < wx.heap.size; omega) (fun e => by have := HMW.out; have := Option.some.inj e; omega)⟩
          ⟨hg2.os, hg2.tape, hg2.output, hg2.size, fun i hi => hg2.block i (by have := hx1.size; have : wm.heap.size = wx.heap.size := hs1; omega) (fun e => by have := HMW.out; have := Option.some.inj e; omega)⟩)
      have hRm : wm.heap[wr.heap.size]? = some (.cells #[.string e.acct, .string e.cur, .int .i64 e.amt] 57 (0, 0)) :=
        (hg1.block _ (by show _ < wx.heap.size; exact (Array.getElem?_eq_some_iff.1 HRX.out).1) (fun e => by have := hma.lt; have := Option.some.inj e; omega)).trans HRX.out
      have HF := Lib.hid hbn
      have HFM := Lib.hid hm2
      have HR1 := Lib.hid hr1
      have HR2 := Lib.hid hr2
      have HK0 := Lib.hid hlk0
      have HK1 := Lib.hid hlk1
      have HRM := Lib.hid hRm
      have hw0 : IntKind.i64.wrap (0 + e.amt) = e.amt := by rw [Int.zero_add]; exact IntWalk.i64_in _ (by omega)
      have hw0' : IntKind.i64.wrap e.amt = e.amt := IntWalk.i64_in _ (by omega)
      clear hma hlk hpt he hamt hbx hmx hz2 hr1 hm1 hst hg1 hs1 hl1 hr2 hm2 hg2 hs2 hlk0 hlk1 hbn hRm hk2
      go_wp2_with (first | (refine wpList_load_mid rfl 57 (.tmp 28) rfl b (k * 3) rfl [.string e.acct, .string e.cur, .int .i64 e.amt] _ HE.out Tryd.underlying57 rfl (by kernel_rfl) ?_))
      rw [← hwx]
      clear hwx
      refine region_lays 12 [30, 31, 32, 33, 34, 35, 36, 37, 38, 39, 40, 41] [10] (asg [(30, .map (some mc)), (31, .pointer (some ⟨wr.heap.size, 0, none⟩)), (32, .string e.acct), (33, .pointer (some ⟨wr.heap.size, 1, none⟩)), (34, .string e.cur),
          (35, .agg #[.string e.acct, .string e.cur]), (36, .int .i64 0), (37, .pointer (some ⟨wr.heap.size, 2, none⟩)), (38, .int .i64 e.amt), (39, .int .i64 e.amt), (40, .tuple #[.int .i64 0, .int .i64 s]), (41, .int .i64 s)])
        (fun W => W.heap[wr.heap.size]? = some (.cells #[.string e.acct, .string e.cur, .int .i64 e.amt] 57 (0, 0)) ∧ (Instr.lookup 84 (.map (some mc)) (.agg #[.string e.acct, .string e.cur]) false).run Tryd.prog W = .ok (.int .i64 0) W)
        (fun m => if m = 0 then wx.drew else wm) (by kernel_rfl) (by kernel_rfl) rfl ?_ ?_ ?_ ?_
      · intro m _
        by_cases hm0 : m = 0
        · rw [if_pos hm0]; exact ⟨HRX.out, HK0.out⟩
        · rw [if_neg hm0]; exact ⟨HRM.out, HK1.out⟩
      · intro i o hi hiC ho τ W hR hd
        have R0 := cell_of_row W _ 0 _ _ _ hR.1
        have R1 := cell_of_row W _ 1 _ _ _ hR.1
        have R2 := cell_of_row W _ 2 _ _ _ hR.1
        have R3 := hR.2
        simp only [List.getElem?_toArray, List.getElem?_cons_zero, List.getElem?_cons_succ] at R0 R1 R2
        clear hR
        rcases i with _ | _ | _ | _ | _ | _ | _ | _ | _ | _ | _ | _ | i
        all_goals (try (exfalso; omega))
        all_goals (try (exfalso; revert hiC; decide))
        all_goals (simp at ho; subst ho)
        all_goals (simp [dstAt, Region.binds, asg] at hd)
        all_goals (intro K hK; simp only [left1, Option.getD_some, Option.getD_none, putAll, asg, ↓reduceIte, Nat.reduceEqDiff, Act.put, List.setIfInBounds_toArray, List.set_cons_succ, List.set_cons_zero] at hK ⊢; (try simp only [hd] at hK ⊢); go_simp; exact hK)
      · intro k o hk ho τ hR hd
        rcases k with _ | k
        all_goals (first | (exfalso; simp at hk; done) | (exfalso; simp at hk; omega) | skip)
        all_goals (simp at ho; subst ho)
        all_goals (simp [dstAt, Region.binds, asg] at hd)
        rw [if_pos rfl, if_neg (by decide)]
        have hr1 := HR1.out
        simp only [ek, goInt] at hr1
        (intro K hK; simp only [left1, Option.getD_some, Option.getD_none, putAll, asg, ↓reduceIte, Nat.reduceEqDiff, Act.put, List.setIfInBounds_toArray, List.set_cons_succ, List.set_cons_zero] at hK ⊢; (try simp only [hd] at hK ⊢); go_simp; exact hK)
      · (simp only [List.drop_succ_cons, List.drop_zero, List.drop_nil, List.length_cons, List.length_nil, Nat.zero_add, Nat.reduceAdd, putAll, asg, ↓reduceIte, Nat.reduceEqDiff, Act.put, List.setIfInBounds_toArray, List.set_cons_succ, List.set_cons_zero]; first | refine wpList_nil ?_ | skip)
        have hr2 := HR2.out
        simp only [goInt] at hr2
        go_wp2
        clear hr2
        go_roundw
        case rel => exact ⟨k + 1, by omega, by go_num, HFM.out, HF.out⟩
        case measure => simp [intOf]; omega
    · have hk1 : ¬ (k : Int) < 2 := by omega
      have hk3 : k = 2 := by omega
      rw [hk3] at hma
      obtain ⟨cl, hcl⟩ : ∃ cl, cl = chs [e1, e2] 2 := ⟨_, rfl⟩
      rw [← hcl] at hma
      have HCL := Lib.hid (show ∀ p ∈ cl, ∃ a, A p.1 = some a ∧ Bears a p.2 by
        intro p hp
        rw [hcl] at hp
        simp only [chs, List.take_succ_cons, List.take_zero, List.map_cons, List.map_nil, List.mem_cons, List.not_mem_nil, or_false] at hp
        rcases hp with rfl | rfl
        · exact ⟨x1, A1.out, B1.out⟩
        · exact ⟨x2, A2.out, B2.out⟩)
      obtain ⟨w3, hrg, hit, hb3, hs3⟩ := run_range hma (T := 84) (K := 72) (E := 2) Tryd.underlying84
      have HIT := Lib.hid hit
      have HB3 := Lib.hid (bel2 HB.out hb3)
      have HSZ := Lib.hid (HB.out.size)
      have HCE := Lib.hid hcl
      clear hma hit hb3 hs3 hk hk2 hk3 hb hcl
      go_wp2_with fail
      clear hk1
      obtain ⟨r, hr⟩ : ∃ r, r = wr.heap.size := ⟨_, rfl⟩
      rw [← hr] at HIT HSZ ⊢
      clear hr hrg
      go_loopg [12] cl.length (fun gf i wx => i = .bool false ∧ ∃ left, IterAt ek wx r mc (clV cl) (clV left) ∧ left.length ≤ gf ∧ (∀ p ∈ left, p ∈ cl) ∧ Below w.heap.size w wx)
      case atStart => exact ⟨rfl, cl, HIT.out, Nat.le_refl _, fun p hp => hp, HB3.out⟩
      case round =>
        obtain ⟨rfl, left, hit, hlen, hsub, hb⟩ := hrel
        rcases run_next klKey hit 0 with ⟨h0, hnx⟩ | ⟨k, v0, wn, hkv, hnx, hit2, hcur, hg2, hs2⟩
        · have HB := Lib.hid hb
          have HMP := Lib.hid hit.map
          clear hit hlen hsub hb h0
          go_wp2_with (first
            | (go_at_call 33; refine (book_any g ow na A ps hl S t b mc e1 e2 cl _ (H.out.keepB HB.out) (owns_keep HX.out HB.out) HXS.out HPS.out HMP.out (fun h => by have := H.out.lt _ h; have := HMW.out; omega) (fun p hp => ?_)).mono ?_
               · obtain ⟨a, ha, hbr⟩ := HCL.out p hp
                 have h1 := hbr.b1
                 have h4 := hbr.b4
                 exact ⟨a, ha, by omega, by omega⟩
               rintro x w5 ⟨rfl, hl5, hc5⟩))
          go_returns
          refine ⟨rfl, ?_, (Chg.of_below HB.out).trans hc5 (fun i hi => Or.inl hi)⟩
          rw [HCE.out] at hl5
          refine hl5.more (fun i hi => ?_) (fun i hi => ?_)
          · rcases hi with hi | hi
            · exact Or.inl hi
            · exact Or.inr ⟨Nat.le_trans HB.out.size hi.1, hi.2⟩
          · rcases hi with hi | hi
            · have := H.out.lt i hi
              have := HB.out.size
              have := hc5.size
              omega
            · exact hi.2
        · obtain ⟨n, rfl, hkn⟩ := clV_mem hkv
          obtain ⟨a, ha, hbr⟩ := HCL.out (k, n) (hsub _ hkn)
          have hla := drop_lt hkn
          obtain ⟨gf, rfl⟩ : ∃ gf, gk = gf + 1 := ⟨gk - 1, by omega⟩
          have hbn : Below w.heap.size w wn := hb.trans ⟨hg2.os, hg2.tape, hg2.output, hg2.size, fun i hi => hg2.block i (by have := hb.size; omega) (fun e => by have := HSZ.out; have := Option.some.inj e; omega)⟩
          have hen := hcur.run (P := Tryd.prog)
          rw [clV_filter] at hit2
          obtain ⟨kc, ku⟩ := k
          obtain ⟨af, ab, ah⟩ := a
          have h1 := hbr.top
          have h2 := hbr.free
          have h3 := hbr.b1
          have h4 := hbr.b2
          have h5 := hbr.b3
          have h6 := hbr.b4
          simp only at h1 h2 h3 h4 h5 h6
          have HIT2 := Lib.hid hit2
          have HSUB := Lib.hid hsub
          have HLEN := Lib.hid hlen
          have HLA := Lib.hid hla
          have HAK := Lib.hid ha
          have HBN := Lib.hid hbn
          have HFR := Lib.hid h2
          have HFB := Lib.hid (show (-4611686018427387904 ≤ ab - ah ∧ ab - ah ≤ 4611686018427387904) ∧ (-4611686018427387904 ≤ ab - ah - af ∧ ab - ah - af ≤ 4611686018427387904) from ⟨by omega, by omega⟩)
          have hw : IntKind.i64.wrap (ab + n) = ab + n := IntWalk.i64_in _ (by omega)
          have hwn : IntKind.i64.wrap (-n) = -n := IntWalk.i64_in _ (by omega)
          have hd1 : decide (1099511627776 < ab + n) = false := decide_eq_false (by omega)
          clear hit hlen hsub hb hkv hcur hg2 hs2 hkn ha hla hit2 hbn hbr h1 h2 h3 h4 h5 h6
          simp only [ek] at hnx hen
          go_wp2_with fail
          obtain ⟨wk, hwk⟩ : ∃ wk, wk = wn.alloc (.cells #[.string kc, .string ku] 72) := ⟨_, rfl⟩
          rw [← hwk]
          have HBK := Lib.hid (show Below wn.heap.size wn wk from hwk ▸ below_new _ _)
          have HRK := Lib.hid (show wk.heap[wn.heap.size]? = some (.cells #[.string kc, .string ku] 72 (0, 0)) from hwk ▸ heap_alloc_new _ _)
          have HSK := Lib.hid (show wk.heap.size = wn.heap.size + 1 by rw [hwk]; simp)
          clear hwk hnx hen
          obtain ⟨ma, mh, v, pl, hled, -⟩ := ((H.out.keepB HBN.out).keepB HBK.out).open
          have HLK := Lib.hid hled
          clear hled
          have key : ∀ W, Below wk.heap.size wk W → W.cell? ⟨g, 1, none⟩ = some (.map (some ma)) ∧ W.heap[wn.heap.size]? = some (.cells #[.string kc, .string ku] 72 (0, 0)) ∧
              (Instr.lookup 67 (.map (some ma)) (.agg #[.string kc, .string ku]) false).run Tryd.prog W = .ok (.agg #[.int .i64 af, .int .i64 ab, .int .i64 ah]) W := by
            intro W hB
            have h1 := HLK.out.keepB hB
            exact ⟨h1.c1, (hB.block wn.heap.size (by have := HSK.out; omega)).trans HRK.out, h1.look (kc, ku) HAK.out false⟩
          have KEY := Lib.hid key
          clear key
          refine region_lays 8 [50, 51, 52, 53, 54, 55, 15] [6, 7] (asg [(50, .pointer (some ⟨g, 0, none⟩)), (51, .pointer (some ⟨g, 0, none⟩)), (52, .pointer (some ⟨g, 1, none⟩)), (53, .map (some ma)),
              (54, .agg #[.string kc, .string ku]), (55, .agg #[.int .i64 af, .int .i64 ab, .int .i64 ah]), (15, .pointer (some ⟨wk.heap.size, 0, none⟩))])
            (fun W => W.cell? ⟨g, 1, none⟩ = some (.map (some ma)) ∧ W.heap[wn.heap.size]? = some (.cells #[.string kc, .string ku] 72 (0, 0)) ∧
              (Instr.lookup 67 (.map (some ma)) (.agg #[.string kc, .string ku]) false).run Tryd.prog W = .ok (.agg #[.int .i64 af, .int .i64 ab, .int .i64 ah]) W)
            (fun m => if m = 0 then wk.drew else if m = 1 then (wk.alloc (.cells #[.int .i64 0, .int .i64 0, .int .i64 0] 74)).drew else (wk.alloc (.cells #[.int .i64 af, .int .i64 ab, .int .i64 ah] 74)).drew) (by kernel_rfl) (by kernel_rfl) rfl ?_ ?_ ?_ ?_
          · intro m _
            by_cases hm0 : m = 0
            · rw [if_pos hm0]; exact KEY.out _ ((Below.refl _ _).drew)
            · rw [if_neg hm0]
              by_cases hm1 : m = 1
              · rw [if_pos hm1]; exact KEY.out _ ((below_new _ _).drew)
              · rw [if_neg hm1]; exact KEY.out _ ((below_new _ _).drew)
          · intro i o hi hiC ho τ W hR hd
            obtain ⟨R1, R2, R3⟩ := hR
            rcases i with _ | _ | _ | _ | _ | _ | _ | _ | i
            all_goals (try (exfalso; omega))
            all_goals (try (exfalso; revert hiC; decide))
            all_goals (simp at ho; subst ho)
            all_goals (simp [dstAt, Region.binds, asg] at hd)
            · (intro K hK; simp only [left1, Option.getD_some, Option.getD_none, putAll, asg, ↓reduceIte, Nat.reduceEqDiff, Act.put, List.setIfInBounds_toArray, List.set_cons_succ, List.set_cons_zero] at hK ⊢; (try simp only [hd] at hK ⊢); go_simp; exact hK)
            · (intro K hK; simp only [left1, Option.getD_some, Option.getD_none, putAll, asg, ↓reduceIte, Nat.reduceEqDiff, Act.put, List.setIfInBounds_toArray, List.set_cons_succ, List.set_cons_zero] at hK ⊢; (try simp only [hd] at hK ⊢); go_simp; exact hK)
            · (intro K hK; simp only [left1, Option.getD_some, Option.getD_none, putAll, asg, ↓reduceIte, Nat.reduceEqDiff, Act.put, List.setIfInBounds_toArray, List.set_cons_succ, List.set_cons_zero] at hK ⊢; (try simp only [hd] at hK ⊢); go_simp; exact hK)
            · (intro K hK; simp only [left1, Option.getD_some, Option.getD_none, putAll, asg, ↓reduceIte, Nat.reduceEqDiff, Act.put, List.setIfInBounds_toArray, List.set_cons_succ, List.set_cons_zero] at hK ⊢; (try simp only [hd] at hK ⊢); go_simp; exact hK)
            · (intro K hK; simp only [left1, Option.getD_some, Option.getD_none, putAll, asg, ↓reduceIte, Nat.reduceEqDiff, Act.put, List.setIfInBounds_toArray, List.set_cons_succ, List.set_cons_zero] at hK ⊢; (try simp only [hd] at hK ⊢); refine wp_load_row _ _ rfl _ rfl 72 _ (0, 0) _ R2 Tryd.underlying72 rfl (by kernel_rfl) ?_; exact hK)
            · (intro K hK; simp only [left1, Option.getD_some, Option.getD_none, putAll, asg, ↓reduceIte, Nat.reduceEqDiff, Act.put, List.setIfInBounds_toArray, List.set_cons_succ, List.set_cons_zero] at hK ⊢; (try simp only [hd] at hK ⊢); go_simp; exact hK)
          · intro k o hk ho τ hR hd
            rcases k with _ | _ | k
            all_goals (first | (exfalso; simp at hk; done) | (exfalso; simp at hk; omega) | skip)
            all_goals (simp at ho; subst ho)
            all_goals (simp [dstAt, Region.binds, asg] at hd)
            · rw [if_pos rfl, if_neg (by decide), if_pos rfl]
              (intro K hK; simp only [left1, Option.getD_some, Option.getD_none, putAll, asg, ↓reduceIte, Nat.reduceEqDiff, Act.put, List.setIfInBounds_toArray, List.set_cons_succ, List.set_cons_zero] at hK ⊢; (try simp only [hd] at hK ⊢); go_simp; exact hK)
            · rw [if_neg (by decide), if_pos rfl, if_neg (by decide), if_neg (by decide)]
              (intro K hK; simp only [left1, Option.getD_some, Option.getD_none, putAll, asg, ↓reduceIte, Nat.reduceEqDiff, Act.put, List.setIfInBounds_toArray, List.set_cons_succ, List.set_cons_zero] at hK ⊢; (try simp only [hd] at hK ⊢); go_simp; exact hK)
          · (simp only [List.drop_succ_cons, List.drop_zero, List.drop_nil, List.length_cons, List.length_nil, Nat.zero_add, Nat.reduceAdd, putAll, asg, ↓reduceIte, Nat.reduceEqDiff, Act.put, List.setIfInBounds_toArray, List.set_cons_succ, List.set_cons_zero]; first | refine wpList_nil ?_ | skip)
            obtain ⟨w5, hw5⟩ : ∃ w5, w5 = (wk.alloc (.cells #[.int .i64 af, .int .i64 ab, .int .i64 ah] 74)).drew := ⟨_, rfl⟩
            rw [← hw5]
            have HB5 := Lib.hid (show Below wk.heap.size wk w5 from hw5 ▸ (below_new _ _).drew)
            have hr5 : w5.heap[wk.heap.size]? = some (.cells #[.int .i64 af, .int .i64 ab, .int .i64 ah] 74 (0, 0)) := hw5 ▸ heap_alloc_new _ _
            clear hw5
            have c5 := cell_of_row w5 _ 1 _ _ _ hr5
            simp only [List.getElem?_toArray, List.getElem?_cons_zero, List.getElem?_cons_succ] at c5
            have HR5 := Lib.hid hr5
            clear hr5
            have HIT5 := Lib.hid ((HIT2.out.keep (w' := wk) (HBK.out.block _ HIT2.out.map.lt) (HBK.out.block _ HIT2.out.lt)).keep (w' := w5) (HB5.out.block _ (Nat.lt_of_lt_of_le HIT2.out.map.lt HBK.out.size)) (HB5.out.block _ (Nat.lt_of_lt_of_le HIT2.out.lt HBK.out.size)))
            by_cases hneg : n < 0
            · have hdn : decide (n < 0) = true := decide_eq_true hneg
              have hfree : decide (ab - ah - af < -n) = false := decide_eq_false (by have := HFR.out hneg; omega)
              clear hneg
              go_wp2_with (first
                | (refine wpList_load_rowG rfl 74 (.tmp 15) rfl wk.heap.size rfl 74 _ (0, 0) _ HR5.out Tryd.underlying74 rfl (by kernel_rfl) ?_)
                | (go_at_call 34; refine (free_any af ab ah HFB.out.1 HFB.out.2 _).mono ?_; rintro x w6 ⟨rfl, hb6⟩))
              go_roundg gf
              case measure => omega
              case rel => exact ⟨rfl, _, HIT5.out.keep (hb6.block _ (Nat.lt_of_lt_of_le (Nat.lt_of_lt_of_le HIT2.out.map.lt HBK.out.size) HB5.out.size)) (hb6.block _ (Nat.lt_of_lt_of_le (Nat.lt_of_lt_of_le HIT2.out.lt HBK.out.size) HB5.out.size)), by have := HLEN.out; have := HLA.out; omega, fun p hp => HSUB.out p (List.mem_filter.1 hp).1, bel2 (bel2 (bel2 HBN.out HBK.out) HB5.out) hb6⟩
            · have hdn : decide (n < 0) = false := decide_eq_false hneg
              clear hneg
              go_wp2
              go_roundg gf
              case measure => omega
              case rel => exact ⟨rfl, _, HIT5.out, by have := HLEN.out; have := HLA.out; omega, fun p hp => HSUB.out p (List.mem_filter.1 hp).1, bel2 (bel2 HBN.out HBK.out) HB5.out⟩
end Go.Proofs.YtpkiiegadckloaaDoor
