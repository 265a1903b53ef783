/- The walk of moved. -/
import Derived.Test.YtpkiiegadckloaaDoorMvd
set_option linter.unusedSimpArgs false
set_option linter.unusedVariables false
namespace Go.Proofs.YtpkiiegadckloaaDoor
open Go.RowKit

/-- Amounts that aren't too great. -/
def Small (ps : List Pst) : Prop := ∀ p ∈ ps, ∀ e ∈ p.ents, -1099511627776 ≤ e.amt ∧ e.amt ≤ 1099511627776

theorem fm_take {α β : Type} (l : List α) (f : α → List β) (k : Nat) : ((l.take k).flatMap f).length ≤ (l.flatMap f).length := by
  have : (l.flatMap f).length = ((l.take k).flatMap f ++ (l.drop k).flatMap f).length := by rw [← List.flatMap_append, List.take_append_drop]
  rw [this, List.length_append]
  omega
theorem toList_inj {a b : ByteArray} (h : a.toList = b.toList) : a = b := (MapKept.bytes_beq a b).1 (by rw [beq_toListBytes, h]; simp)

set_option maxRecDepth 100000 in
set_option maxHeartbeats 4000000 in
theorem moved_fn (f : Nat) (sg : Int) (hsg : sg = 1 ∨ sg = -1) (ef : ∀ args w, (callFunc f args).run Tryd.prog w = .ok (.enter f args) w) (hf : ∀ (n : Int) (w : World), Calls Tryd.prog f #[.int .i64 n] w fun x w' => x = .returned (.bool (decide (0 < n * sg))) ∧ w = w')
    (g : Nat) (ow : ByteArray) (na : Nat) (A : Key → Option Acc) (ps : List Pst) (hl : List (ByteArray × Value)) (S : Nat → Prop) (ac : ByteArray) (w : World) (h : LedAt w g ow na A ps hl S) (hfw : FewP ps) (hsm : Small ps) (hml : (movP ac sg ps).length ≤ 100000) :
    Calls Tryd.prog 22 #[.pointer (some ⟨g, 0, none⟩), .string ac, .func (.func f) #[] #[]] w fun x w' => ∃ v, x = .returned v ∧ w'.ownsRow w.heap.size 62 2 v (movP ac sg ps).length (mflat (movP ac sg ps)) ∧ Below w.heap.size w w' := by
  have H := Lib.hid h
  have HFW := Lib.hid hfw
  have HSM := Lib.hid hsm
  have HML := Lib.hid hml
  have HSG := Lib.hid hsg
  have HFF := Lib.hid hf
  clear h hfw hsm hml hsg hf
  go_enter Tryd.func22, Tryd.ntmps22
  go_wp2_with (first
    | (go_at_call 11; refine (Posts_any g ow na A ps hl S _ H.out HFW.out).mono ?_; rintro x w1 ⟨v, rfl, hp, hb1⟩
       obtain ⟨⟨pl, hpl, hrow, hent⟩⟩ := hp
       have HP1 := Lib.hid (PRx.mk hrow hent)
       have HB1 := Lib.hid hb1
       have HPL := Lib.hid hpl
       obtain ⟨A0, c0, rfl⟩ : ∃ A0 c0, v = .slice A0 pl.length c0 := by
         rcases hrow.2 with ⟨rfl, h0⟩ | ⟨b', cap, cur, rfl, _⟩
         · exact ⟨none, 0, by rw [h0]⟩
         · exact ⟨_, _, rfl⟩
       have hl63 : (pl.length : Int) ≤ 100000 := by
         have := HFW.out.1
         rw [← HPL.out] at this
         simp at this
         omega
       clear hpl hrow hent hb1))
  go_loopw [7, 15] (fun v i wr => ∃ k : Nat, k ≤ pl.length ∧ i = .int .i64 k ∧ wr.ownsRow w.heap.size 62 2 v (movP ac sg (ps.take k)).length (mflat (movP ac sg (ps.take k))) ∧ PRx wr w.heap.size (.slice A0 pl.length c0) pl ∧ Below w.heap.size w wr) (fun _ i _ => pl.length - (intOf i).toNat)
  case atStart => exact ⟨0, Nat.zero_le _, rfl, World.ownsRow_nil _ _ _ _, HP1.out, HB1.out⟩
  case round =>
    obtain ⟨k, hk, rfl, hv, hpr, hb⟩ := hrel
    have HV := Lib.hid hv
    have HPR := Lib.hid hpr
    have HB := Lib.hid hb
    by_cases hk2 : k < pl.length
    · have hk1 : (k : Int) < pl.length := by omega
      obtain ⟨p, hp⟩ : ∃ p, pl[k]? = some p := ⟨_, List.getElem?_eq_getElem hk2⟩
      have hpps : ps[k]? = some p.1 := by rw [← HPL.out, List.getElem?_map, hp]; rfl
      obtain ⟨e1, e2⟩ := HFW.out.2 p.1 (List.mem_of_getElem? hpps)
      obtain ⟨qe, ce, hpv, -, -⟩ := (hpr.ent p (List.mem_of_getElem? hp)).form e1
      obtain ⟨q, cq, hqv, -, -⟩ := hpr.row.form (by omega)
      obtain ⟨rfl, rfl⟩ : A0 = some ⟨q, 0, none⟩ ∧ cq = c0 := by
        injection hqv with h1 h2 h3
        exact ⟨h1, h3.symm⟩
      have he63 : (p.1.ents.length : Int) ≤ 100000 := by omega
      have HRG := Lib.hid (post_range hpr k hp)
      rw [hpv] at HRG
      have hql : q < wr.heap.size := (hpr.row.lt _ rfl).2
      have HPP := Lib.hid hpps
      have HPM := Lib.hid (List.mem_of_getElem? hp)
      have HPV := Lib.hid hpv
      have E1 := Lib.hid e1
      have E2 := Lib.hid e2
      clear hv hpr hb hp hpps e1 e2 hpv hqv
      go_wp2_with (first | (refine wpList_load_mid rfl 89 (.tmp 17) rfl q (k * 3) rfl [.int .i64 p.1.num, .string p.1.text, .slice (some ⟨qe, 0, none⟩) p.1.ents.length ce] _ HRG.out Tryd.underlying89 rfl (by kernel_rfl) ?_))
      obtain ⟨wy, hwy⟩ : ∃ wy, wy = wr.alloc (.cells #[.int .i64 p.1.num, .string p.1.text, .slice (some ⟨qe, 0, none⟩) p.1.ents.length ce] 89) := ⟨_, rfl⟩
      rw [← hwy]
      have hby : Below wr.heap.size wr wy := hwy ▸ below_new _ _
      have HBY := Lib.hid (bel2 HB.out hby)
      have HVY := Lib.hid (owns_keep HV.out hby)
      have HPY := Lib.hid (HPR.out.keepB hby)
      clear hwy hby
      go_loopw [7, 22] (fun v i wz => ∃ j : Nat, j ≤ p.1.ents.length ∧ i = .int .i64 j ∧ wz.ownsRow w.heap.size 62 2 v (movP ac sg (ps.take k) ++ movE ac sg (p.1.ents.take j)).length (mflat (movP ac sg (ps.take k) ++ movE ac sg (p.1.ents.take j))) ∧
        PRx wz w.heap.size (.slice (some ⟨q, 0, none⟩) pl.length cq) pl ∧ Below w.heap.size w wz) (fun _ i _ => p.1.ents.length - (intOf i).toNat)
      case atStart => exact ⟨0, Nat.zero_le _, rfl, by simpa [movE] using HVY.out, HPY.out, HBY.out⟩
      case round =>
        obtain ⟨j, hj, rfl, hv, hpr, hb⟩ := hrel
        by_cases hj2 : j < p.1.ents.length
        · have hj1 : (j : Int) < p.1.ents.length := by omega
          obtain ⟨e, he⟩ : ∃ e, en p.1.ents j = e := ⟨_, rfl⟩
          have hem : e ∈ p.1.ents := by
            rw [← he]
            simp only [en, List.getD_eq_getElem?_getD, List.getElem?_eq_getElem hj2, Option.getD_some]
            exact List.getElem_mem hj2
          have hent := hpr.ent p HPM.out
          rw [HPV.out] at hent
          have HE := Lib.hid (ent_range hent j hj2)
          rw [he] at HE
          obtain ⟨b1, b2⟩ := HSM.out p.1 (List.mem_of_getElem? HPP.out) e hem
          have hmv := movE_take ac sg p.1.ents j hj2
          rw [he] at hmv
          have hqe : qe < wr.heap.size := (hent.lt _ rfl).2
          have HMV := Lib.hid hmv
          have HV2 := Lib.hid hv
          have HP2 := Lib.hid hpr
          have HB2 := Lib.hid hb
          have HBA := Lib.hid (And.intro b1 b2)
          clear hv hpr hb hem hent hmv he b1 b2
          by_cases hac : e.acct.toList = ac.toList
          · have HAC := Lib.hid (toList_inj hac)
            by_cases hpos : 0 < e.amt * sg
            · obtain ⟨m, hm⟩ : ∃ m, m = e.amt * sg := ⟨_, rfl⟩
              have HYES := Lib.hid (show mov1 ac sg e = [(e.cur, m)] by unfold mov1; rw [if_pos ⟨HAC.out, hpos⟩, hm])
              have hdd : decide (0 < e.amt * sg) = true := decide_eq_true hpos
              have hwn : IntKind.i64.wrap (-e.amt) = -e.amt := IntWalk.i64_in _ (by have := HBA.out; omega)
              obtain ⟨i0, hi0, hz0, hz1, hz2⟩ := info_parts info62
              have HI := Lib.hid (And.intro hi0 (And.intro hz0 (And.intro hz1 hz2)))
              clear hi0 hz0 hz1 hz2
              have hlen : (movP ac sg (ps.take k) ++ movE ac sg (p.1.ents.take j)).length ≤ 100000 := by
                have h1 := fm_take p.1.ents (mov1 ac sg) j
                have h2 := fm_take ps (fun p => movE ac sg p.ents) (k + 1)
                have h3 := congrArg List.length (movP_take ac sg ps k p.1 HPP.out)
                have h4 := HML.out
                simp only [movP, movE, List.length_append] at h1 h2 h3 h4 ⊢
                omega
              have HLE := Lib.hid hlen
              clear hlen
              have hb1 := below_new wr (.cells #[.string e.acct, .string e.cur, .int .i64 e.amt] 57)
              have hb2 := below_new (wr.alloc (.cells #[.string e.acct, .string e.cur, .int .i64 e.amt] 57)) (.cells #[.string e.cur, .int .i64 m] 62)
              have HO := Lib.hid (owns_keep HV2.out (bel2 hb1 hb2))
              have HPB := Lib.hid (HP2.out.keepB (bel2 hb1 hb2))
              have HBB := Lib.hid (bel2 HB2.out (bel2 hb1 hb2))
              have HNW := Lib.hid (show ((wr.alloc (.cells #[.string e.acct, .string e.cur, .int .i64 e.amt] 57)).alloc (.cells #[.string e.cur, .int .i64 m] 62)).heap[wr.heap.size + 1]? = some (.cells #[.string e.cur, .int .i64 m] 62 (0, 0)) by
                have := heap_alloc_new (wr.alloc (.cells #[.string e.acct, .string e.cur, .int .i64 e.amt] 57)) (.cells #[.string e.cur, .int .i64 m] 62)
                simpa using this)
              clear hb1 hb2
              have HSGm := Lib.hid (show (m = e.amt ∧ 0 < e.amt) ∨ (m = -e.amt ∧ e.amt < 0) by rcases HSG.out with h | h <;> rw [h] at hm hpos <;> omega)
              clear hm
              rcases HSGm.out with ⟨h1, h2⟩ | ⟨h1, h2⟩
              all_goals (subst h1)
              all_goals (try clear hpos)
              all_goals go_wp2_with (first
                | (refine wpList_load_mid rfl 57 (.tmp 24) rfl qe (j * 3) rfl [.string e.acct, .string e.cur, .int .i64 e.amt] _ HE.out Tryd.underlying57 rfl (by kernel_rfl) ?_)
                | (go_at_fn f; refine (HFF.out _ _).mono ?_; rintro x w4 ⟨rfl, rfl⟩)
                | (refine wpList_append_lies _ rfl (.tmp 36) (.tmp 46) 58 rfl w.heap.size 62 i0 _ 2 24 Tryd.underlying58 HI.out.1 HI.out.2.1 HI.out.2.2.1 HI.out.2.2.2 rfl (by omega) u7 _ _ rfl HO.out ⟨wr.heap.size + 1, 0, none⟩ 1 1 (mflat [(e.cur, _)]) rfl rfl
                    (fun j u hu => by rw [Addr.add_mid, Nat.zero_add, cell_of_row _ _ j _ _ _ HNW.out]; simpa [mflat] using hu) (mflat_one _) (by omega) (by have := HLE.out; unfold maxLen; omega) (by have := HLE.out; omega) HBB.out.size _ rfl ?_
                   rintro gq cap w5 ho hg - -
                   have HO5 := Lib.hid ho
                   have HG5 := Lib.hid hg
                   clear ho hg))
              all_goals go_roundw
              all_goals first
                | (case measure => simp [intOf]; omega)
                | skip
              all_goals
                refine ⟨j + 1, by omega, by go_num, ?_, HPB.out.keepG HO.out HG5.out, HBB.out.trans ⟨HG5.out.os, HG5.out.tape, HG5.out.output, HG5.out.size, fun i hi => HG5.out.block i (by have := HBB.out.size; omega) (fun e => by have := (HO.out.lt i e.symm).1; omega)⟩⟩
                rw [HMV.out, HYES.out, ← List.append_assoc, mflat_app]
                have h5 := HO5.out
                simp only [List.length_append, List.length_cons, List.length_nil, Nat.zero_add] at h5 ⊢
                exact h5
            · have HNO := Lib.hid (show mov1 ac sg e = [] by unfold mov1; rw [if_neg (fun h => hpos h.2)])
              have hdd : decide (0 < e.amt * sg) = false := decide_eq_false hpos
              clear hpos
              go_wp2_with (first
                | (refine wpList_load_mid rfl 57 (.tmp 24) rfl qe (j * 3) rfl [.string e.acct, .string e.cur, .int .i64 e.amt] _ HE.out Tryd.underlying57 rfl (by kernel_rfl) ?_)
                | (go_at_fn f; refine (HFF.out _ _).mono ?_; rintro x w4 ⟨rfl, rfl⟩))
              go_roundw
              case measure => simp [intOf]; omega
              case rel =>
                have hbz := below_new wr (.cells #[.string e.acct, .string e.cur, .int .i64 e.amt] 57)
                refine ⟨j + 1, by omega, by go_num, ?_, HP2.out.keepB hbz, bel2 HB2.out hbz⟩
                rw [HMV.out, HNO.out, List.append_nil]
                exact owns_keep HV2.out hbz
          · have HNO := Lib.hid (show mov1 ac sg e = [] by unfold mov1; rw [if_neg (fun h => hac (by rw [h.1]))])
            go_wp2_with (first | (refine wpList_load_mid rfl 57 (.tmp 24) rfl qe (j * 3) rfl [.string e.acct, .string e.cur, .int .i64 e.amt] _ HE.out Tryd.underlying57 rfl (by kernel_rfl) ?_))
            go_roundw
            case measure => simp [intOf]; omega
            case rel =>
              have hbz := below_new wr (.cells #[.string e.acct, .string e.cur, .int .i64 e.amt] 57)
              refine ⟨j + 1, by omega, by go_num, ?_, HP2.out.keepB hbz, bel2 HB2.out hbz⟩
              rw [HMV.out, HNO.out, List.append_nil]
              exact owns_keep HV2.out hbz
        · have hj1 : ¬ (j : Int) < p.1.ents.length := by omega
          have hje : j = p.1.ents.length := by omega
          rw [hje, List.take_length, ← movP_take ac sg ps k p.1 HPP.out] at hv
          have HVZ := Lib.hid hv
          have HPZ := Lib.hid hpr
          have HBZ := Lib.hid hb
          clear hv hpr hb hje hj2 hj
          go_wp2
          go_roundw
          case measure => simp [intOf]; omega
          case rel => exact ⟨k + 1, by omega, by go_num, HVZ.out, HPZ.out, HBZ.out⟩
    · have hk1 : ¬ (k : Int) < pl.length := by omega
      have hkl : k = ps.length := by rw [← HPL.out]; simp; omega
      rw [hkl, List.take_length] at hv
      have HVZ := Lib.hid hv
      have HBZ := Lib.hid hb
      clear hv hpr hb hkl hk2 hk
      go_wp2
      go_returns
      exact ⟨_, rfl, HVZ.out, HBZ.out⟩
end Go.Proofs.YtpkiiegadckloaaDoor
