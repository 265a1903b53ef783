/- Credits, by its maps. -/
import Derived.Test.YtpkiiegadckloaaDoorTkl
import Derived.Test.YtpkiiegadckloaaDoorRcr
set_option linter.unusedSimpArgs false
set_option linter.unusedVariables false
namespace Go.Proofs.YtpkiiegadckloaaDoor
open Go.RowKit

theorem PRx.keepM {w w' : World} {n0 m : Nat} {v : Value} {pl : List (Pst × Value)} (h : PRx w n0 v pl) (hg : w.grownBy w' (some m)) (hm : m < n0) : PRx w' n0 v pl :=
  ⟨World.ownsRow.kept h.row hg (Or.inr (fun e => by have := (h.row.lt m e).1; omega)), fun p hp => World.ownsRow.kept (h.ent p hp) hg (Or.inr (fun e => by have := ((h.ent p hp).lt m e).1; omega))⟩
/-- Three maps. -/
structure M3 (w : World) (a b c : Nat) (lt li lh : List (ByteArray × Value)) : Prop where
  ta : MapAt es w a lt
  ia : MapAt es w b li
  ha : MapAt es w c lh
theorem M3.keepB {w w' : World} {a b c : Nat} {lt li lh : List (ByteArray × Value)} (h : M3 w a b c lt li lh) (hb : Below w.heap.size w w') : M3 w' a b c lt li lh :=
  ⟨h.ta.keep (hb.block a h.ta.lt), h.ia.keep (hb.block b h.ia.lt), h.ha.keep (hb.block c h.ha.lt)⟩
theorem below_put {w w' : World} {n m : Nat} (hg : w.grownBy w' (some m)) (hn : n ≤ w.heap.size) (hm : n ≤ m) : Below n w w' :=
  ⟨hg.os, hg.tape, hg.output, hg.size, fun i hi => hg.block i (by omega) (fun e => by have := Option.some.inj e; omega)⟩

theorem line_put (n bl : Nat) (X : List ByteArray) (nm id tw ln : ByteArray) (w : World) (hj : joinW [nm, id, tw] = ln) (hln : ln.size ≤ 140737488355328) (h : LinAt w n bl X) (hn : n ≤ w.heap.size) (hbl : bl < w.heap.size) (hX : X.length ≤ 100000) :
    Calls Tryd.prog 39 #[.pointer (some ⟨bl, 0, none⟩), .slice (some ⟨w.heap.size, 0, none⟩) 3 3] (w.alloc (.cells #[.string nm, .string id, .string tw] 9)) fun r w' => r = .returned (.tuple #[]) ∧ LinAt w' n bl (X ++ [ln]) ∧ Chg (fun k => k = bl ∨ n ≤ k) w w' := by
  have hb := below_new w (.cells #[.string nm, .string id, .string tw] 9)
  refine (lput_any n bl w.heap.size 3 X [nm, id, tw] _ (h.keepB hb) (World.ownsRow_lit (base := n) (e := 9) (size := 1) w #[.string nm, .string id, .string tw] 3 hn (by unfold maxLen; omega) rfl) (by omega) (fun v hv e => ?_) hX (by simp) (by simp) ?_ (Nat.le_trans hn hb.size)).mono ?_
  · obtain ⟨⟨v0, h1, h2⟩⟩ := h
    rw [hb.block bl hbl, h1] at hv
    cases hv
    have := (h2.lt _ e).2
    omega
  · have : (joinW [nm, id, tw]).size ≤ 140737488355328 := by rw [hj]; exact hln
    unfold joinW at this
    simpa [ByteArray.size] using this
  · rintro r w' ⟨rfl, h1, h2⟩
    rw [hj] at h1
    exact ⟨rfl, h1, (Chg.of_below (S := fun k => k = bl ∨ n ≤ k) hb).trans (T := fun k => k = bl ∨ n ≤ k) h2 (fun i hi => Or.inl hi)⟩
theorem M3.keepC {w w' : World} {a n bl : Nat} {lt li lh : List (ByteArray × Value)} (h : M3 w a (a + 1) (a + 1 + 1) lt li lh) (hc : Chg (fun k => k = bl ∨ n ≤ k) w w') (h1 : a + 1 + 1 < bl) (h2 : a + 1 + 1 < n) : M3 w' a (a + 1) (a + 1 + 1) lt li lh :=
  ⟨h.ta.keep (hc.block h.ta.lt (by omega)), h.ia.keep (hc.block h.ia.lt (by omega)), h.ha.keep (hc.block h.ha.lt (by omega))⟩
theorem lnT_size (nm id : ByteArray) : (lnT nm id).size = nm.size + id.size + 7 := by
  unfold lnT
  simp only [ByteArray.size_append]
  have e1 : sSp.size = 1 := by decide
  have e2 : sTw.size = 6 := by decide
  omega
theorem lnB_size (nm id : ByteArray) : (lnB nm id).size = nm.size + id.size + 6 := by
  unfold lnB
  simp only [ByteArray.size_append]
  have e1 : sSp.size = 1 := by decide
  have e2 : sBo.size = 5 := by decide
  omega

set_option maxRecDepth 100000 in
set_option maxHeartbeats 4000000 in
theorem Credits_any (nm : ByteArray) (g : Nat) (ow : ByteArray) (na : Nat) (A : Key → Option Acc) (ps : List Pst) (hl : List (ByteArray × Value)) (S : Nat → Prop) (w : World) (h : LedAt w g ow na A ps hl S) (hok : PsOK ps) (hlen : ps.length ≤ 1000)
    (hho : HOK hl) (hhl : hl.length ≤ 1000) (hnm : nm.size ≤ 140737488351232) :
    Calls Tryd.prog 17 #[.string nm, .pointer (some ⟨g, 0, none⟩)] w fun x w' => ∃ u, x = .returned u ∧ SRow w' w.heap.size u (crL nm ps (hl.map (·.1)) (idsC ps)) ∧ Below w.heap.size w w' := by
  have hfew : FewP ps := ⟨by omega, fun p hp => by rw [(hok p hp).2]; omega⟩
  have HL := Lib.hid h
  have HOKP := Lib.hid hok
  have HLE := Lib.hid hlen
  have HHO := Lib.hid hho
  have HHL := Lib.hid hhl
  have HNM := Lib.hid hnm
  have HFW := Lib.hid hfew
  clear h hok hlen hho hhl hnm hfew
  have m86 := fun W => made_map 86 W
  have m87 := fun W => made_map 87 W
  go_enter Tryd.func17, Tryd.ntmps17
  go_wp2_with fail
  obtain ⟨a, ha⟩ : ∃ a, a = w.heap.size := ⟨_, rfl⟩
  obtain ⟨w1, hw1⟩ : ∃ w1, w1 = ((w.alloc (.map #[] 0)).alloc (.map #[] 0)).alloc (.map #[] 0) := ⟨_, rfl⟩
  rw [← hw1, ← ha]
  have b1 : Below w.heap.size w w1 := hw1 ▸ bel2 (bel2 (below_new _ _) (below_new _ _)) (below_new _ _)
  have HM := Lib.hid (show M3 w1 a (a + 1) (a + 1 + 1) [] [] [] by
    have e1 := MapAt.made (enc := es) w
    have e2 := MapAt.made (enc := es) (w.alloc (.map #[] 0))
    have e3 := MapAt.made (enc := es) ((w.alloc (.map #[] 0)).alloc (.map #[] 0))
    rw [hw1, ha]
    exact ⟨(e1.keep ((below_new _ _).block _ e1.lt)).keep ((below_new _ _).block _ (by simp; omega)), (show w.heap.size + 1 = (w.alloc (.map #[] 0)).heap.size by simp) ▸ e2.keep ((below_new _ _).block _ e2.lt), (show w.heap.size + 1 + 1 = ((w.alloc (.map #[] 0)).alloc (.map #[] 0)).heap.size by simp) ▸ e3⟩)
  have HS1 := Lib.hid (show w1.heap.size = a + 3 by rw [hw1, ha]; simp)
  have HA := Lib.hid ha
  have HB1 := Lib.hid b1
  clear hw1 b1 ha m86 m87
  refine (Posts_any g ow na A ps hl S w1 (HL.out.keepB HB1.out) HFW.out).mono ?_
  rintro x w2 ⟨v, rfl, hp, hb⟩
  obtain ⟨⟨pl, hpl, hrow, hent⟩⟩ := hp
  have HP2 := Lib.hid (PRx.mk hrow hent)
  have HPL := Lib.hid hpl
  obtain ⟨A0, c0, rfl⟩ : ∃ A0 c0, v = .slice A0 pl.length c0 := by
    rcases hrow.2 with ⟨rfl, h0⟩ | ⟨b', cap, cur, rfl, _⟩
    · exact ⟨none, 0, by rw [h0]⟩
    · exact ⟨_, _, rfl⟩
  have hplen : pl.length = ps.length := by rw [← hpl]; simp
  have HLN := Lib.hid hplen
  have hl63 : (pl.length : Int) ≤ 1000 := by have := HLE.out; omega
  have HM2 := Lib.hid (HM.out.keepB hb)
  have HB2 := Lib.hid (bel2 HB1.out hb)
  clear hpl hrow hent hb hplen
  go_wp2_with fail
  go_loopw [23] (fun i wr => ∃ (k : Nat) (lt li : List (ByteArray × Value)), k ≤ pl.length ∧ i = .int .i64 k ∧ M3 wr a (a + 1) (a + 1 + 1) lt li [] ∧ TkOK lt (ps.take k) ∧ IdOK li (ps.take k) ∧ PRx wr w1.heap.size (.slice A0 pl.length c0) pl ∧ Below w.heap.size w wr) (fun i _ => pl.length - (intOf i).toNat)
  case atStart => exact ⟨0, [], [], Nat.zero_le _, rfl, HM2.out, TkOK.nil, IdOK.nil, HP2.out, HB2.out⟩
  case round =>
    obtain ⟨k, lt, li, hk, rfl, hm, htk, hik, hpr, hb⟩ := hrel
    have HM3 := Lib.hid hm
    have HTK := Lib.hid htk
    have HIK := Lib.hid hik
    have HPR := Lib.hid hpr
    have HB := Lib.hid hb
    by_cases hk2 : k < pl.length
    · have hk1 : (k : Int) < pl.length := by omega
      obtain ⟨p, hp⟩ : ∃ p, pl[k]? = some p := ⟨_, List.getElem?_eq_getElem hk2⟩
      have hpps : ps[k]? = some p.1 := by rw [← HPL.out, List.getElem?_map, hp]; rfl
      obtain ⟨q, cq, hqv, -, -⟩ := hpr.row.form (by omega)
      obtain ⟨rfl, rfl⟩ : A0 = some ⟨q, 0, none⟩ ∧ cq = c0 := by
        injection hqv with h1 h2 h3
        exact ⟨h1, h3.symm⟩
      have HRG := Lib.hid (post_range hpr k hp)
      have hql : q < wr.heap.size := (hpr.row.lt _ rfl).2
      obtain ⟨⟨id, hu, htx⟩, he2⟩ := HOKP.out p.1 (List.mem_of_getElem? hpps)
      obtain ⟨qe, ce, hpv, -, -⟩ := (hpr.ent p (List.mem_of_getElem? hp)).form (by rw [he2]; omega)
      rw [hpv, htx] at HRG
      have HPP := Lib.hid hpps
      have HU := Lib.hid hu
      have HTX := Lib.hid htx
      obtain ⟨e1, e2⟩ := cut_take hu
      obtain ⟨tx, htx2⟩ : ∃ tx, tx = sTake ++ id := ⟨_, rfl⟩
      rw [← htx2] at HRG e1 e2
      clear hm htk hik hpr hb hp hpps hqv hu htx he2 hpv htx2
      go_wp2_with (first | (refine wpList_load_mid rfl 89 (.tmp 25) rfl q (k * 3) rfl [.int .i64 p.1.num, .string tx, .slice (some ⟨qe, 0, none⟩) p.1.ents.length ce] _ HRG.out Tryd.underlying89 rfl (by kernel_rfl) ?_))
      obtain ⟨wy, hwy⟩ : ∃ wy, wy = wr.alloc (.cells #[.int .i64 p.1.num, .string tx, .slice (some ⟨qe, 0, none⟩) p.1.ents.length ce] 89) := ⟨_, rfl⟩
      rw [← hwy]
      have hby : Below wr.heap.size wr wy := hwy ▸ below_new _ _
      have HM4 := Lib.hid (HM3.out.keepB hby)
      have HP4 := Lib.hid (HPR.out.keepB hby)
      have HB4 := Lib.hid (bel2 HB.out hby)
      clear hwy hby
      refine (Tryd.strings_CutPrefix tx sTake wy).mono ?_
      rintro x w5 ⟨rfl, h5⟩
      subst w5
      rw [e1, e2]
      by_cases hd : D12 id
      · have p1 := pre_yes hd
        have HD := Lib.hid hd
        clear hd e1 e2
        go_wp2_with fail
        refine (Tryd.strings_HasPrefix id sCr wy).mono ?_
        rintro x w5 ⟨rfl, h5⟩
        subst w5
        rw [p1]
        obtain ⟨cn, hcn⟩ : ∃ cn, cn = cntC (ps.take k) id := ⟨_, rfl⟩
        have hcw : (cn : Int) ≤ 1000 := by
          have := cntC_le (ps.take k) id
          rw [List.length_take] at this
          have := HLE.out
          omega
        have hr1 := run_look (c := false) klStr HM4.out.ta (T := 86) (E := 3) Tryd.underlying86 (z := .int .i64 0) (by go_simp) id
        rw [HTK.out.look HD.out, ← hcn] at hr1
        have HCN := Lib.hid hcn
        have hwr : IntKind.i64.wrap ((cn : Int) + 1) = (cn : Int) + 1 := IntWalk.i64_in _ (by omega)
        obtain ⟨w6, hr2, hm6, hg6, -⟩ := run_put klStr HM4.out.ta (T := 86) (E := 3) Tryd.underlying86 id (.int .i64 ((cn : Int) + 1))
        have hi6 := HM4.out.ia.keep (hg6.block (a + 1) HM4.out.ia.lt (fun e => by have := Option.some.inj e; omega))
        have hh6 := HM4.out.ha.keep (hg6.block (a + 1 + 1) HM4.out.ha.lt (fun e => by have := Option.some.inj e; omega))
        obtain ⟨w7, hr3, hm7, hg7, -⟩ := run_put klStr hi6 (T := 87) (E := 4) Tryd.underlying87 id (.bool true)
        have HM7 := Lib.hid (M3.mk (hm6.keep (hg7.block a hm6.lt (fun e => by have := Option.some.inj e; omega))) hm7 (hh6.keep (hg7.block (a + 1 + 1) hh6.lt (fun e => by have := Option.some.inj e; omega))))
        have HP7 := Lib.hid ((HP4.out.keepM hg6 (by have := HS1.out; omega)).keepM hg7 (by have := HS1.out; omega))
        have HB7 := Lib.hid ((HB4.out.trans (below_put hg6 HB4.out.size (by have := HA.out; omega))).trans (below_put hg7 (Nat.le_trans HB4.out.size hg6.size) (by have := HA.out; omega)))
        simp only [es, Bool.false_eq_true, if_false] at hr1 hr2 hr3
        clear hcn hm6 hg6 hi6 hh6 hm7 hg7 p1
        go_wp2_with fail
        go_roundw
        case measure => simp [intOf]; omega
        case rel =>
          refine ⟨k + 1, _, _, by omega, by go_num, HM7.out, ?_, HIK.out.put HPP.out HU.out HD.out HTX.out, HP7.out, HB7.out⟩
          rw [HCN.out]
          exact HTK.out.put HPP.out HU.out HD.out HTX.out
      · have p1 := pre_no HU.out hd
        have HD := Lib.hid hd
        clear hd e1 e2
        go_wp2_with fail
        refine (Tryd.strings_HasPrefix id sCr wy).mono ?_
        rintro x w5 ⟨rfl, h5⟩
        subst w5
        rw [p1]
        clear p1
        go_wp2_with fail
        go_roundw
        case measure => simp [intOf]; omega
        case rel => exact ⟨k + 1, lt, li, by omega, by go_num, HM4.out, HTK.out.skip HPP.out HU.out HD.out HTX.out, HIK.out.skip HPP.out HU.out HD.out HTX.out, HP4.out, HB4.out⟩
    · have hk1 : ¬ (k : Int) < pl.length := by omega
      have hkl : ps.take k = ps := by rw [show k = ps.length by have := HLN.out; omega]; exact List.take_length
      rw [hkl] at htk hik
      have HTK := Lib.hid htk
      have HIK := Lib.hid hik
      obtain ⟨wz, rfl⟩ : ∃ x, x = wr := ⟨_, rfl⟩
      clear hm htk hik hpr hb hkl hk hk2
      go_wp2_with fail
      refine (Holds_any g ow na A ps hl S wz (HL.out.keepB HB.out) HHO.out (by have := HHL.out; omega)).mono ?_
      rintro x w5 ⟨v, rfl, ⟨hs, hr5, hp5⟩, hb5⟩
      have HH5 := Lib.hid hr5
      have HPM := Lib.hid hp5
      have HM5 := Lib.hid (HM3.out.keepB hb5)
      have HB5 := Lib.hid (bel2 HB.out hb5)
      have HSZ := Lib.hid hb5.size
      have hsl : hs.length ≤ 1000 := by
        have := hp5.length_eq
        simp at this
        have := HHL.out
        omega
      have hs63 : (hs.length : Int) ≤ 1000 := by omega
      obtain ⟨Ah, ch, rfl⟩ : ∃ Ah ch, v = .slice Ah hs.length ch := by
        rcases hr5.2 with ⟨rfl, h0⟩ | ⟨b', cap, cur, rfl, _⟩
        · exact ⟨none, 0, by rw [h0]⟩
        · exact ⟨_, _, rfl⟩
      clear hr5 hp5 hb5 hsl
      go_wp2_with fail
      go_loopw [48] (fun i wr => ∃ (k : Nat) (lh : List (ByteArray × Value)), k ≤ hs.length ∧ i = .int .i64 k ∧ M3 wr a (a + 1) (a + 1 + 1) lt li lh ∧ HdOK lh ((hs.map (·.1)).take k) ∧ wr.ownsRow wz.heap.size 79 4 (.slice Ah hs.length ch) hs.length (hflat hs) ∧ Below w.heap.size w wr) (fun i _ => hs.length - (intOf i).toNat)
      case atStart => exact ⟨0, [], Nat.zero_le _, rfl, HM5.out, HdOK.nil, HH5.out, HB5.out⟩
      case round =>
        obtain ⟨wq, rfl⟩ : ∃ x, x = wr := ⟨_, rfl⟩
        obtain ⟨k, lh, hk, rfl, hm, hhd, hrow, hb⟩ := hrel
        by_cases hk2 : k < hs.length
        · have hk1 : (k : Int) < hs.length := by omega
          obtain ⟨hh, hhe⟩ : ∃ hh, hs[k]? = some hh := ⟨_, List.getElem?_eq_getElem hk2⟩
          obtain ⟨q, cq, hqv, -, -⟩ := hrow.form (by omega)
          obtain ⟨rfl, rfl⟩ : Ah = some ⟨q, 0, none⟩ ∧ cq = ch := by
            injection hqv with h1 h2 h3
            exact ⟨h1, h3.symm⟩
          have hrg : wq.rangeAt q (k * 4) [.string hh.1, .string sAa, .string sEur, .int .i64 hh.2] := fun j v hv => by
            have hj : j < 4 := by
              have := (List.getElem?_eq_some_iff.1 hv).1
              simpa using this
            rw [hrow.cellAt (k * 4 + j) (by omega), hflat_at hs k j hh hhe hj]
            simpa using hv
          have hql : q < wq.heap.size := (hrow.lt _ rfl).2
          have hpm : (hs.map (·.1))[k]? = some hh.1 := by rw [List.getElem?_map, hhe]; rfl
          have HPUT := Lib.hid (hhd.put hpm)
          obtain ⟨id, n⟩ := hh
          simp only at hrg HPUT
          have HRG := Lib.hid hrg
          obtain ⟨wy, hwy⟩ : ∃ wy, wy = wq.alloc (.cells #[.string id, .string sAa, .string sEur, .int .i64 n] 79) := ⟨_, rfl⟩
          have hby : Below wq.heap.size wq wy := hwy ▸ below_new _ _
          have hm' := hm.keepB hby
          obtain ⟨w7, hr3, hm7, hg7, -⟩ := run_put klStr hm'.ha (T := 87) (E := 4) Tryd.underlying87 id (.bool true)
          have HM7 := Lib.hid (M3.mk (hm'.ta.keep (hg7.block a hm'.ta.lt (fun e => by have := Option.some.inj e; omega))) (hm'.ia.keep (hg7.block (a + 1) hm'.ia.lt (fun e => by have := Option.some.inj e; omega))) hm7)
          have HR7 := Lib.hid (World.ownsRow.kept (owns_keep hrow hby) hg7 (Or.inr (fun e => by have := (hrow.lt _ e).1; have := HM3.out.ha.lt; omega)))
          have HB7 := Lib.hid ((bel2 hb hby).trans (below_put hg7 (Nat.le_trans hb.size hby.size) (by have := HA.out; omega)))
          rw [hwy] at hr3
          simp only [es] at hr3
          clear hm hhd hrow hb hrg hpm hhe hqv hwy hby hm' hm7 hg7 hk hk2
          go_wp2_with (first | (refine wpList_load_mid rfl 79 (.tmp 50) rfl q (k * 4) rfl [.string id, .string sAa, .string sEur, .int .i64 n] _ HRG.out Tryd.underlying79 rfl (by kernel_rfl) ?_))
          go_roundw
          case measure => simp [intOf]; omega
          case rel => exact ⟨k + 1, _, by omega, by go_num, HM7.out, HPUT.out, HR7.out, HB7.out⟩
        · have hk1 : ¬ (k : Int) < hs.length := by omega
          have hkl : (hs.map (·.1)).take k = hs.map (·.1) := by rw [show k = (hs.map (·.1)).length by simp; omega]; exact List.take_length
          rw [hkl] at hhd
          have HHD := Lib.hid hhd
          have HMq := Lib.hid hm
          have HBq := Lib.hid hb
          clear hm hhd hrow hb hkl hk hk2
          go_wp2_with fail
          obtain ⟨w8, hw8⟩ : ∃ w8, w8 = wq.alloc (.cells #[.slice none 0 0] 93) := ⟨_, rfl⟩
          obtain ⟨bl, hbl⟩ : ∃ bl, bl = wq.heap.size := ⟨_, rfl⟩
          rw [← hw8, ← hbl]
          have hb8 : Below wq.heap.size wq w8 := hw8 ▸ below_new _ _
          have HM8 := Lib.hid (HMq.out.keepB hb8)
          have HBL8 := Lib.hid (show w8.heap[bl]? = some (.cells #[.slice none 0 0] 93 (0, 0)) from by rw [hw8, hbl]; exact heap_alloc_new _ _)
          have HB8 := Lib.hid (bel2 HBq.out hb8)
          have HS8 := Lib.hid (show w8.heap.size = bl + 1 by rw [hw8, hbl]; simp)
          have HWBL := Lib.hid (show w.heap.size ≤ bl by rw [hbl]; exact HBq.out.size)
          have HABL := Lib.hid (show a + 1 + 1 < bl by rw [hbl]; exact HMq.out.ha.lt)
          have hperm := HIK.out.perm HM8.out.ia.nodup
          have HPE := Lib.hid hperm
          clear hw8 hbl hb8
          refine (sorted_any (a + 1) li w8 HM8.out.ia (by have := hperm.length_eq; rw [List.length_map] at this; have := idsN_len (cntC ps sD1) (cntC ps sD2); unfold idsC at *; omega) (fun p hp => by
            have : p.1 ∈ idsC ps := hperm.mem_iff.1 (List.mem_map.2 ⟨p, hp, rfl⟩)
            rcases idsN_mem this with h | h <;> rw [h] <;> decide)).mono ?_
          rintro x w9 ⟨v, rfl, ⟨ls, hr9, hp9, hrs9⟩, hb9⟩
          have hls : ls = idsC ps := risen_ids (hp9.trans hperm) hrs9
          have HLS := Lib.hid hls
          obtain ⟨A9, c9, rfl⟩ := SRow.slice hr9
          have HR9 := Lib.hid hr9
          have HM9 := Lib.hid (HM8.out.keepB hb9)
          have HB9 := Lib.hid (bel2 HB8.out hb9)
          have HIB := Lib.hid (show ∀ b, (Value.slice A9 ls.length c9).ownBlock = some b → bl < b ∧ b < w9.heap.size from fun b hb => by
            have := hr9.lt b hb
            have := HS8.out
            omega)
          have HLI := Lib.hid (show LinAt w9 w9.heap.size bl (crL nm ps (hs.map (·.1)) (ls.take 0)) from ⟨⟨_, (hb9.block bl (by have := HS8.out; omega)).trans HBL8.out, SRow.nil _ _⟩⟩)
          have HBLN := Lib.hid (show bl < w9.heap.size by have := HS8.out; have := hb9.size; omega)
          have hls2 : (ls.length : Int) ≤ 2 := by
            have := idsN_len (cntC ps sD1) (cntC ps sD2)
            rw [hls]
            unfold idsC
            omega
          clear hperm hr9 hp9 hrs9 hls hb9
          go_wp2_with fail
          go_loopw [59] (fun i wr => ∃ k : Nat, k ≤ ls.length ∧ i = .int .i64 k ∧ LinAt wr w9.heap.size bl (crL nm ps (hs.map (·.1)) (ls.take k)) ∧ M3 wr a (a + 1) (a + 1 + 1) lt li lh ∧ SRow wr w8.heap.size (.slice A9 ls.length c9) ls ∧ w9.heap.size ≤ wr.heap.size ∧ Below w.heap.size w wr) (fun i _ => ls.length - (intOf i).toNat)
          case atStart => exact ⟨0, Nat.zero_le _, rfl, HLI.out, HM9.out, HR9.out, Nat.le_refl _, HB9.out⟩
          case round =>
            obtain ⟨wx, rfl⟩ : ∃ x, x = wr := ⟨_, rfl⟩
            obtain ⟨k, hk, rfl, hli, hm, hrow, hsz, hb⟩ := hrel
            by_cases hk2 : k < ls.length
            · have hk1 : (k : Int) < ls.length := by omega
              obtain ⟨id, hid⟩ : ∃ id, ls[k]? = some id := ⟨_, List.getElem?_eq_getElem hk2⟩
              have hidm : D12 id := idsN_mem (show id ∈ idsN (cntC ps sD1) (cntC ps sD2) by have := List.mem_of_getElem? hid; rw [HLS.out] at this; exact this)
              have hidz : id.size = 9 := by rcases hidm with rfl | rfl <;> decide
              obtain ⟨q, cq, hqv, -, -⟩ := World.ownsRow.form hrow (by omega)
              obtain ⟨rfl, rfl⟩ : A9 = some ⟨q, 0, none⟩ ∧ cq = c9 := by
                injection hqv with h1 h2 h3
                exact ⟨h1, h3.symm⟩
              have c1 := World.ownsRow.cellAt hrow k (by omega)
              rw [List.getElem?_map, hid] at c1
              simp only [Option.map_some, es] at c1
              have hql : q < wx.heap.size := (World.ownsRow.lt hrow _ rfl).2
              have hr1 := run_look (c := false) klStr hm.ta (T := 86) (E := 3) Tryd.underlying86 (z := .int .i64 0) (by go_simp) id
              obtain ⟨cn, hcn⟩ : ∃ cn, cn = cntC ps id := ⟨_, rfl⟩
              rw [HTK.out.look hidm, ← hcn] at hr1
              simp only [es, Bool.false_eq_true, if_false] at hr1
              have HCN := Lib.hid hcn
              have htk9 := crL_take nm ps (hs.map (·.1)) ls k id hid
              obtain ⟨X, hX⟩ : ∃ X, X = crL nm ps (hs.map (·.1)) (ls.take k) := ⟨_, rfl⟩
              rw [← hX] at htk9 hli
              have hlx : X.length ≤ 4 := by rw [hX]; have := crL_len nm ps (hs.map (·.1)) (ls.take k); rw [List.length_take] at this; omega
              obtain ⟨X2, hX2⟩ : ∃ X2, X2 = X ++ crT nm ps id := ⟨_, rfl⟩
              rw [← hX2] at htk9
              have HTK9 := Lib.hid htk9
              have HLX2 := Lib.hid (show X2.length ≤ 5 by
                rw [hX2, List.length_append]
                have : (crT nm ps id).length ≤ 1 := by unfold crT; split <;> simp
                omega)
              have HLI9 := Lib.hid hli
              have HM := Lib.hid hm
              have HI := Lib.hid hrow
              have HN := Lib.hid hsz
              have HBx := Lib.hid hb
              have HX2E := Lib.hid hX2
              have HLX := Lib.hid hlx
              clear hli hm hrow hsz hb hid hidm hqv hcn htk9 hX hlx hX2 hk hk2
              by_cases h1 : 1 < cn
              · have h1' : (1 : Int) < cn := by omega
                have HT1 := Lib.hid (show crT nm ps id = [lnT nm id] by unfold crT; rw [← HCN.out, if_pos h1])
                clear h1
                go_wp2_with fail
                refine (line_put w9.heap.size bl X nm id wTw (lnT nm id) wx (joinT nm id) (by rw [lnT_size]; have := HNM.out; omega) HLI9.out HN.out (Nat.lt_of_lt_of_le HBLN.out HN.out) (by have := HLX.out; omega)).mono ?_
                rintro x w10 ⟨rfl, h1, h2⟩
                have HX2 := Lib.hid (show LinAt w10 w9.heap.size bl X2 by rw [HX2E.out, HT1.out]; exact h1)
                have HM10 := Lib.hid (HM.out.keepC h2 HABL.out (Nat.lt_trans HABL.out HBLN.out))
                have HI10 := Lib.hid (show SRow w10 w8.heap.size (.slice (some ⟨q, 0, none⟩) ls.length cq) ls from owns_chg HI.out h2 (fun b hb hh => by have := HIB.out b hb; omega))
                have HN10 := Lib.hid (Nat.le_trans HN.out h2.size)
                have HBL10 := Lib.hid (Nat.lt_of_lt_of_le HBLN.out HN10.out)
                have HB10 := Lib.hid (HBx.out.trans (h2.below HBx.out.size (fun k hk => by have := HWBL.out; have := HBLN.out; omega)))
                clear hr1 h1 h2
                have hr5 := run_look (c := false) klStr HM10.out.ha (T := 87) (E := 4) Tryd.underlying87 (z := .bool false) (by go_simp) id
                by_cases hin : id ∈ hs.map (·.1)
                · rw [HHD.out.yes hin] at hr5
                  have HIN := Lib.hid hin
                  simp only [es, Bool.false_eq_true, if_false] at hr5
                  clear hin
                  go_wp2_with fail
                  refine (line_put w9.heap.size bl X2 nm id wBo (lnB nm id) w10 (joinB nm id) (by rw [lnB_size]; have := HNM.out; omega) HX2.out HN10.out HBL10.out (by have := HLX2.out; omega)).mono ?_
                  rintro x w11 ⟨rfl, h1, h2⟩
                  have HF := Lib.hid (And.intro h1 (And.intro (HM10.out.keepC h2 HABL.out (Nat.lt_trans HABL.out HBLN.out)) (And.intro (owns_chg HI10.out h2 (fun b hb hh => by have := HIB.out b hb; omega)) (HB10.out.trans (h2.below (Nat.le_trans HWBL.out (Nat.le_of_lt HBL10.out)) (fun k hk => by have := HWBL.out; have := HBLN.out; omega))))))
                  have HN11 := Lib.hid (Nat.le_trans HN10.out h2.size)
                  clear hr5 h1 h2
                  go_wp2_with fail
                  go_roundw
                  case measure => simp [intOf]; omega
                  case rel =>
                    refine ⟨k + 1, by omega, by go_num, ?_, HF.out.2.1, HF.out.2.2.1, HN11.out, HF.out.2.2.2⟩
                    have h1 := HF.out.1
                    rw [HTK9.out]
                    unfold crB
                    rw [if_pos HIN.out]
                    exact h1
                · rw [HHD.out.no hin] at hr5
                  have HIN := Lib.hid hin
                  simp only [es, Bool.false_eq_true, if_false] at hr5
                  clear hin
                  go_wp2_with fail
                  clear hr5
                  go_roundw
                  case measure => simp [intOf]; omega
                  case rel =>
                    refine ⟨k + 1, by omega, by go_num, ?_, HM10.out, HI10.out, HN10.out, HB10.out⟩
                    have h1 := HX2.out
                    rw [HTK9.out]
                    unfold crB
                    rw [if_neg HIN.out, List.append_nil]
                    exact h1
              · have h1' : ¬ (1 : Int) < cn := by omega
                have HT1 := Lib.hid (show crT nm ps id = [] by unfold crT; rw [← HCN.out, if_neg h1])
                clear h1
                obtain ⟨w10, rfl⟩ : ∃ x, x = wx := ⟨_, rfl⟩
                have HX2 := Lib.hid (show LinAt w10 w9.heap.size bl X2 by rw [HX2E.out, HT1.out, List.append_nil]; exact HLI9.out)
                have HM10 := HM
                have HI10 := HI
                have HN10 := HN
                have HBL10 := Lib.hid (Nat.lt_of_lt_of_le HBLN.out HN10.out)
                have HB10 := HBx
                have hr5 := run_look (c := false) klStr HM10.out.ha (T := 87) (E := 4) Tryd.underlying87 (z := .bool false) (by go_simp) id
                by_cases hin : id ∈ hs.map (·.1)
                · rw [HHD.out.yes hin] at hr5
                  have HIN := Lib.hid hin
                  simp only [es, Bool.false_eq_true, if_false] at hr5
                  clear hin
                  go_wp2_with fail
                  refine (line_put w9.heap.size bl X2 nm id wBo (lnB nm id) w10 (joinB nm id) (by rw [lnB_size]; have := HNM.out; omega) HX2.out HN10.out HBL10.out (by have := HLX2.out; omega)).mono ?_
                  rintro x w11 ⟨rfl, h1, h2⟩
                  have HF := Lib.hid (And.intro h1 (And.intro (HM10.out.keepC h2 HABL.out (Nat.lt_trans HABL.out HBLN.out)) (And.intro (owns_chg HI10.out h2 (fun b hb hh => by have := HIB.out b hb; omega)) (HB10.out.trans (h2.below (Nat.le_trans HWBL.out (Nat.le_of_lt HBL10.out)) (fun k hk => by have := HWBL.out; have := HBLN.out; omega))))))
                  have HN11 := Lib.hid (Nat.le_trans HN10.out h2.size)
                  clear hr5 h1 h2
                  go_wp2_with fail
                  go_roundw
                  case measure => simp [intOf]; omega
                  case rel =>
                    refine ⟨k + 1, by omega, by go_num, ?_, HF.out.2.1, HF.out.2.2.1, HN11.out, HF.out.2.2.2⟩
                    have h1 := HF.out.1
                    rw [HTK9.out]
                    unfold crB
                    rw [if_pos HIN.out]
                    exact h1
                · rw [HHD.out.no hin] at hr5
                  have HIN := Lib.hid hin
                  simp only [es, Bool.false_eq_true, if_false] at hr5
                  clear hin
                  go_wp2_with fail
                  clear hr5
                  go_roundw
                  case measure => simp [intOf]; omega
                  case rel =>
                    refine ⟨k + 1, by omega, by go_num, ?_, HM10.out, HI10.out, HN10.out, HB10.out⟩
                    have h1 := HX2.out
                    rw [HTK9.out]
                    unfold crB
                    rw [if_neg HIN.out, List.append_nil]
                    exact h1
            · have hk1 : ¬ (k : Int) < ls.length := by omega
              have hkl : ls.take k = ls := by rw [show k = ls.length by omega]; exact List.take_length
              rw [hkl] at hli
              obtain ⟨⟨v0, h1, h2⟩⟩ := hli
              have hcl := cell_of_row wx bl 0 _ _ _ h1
              simp only [List.getElem?_toArray, List.getElem?_cons_zero] at hcl
              have hbls := (Array.getElem?_eq_some_iff.1 h1).1
              have HF := Lib.hid (And.intro (SRow.wide h2 (Nat.le_trans HB9.out.size (Nat.le_refl _))) hb)
              clear hm hrow hsz hb hkl h1 h2 hk hk2
              go_wp2
              go_returns
              exact ⟨_, rfl, by rw [← HLS.out, crL_perm nm ps HPM.out.symm]; exact HF.out.1, HF.out.2⟩
end Go.Proofs.YtpkiiegadckloaaDoor
