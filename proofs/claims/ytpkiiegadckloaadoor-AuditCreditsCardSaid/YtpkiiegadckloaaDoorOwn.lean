/- Posts in memory of their own. -/
import Derived.Test.YtpkiiegadckloaaDoorPst
set_option linter.unusedSimpArgs false
set_option linter.unusedVariables false
namespace Go.Proofs.YtpkiiegadckloaaDoor
open Go.RowKit

/-- A row of posts that lies in blocks from n0 on. -/
structure PRow (w : World) (n0 : Nat) (v : Value) (ps : List Pst) : Prop where
  ex : ∃ pl : List (Pst × Value), pl.map (·.1) = ps ∧ w.ownsRow n0 89 3 v pl.length (pflat pl) ∧ (∀ p ∈ pl, w.ownsRow n0 57 3 p.2 p.1.ents.length (eflat p.1.ents))

/-- The slot of an element's entries. -/
theorem pflat_at : ∀ (l : List (Pst × Value)) (k : Nat) (p : Pst × Value), l[k]? = some p → (pflat l)[k * 3]? = some (.int .i64 p.1.num) ∧ (pflat l)[k * 3 + 1]? = some (.string p.1.text) ∧ (pflat l)[k * 3 + 2]? = some p.2
  | [], _, _, h => by simp at h
  | q :: r, 0, p, h => by
    simp at h
    subst h
    exact ⟨rfl, rfl, rfl⟩
  | q :: r, k + 1, p, h => by
    have := pflat_at r k p (by simpa using h)
    rw [show (k + 1) * 3 = k * 3 + 1 + 1 + 1 by omega]
    simpa [pflat, Nat.add_assoc] using this
theorem pflat_set : ∀ (l : List (Pst × Value)) (k : Nat) (p : Pst × Value) (v : Value), l[k]? = some p → (pflat l).set (k * 3 + 2) v = pflat (l.set k (p.1, v))
  | [], _, _, _, h => by simp at h
  | q :: r, 0, p, v, h => by
    simp at h
    subst h
    rfl
  | q :: r, k + 1, p, v, h => by
    have := pflat_set r k p v (by simpa using h)
    rw [show (k + 1) * 3 + 2 = (k * 3 + 2) + 1 + 1 + 1 by omega]
    simp only [pflat, List.set_cons_succ, this]
attribute [local go_sem] nil30
theorem clone45_nil (w : World) : Calls Tryd.prog 45 #[.slice none 0 0] w fun x w' => x = .returned (.slice none 0 0) ∧ w = w' := by
  go_enter Tryd.func45, Tryd.ntmps45
  go_wp2
  go_returns
  exact ⟨rfl, rfl⟩

theorem own_nil (w : World) : Calls Tryd.prog 28 #[.slice none 0 0] w fun x w' => x = .returned (.slice none 0 0) ∧ w = w' := by
  go_enter Tryd.func28, Tryd.ntmps28
  go_wp2_with (go_at_call 45; refine (clone45_nil _).mono ?_; rintro x w1 ⟨rfl, rfl⟩)
  refine wp_loop_rounds 1 ?_
  rw [rounds_succ]
  go_wp2
  go_returns
  exact ⟨rfl, rfl⟩

set_option maxRecDepth 100000 in
set_option maxHeartbeats 4000000 in
theorem own_any (A0 : Addr) (c : Nat) (pl : List (Pst × Value)) (w : World) (hl : 0 < pl.length) (hl2 : pl.length ≤ 100000) (hrow : w.ownsRow 0 89 3 (.slice (some A0) pl.length c) pl.length (pflat pl))
    (hent : ∀ p ∈ pl, w.ownsRow 0 57 3 p.2 p.1.ents.length (eflat p.1.ents)) (hne : ∀ p ∈ pl, 0 < p.1.ents.length ∧ p.1.ents.length ≤ 100000) :
    Calls Tryd.prog 28 #[.slice (some A0) pl.length c] w fun x w' => ∃ v, x = .returned v ∧ PRow w' w.heap.size v (pl.map (·.1)) ∧ Below w.heap.size w w' := by
  have HRW := Lib.hid hrow
  have HEN := Lib.hid hent
  have HNE := Lib.hid hne
  have HL := Lib.hid hl
  have HL2 := Lib.hid hl2
  have hp63 : (pl.length : Int) ≤ 100000 := by omega
  clear hrow hent hne hl hl2
  go_enter Tryd.func28, Tryd.ntmps28
  go_wp2_with (first
    | (go_at_call 45; refine (clone45_any A0 c pl (fun p hp => owns_one (HEN.out p hp)) _ HL.out HL2.out 0 HRW.out).mono ?_; rintro x w1 ⟨v, rfl, ho, hb1⟩
       have HO := Lib.hid ho
       have HB1 := Lib.hid hb1
       obtain ⟨q, cap, rfl, -, -⟩ := ho.form HL.out
       clear ho hb1))
  go_loopw [9] (fun i wr => ∃ (k : Nat) (pk : List (Pst × Value)), k ≤ pl.length ∧ i = .int .i64 k ∧ pk.map (·.1) = pl.map (·.1) ∧ wr.ownsRow w.heap.size 89 3 (.slice (some ⟨q, 0, none⟩) pl.length cap) pl.length (pflat pk) ∧
      (∀ j p, j < k → pk[j]? = some p → wr.ownsRow w.heap.size 57 3 p.2 p.1.ents.length (eflat p.1.ents)) ∧ (∀ j, k ≤ j → pk[j]? = pl[j]?) ∧ Below w.heap.size w wr) (fun i _ => pl.length - (intOf i).toNat)
  case atStart => exact ⟨0, pl, Nat.zero_le _, rfl, rfl, HO.out, fun j p h => by omega, fun j _ => rfl, HB1.out⟩
  case round =>
    obtain ⟨k, pk, hk, rfl, hpk, hrow, hold, hnew, hb⟩ := hrel
    by_cases hk2 : k < pl.length
    · have hk1 : (k : Int) < pl.length := by omega
      obtain ⟨p, hp⟩ : ∃ p, pl[k]? = some p := ⟨_, List.getElem?_eq_getElem hk2⟩
      have hpm : p ∈ pl := List.mem_of_getElem? hp
      have hpk2 : pk[k]? = some p := (hnew k (Nat.le_refl _)).trans hp
      obtain ⟨e1, e2⟩ := HNE.out p hpm
      obtain ⟨qe, ce, hpv⟩ : ∃ qe ce, p.2 = .slice (some ⟨qe, 0, none⟩) p.1.ents.length ce := by
        obtain ⟨a, b, h, -, -⟩ := (HEN.out p hpm).form e1
        exact ⟨a, b, h⟩
      have hcell := (hrow.cellAt (k * 3 + 2) (by omega)).trans (pflat_at pk k p hpk2).2.2
      rw [hpv] at hcell
      have hfz := hrow.frozenAt (k * 3 + 2)
      have he := owns_keep (HEN.out p hpm) hb
      rw [hpv] at he
      have HE := Lib.hid he
      have hql := (hrow.lt _ rfl).2
      have HR := Lib.hid hrow
      have HOLD := Lib.hid hold
      have HNEW := Lib.hid hnew
      have HB := Lib.hid hb
      have HPK := Lib.hid hpk
      have HPK2 := Lib.hid hpk2
      have E1 := Lib.hid e1
      have E2 := Lib.hid e2
      clear hrow hold hnew hb hpk hpk2 hp hpm e1 e2 he hpv
      go_wp2_with (first
        | (go_at_call 46; refine (clone46_any ⟨qe, 0, none⟩ ce p.1.ents _ E1.out E2.out 0 HE.out).mono ?_; rintro x w2 ⟨v2, rfl, ho2, hb2⟩
           have HO2 := Lib.hid ho2
           have HB2 := Lib.hid hb2
           have hc2 := (hb2.block q hql)
           obtain ⟨q2, c2, rfl, -, -⟩ := ho2.form E1.out
           have hcell2 : w2.cell? ⟨q, k * 3 + 2, none⟩ = some (.slice (some ⟨qe, 0, none⟩) p.1.ents.length ce) := (World.cell?_of_block hc2).trans hcell
           have hfz2 : w2.frozen? ⟨q, k * 3 + 2, none⟩ = false := (World.frozen?_of_block hc2).trans hfz
           clear ho2 hb2 hc2))
      go_roundw
      case measure => simp [intOf]; omega
      case rel =>
        have hr2 := owns_keep HR.out HB2.out
        have hst := (hr2.stored (k * 3 + 2) (.slice (some ⟨q2, 0, none⟩) p.1.ents.length c2)).1
        rw [pflat_set pk k p _ HPK2.out] at hst
        have hbb : Below w.heap.size w w2 := bel2 HB.out HB2.out
        have hq : w.heap.size ≤ q := (HR.out.lt _ rfl).1
        have hqb : ∃ cs, w2.heap[q]? = some (.cells cs 89 (0, 0)) := by
          rcases hr2.2 with ⟨h, _⟩ | ⟨g', cap', cur, h, _, hg, _⟩
          · cases h
          · cases h; exact ⟨_, hg⟩
        obtain ⟨csq, hqb⟩ := hqb
        have hat : ∀ {v : Value} {n : Nat} {xs : List Value}, w2.ownsRow w.heap.size 57 3 v n xs → (w2.setCell ⟨q, k * 3 + 2, none⟩ (.slice (some ⟨q2, 0, none⟩) p.1.ents.length c2)).ownsRow w.heap.size 57 3 v n xs := fun h =>
          owns_at h (fun b cs hb hcs => heap_setCell_other w2 ⟨q, k * 3 + 2, none⟩ b _ (fun e => by
            have e' : b = q := e
            rw [e', hqb] at hcs
            cases hcs))
        refine ⟨k + 1, pk.set k (p.1, .slice (some ⟨q2, 0, none⟩) p.1.ents.length c2), by omega, by go_num, ?_, hst, ?_, ?_, ?_⟩
        · rw [← HPK.out, List.map_set]
          apply List.ext_getElem?
          intro j
          rw [List.getElem?_set]
          split
          · rename_i hkj
            subst hkj
            have h2 := HPK2.out
            simp [(List.getElem?_eq_some_iff.1 h2).1, (List.getElem?_eq_some_iff.1 h2).2]
          · rfl
        · intro j p1 hj hp1
          by_cases hjk : j = k
          · subst hjk
            rw [List.getElem?_set_self (List.getElem?_eq_some_iff.1 HPK2.out).1] at hp1
            obtain rfl := Option.some.inj hp1
            exact hat (owns_base HO2.out HB.out.size)
          · rw [List.getElem?_set_ne (fun e => hjk e.symm)] at hp1
            exact hat (owns_keep (HOLD.out j p1 (by omega) hp1) HB2.out)
        · intro j hj
          rw [List.getElem?_set_ne (by omega)]
          exact HNEW.out j (by omega)
        · have hg := (hr2.stored (k * 3 + 2) (.slice (some ⟨q2, 0, none⟩) p.1.ents.length c2)).2
          exact hbb.trans ⟨hg.os, hg.tape, hg.output, hg.size, fun i hi => hg.block i (by have := hbb.size; omega) (fun e => by have := Option.some.inj e; omega)⟩
    · have hk1 : ¬ (k : Int) < pl.length := by omega
      have hkl : k = pl.length := by omega
      have hlen : pk.length = pl.length := by
        have := congrArg List.length hpk
        simpa using this
      have HF := Lib.hid (show PRow wr w.heap.size (.slice (some ⟨q, 0, none⟩) pl.length cap) (pl.map (·.1)) from ⟨⟨pk, hpk, by rw [hlen]; exact hrow, fun p hp => by
        obtain ⟨j, hj, hjp⟩ := List.getElem_of_mem hp
        exact hold j p (by omega) (by rw [← hjp]; exact List.getElem?_eq_getElem hj)⟩⟩)
      have HB := Lib.hid hb
      clear hpk hrow hold hnew hb hk hk2 hkl hlen
      go_wp2
      go_returns
      exact ⟨_, rfl, HF.out, HB.out⟩

/-- What the entries of posts are long. -/
def FewP (ps : List Pst) : Prop := ps.length ≤ 100000 ∧ ∀ p ∈ ps, 0 < p.ents.length ∧ p.ents.length ≤ 100000

theorem Posts_any (g : Nat) (ow : ByteArray) (na : Nat) (A : Key → Option Acc) (ps : List Pst) (hl : List (ByteArray × Value)) (S : Nat → Prop) (w : World) (h : LedAt w g ow na A ps hl S) (hf : FewP ps) :
    Calls Tryd.prog 11 #[.pointer (some ⟨g, 0, none⟩)] w fun x w' => ∃ v, x = .returned v ∧ PRow w' w.heap.size v ps ∧ Below w.heap.size w w' := by
  obtain ⟨ma, mh, v, pl, hB, rfl⟩ := h.open
  have c2 := hB.c2
  obtain ⟨la, hX, -⟩ := hB
  have hlen : pl.length ≤ 100000 := by simpa using hf.1
  by_cases h0 : pl = []
  · subst h0
    obtain rfl := hX.nz rfl
    clear hX hf hlen h
    go_enter Tryd.func11, Tryd.ntmps11
    go_wp2_with (go_at_call 28; refine (own_nil _).mono ?_; rintro x w1 ⟨rfl, rfl⟩)
    go_returns
    exact ⟨_, rfl, ⟨⟨[], rfl, World.ownsRow_nil _ _ _ _, fun p hp => by cases hp⟩⟩, Below.refl _ _⟩
  · have hl : 0 < pl.length := List.length_pos_iff.2 h0
    obtain ⟨q, c, rfl, -, -⟩ := hX.row.form hl
    have HR := Lib.hid hX.row
    have HE := Lib.hid hX.ent
    have HF := Lib.hid hf
    have HL := Lib.hid hl
    have HN := Lib.hid hlen
    clear hX hf hlen h hl h0
    go_enter Tryd.func11, Tryd.ntmps11
    go_wp2_with (go_at_call 28; refine (own_any ⟨q, 0, none⟩ c pl _ HL.out HN.out HR.out HE.out (fun p hp => HF.out.2 p.1 (List.mem_map.2 ⟨p, hp, rfl⟩))).mono ?_; rintro x w1 ⟨v, rfl, hp, hb⟩)
    go_returns
    exact ⟨_, rfl, hp, hb⟩
end Go.Proofs.YtpkiiegadckloaaDoor
