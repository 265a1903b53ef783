/- All holds, told. -/
import Derived.Test.YtpkiiegadckloaaDoorSrt
import Derived.Test.YtpkiiegadckloaaDoorCst
set_option linter.unusedSimpArgs false
set_option linter.unusedVariables false
namespace Go.Proofs.YtpkiiegadckloaaDoor
open Go.RowKit

def hflat : List (ByteArray × Int) → List Value
  | [] => []
  | h :: r => .string h.1 :: .string sAa :: .string sEur :: .int .i64 h.2 :: hflat r
theorem hflat_app (l m : List (ByteArray × Int)) : hflat (l ++ m) = hflat l ++ hflat m := by
  induction l with
  | nil => rfl
  | cons p r ih => simp [hflat, ih]
theorem hflat_length : ∀ l : List (ByteArray × Int), (hflat l).length = l.length * 4
  | [] => rfl
  | _ :: r => by simp [hflat, hflat_length r]; omega
theorem hflat_one : ∀ (l : List (ByteArray × Int)), ∀ u ∈ hflat l, u.oneCell' = true
  | [], _, h => by cases h
  | e :: r, u, h => by
    simp only [hflat, List.mem_cons] at h
    rcases h with rfl | rfl | rfl | rfl | h
    · rfl
    · rfl
    · rfl
    · rfl
    · exact hflat_one r u h
theorem hflat_at : ∀ (l : List (ByteArray × Int)) (k j : Nat) (h : ByteArray × Int), l[k]? = some h → j < 4 → (hflat l)[k * 4 + j]? = [.string h.1, .string sAa, .string sEur, .int .i64 h.2][j]?
  | [], _, _, _, h, _ => by simp at h
  | e :: r, 0, j, h, hh, hj => by
    simp at hh
    subst hh
    rcases j with _ | _ | _ | _ | j
    · rfl
    · rfl
    · rfl
    · rfl
    · omega
  | e :: r, k + 1, j, h, hh, hj => by
    have := hflat_at r k j h (by simpa using hh) hj
    rw [show (k + 1) * 4 + j = (k * 4 + j) + 1 + 1 + 1 + 1 by omega]
    simp only [hflat, List.getElem?_cons_succ]
    exact this
theorem hv_eq (id : ByteArray) (n : Int) : hv id sAa sEur n = .agg #[.string id, .string sAa, .string sEur, .int .i64 n] := rfl
theorem info79 : (Tryd.prog.info? 79).map (fun i => (i.zero, i.size, i.bytes)) = some (some (.agg #[.string ⟨#[]⟩, .string ⟨#[]⟩, .string ⟨#[]⟩, .int .i64 0]), 4, 56) := by kernel_rfl

/-- A row stays where a row of other elements grows. -/
theorem owns_tag {w w' : World} {base b2 : Nat} {e e2 : TypeId} {size size2 : Nat} {v u : Value} {n m : Nat} {xs ys : List Value} (h : w.ownsRow base e size v n xs) (ho : w.ownsRow b2 e2 size2 u m ys) (hg : w.grownBy w' u.ownBlock) (hne : e ≠ e2) : w'.ownsRow base e size v n xs := by
  refine owns_at h (fun b cs _ hb => hg.block b (Array.getElem?_eq_some_iff.1 hb).1 (fun hh => ?_))
  rcases ho.2 with ⟨rfl, _⟩ | ⟨g, cap, cur, rfl, _, hgg, _⟩
  · cases hh
  · cases hh
    rw [hb] at hgg
    cases hgg
    exact hne rfl

set_option maxRecDepth 100000 in
set_option maxHeartbeats 2000000 in
theorem Holds_any (g : Nat) (ow : ByteArray) (na : Nat) (A : Key → Option Acc) (ps : List Pst) (hl : List (ByteArray × Value)) (S : Nat → Prop) (w : World) (h : LedAt w g ow na A ps hl S) (hk : HOK hl) (hlen : hl.length ≤ 100000) :
    Calls Tryd.prog 19 #[.pointer (some ⟨g, 0, none⟩)] w fun x w' => ∃ v, x = .returned v ∧ (∃ hs : List (ByteArray × Int), w'.ownsRow w.heap.size 79 4 v hs.length (hflat hs) ∧ (hs.map (·.1)).Perm (hl.map (·.1))) ∧ Below w.heap.size w w' := by
  obtain ⟨ma, mh, v, pl, hB, hps⟩ := h.open
  have c3 := hB.c3
  have hgl : g < w.heap.size := hB.lt _ hB.sg
  have hnd := h.hnodup
  have hsz : ∀ p ∈ hl, p.1.size ≤ maxLen := fun p hp => by
    have := (hk p.1 p.2 (fnd_of_mem hnd hp)).1.good.2.2
    unfold maxLen
    omega
  obtain ⟨D0, ho, hp, hz⟩ := owns_of hB.hmap hlen hsz
  have cK := fun W => callsIn_wide.1 (Tryd.maps_Keys_42 (some mh) W)
  have cS := callsIn_wide.1 (Tryd.slices_Sorted_keys_41_42 mh hl.length D0 _ w ho (by unfold maxLen; omega) (by omega))
  have HP := Lib.hid hp
  have HK := Lib.hid cK
  have HS := Lib.hid cS
  have HB := Lib.hid hB
  have HHK := Lib.hid hk
  have HND := Lib.hid hnd
  have HLN := Lib.hid hlen
  clear ho hp hz cK cS h hsz hk hnd hB hps hlen
  go_enter Tryd.func19, Tryd.ntmps19
  go_wp2_with fail
  refine (HK.out _).mono ?_
  rintro x w1 ⟨rfl, rfl⟩
  go_wp2_with fail
  refine HS.out.mono ?_
  rintro x w2 ⟨vi, ss, rfl, hperm, hrow, -, hb⟩
  obtain ⟨ls, h1, h2, -⟩ := sorted_row (hperm.trans HP.out) hrow
  have hb1 := below_new w (.cells #[.map (some mh)] 68)
  obtain ⟨Ai, ci, rfl⟩ := SRow.slice h1
  have HR := Lib.hid (show SRow w2 w.heap.size _ ls from owns_base h1 hb1.size)
  have HLP := Lib.hid h2
  have HB2 := Lib.hid (bel2 hb1 hb)
  have hll : (ls.length : Int) ≤ 100000 := by have := h2.length_eq; have := HLN.out; simp at *; omega
  clear hperm hrow hb hb1 h1 h2
  go_wp2_with fail
  go_loopw [3, 13] (fun v i wr => ∃ k : Nat, k ≤ ls.length ∧ i = .int .i64 k ∧ ∃ hs : List (ByteArray × Int), hs.map (·.1) = ls.take k ∧ wr.ownsRow w.heap.size 79 4 v hs.length (hflat hs) ∧ SRow wr w.heap.size (.slice Ai ls.length ci) ls ∧ Below w.heap.size w wr) (fun _ i _ => ls.length - (intOf i).toNat)
  case atStart => exact ⟨0, Nat.zero_le _, rfl, [], rfl, World.ownsRow_nil _ _ _ _, HR.out, HB2.out⟩
  case round =>
    obtain ⟨k, hk, rfl, hs, hhs, hv, hr, hb⟩ := hrel
    by_cases hk2 : k < ls.length
    · have hk1 : (k : Int) < ls.length := by omega
      obtain ⟨q, cq, hq, -, -⟩ := World.ownsRow.form hr (by omega)
      obtain ⟨rfl, rfl⟩ : Ai = some ⟨q, 0, none⟩ ∧ cq = ci := by
        injection hq with e1 e2 e3
        exact ⟨e1, e3.symm⟩
      obtain ⟨id, hid⟩ : ∃ id, ls[k]? = some id := ⟨_, List.getElem?_eq_getElem hk2⟩
      have hcell := World.ownsRow.cellAt hr k (by omega)
      rw [List.getElem?_map, hid] at hcell
      simp only [Option.map_some, es] at hcell
      have hmem : id ∈ hl.map (·.1) := HLP.out.mem_iff.1 (List.mem_of_getElem? hid)
      obtain ⟨p, hp, hpe⟩ := List.mem_map.1 hmem
      have hfnd : fnd hl id = some p.2 := by
        rw [← hpe]
        exact fnd_of_mem HND.out hp
      obtain ⟨-, n, hn, -, -⟩ := HHK.out id p.2 hfnd
      have hBr := HB.out.keepB hb
      have hlk := hBr.hlook id false
      rw [hfnd, hn] at hlk
      simp only [Option.getD_some, Bool.false_eq_true, if_false] at hlk
      rw [hv_eq] at hlk
      have c3r := hBr.c3
      have hgr : g < wr.heap.size := hBr.lt _ hBr.sg
      have hqr : q < wr.heap.size := (World.ownsRow.lt hr _ rfl).2
      have HHS := Lib.hid (show (hs ++ [(id, n)]).map (·.1) = ls.take (k + 1) by rw [List.map_append, hhs, List.take_add_one, hid]; rfl)
      have hlen : hs.length ≤ 100000 := by
        have e1 := congrArg List.length hhs
        have e2 : (ls.take k).length ≤ ls.length := by rw [List.length_take]; omega
        simp only [List.length_map] at e1
        omega
      have HLE := Lib.hid hlen
      obtain ⟨i0, hi0, hz0, hz1, hz2⟩ := info_parts info79
      have HI := Lib.hid (And.intro hi0 (And.intro hz0 (And.intro hz1 hz2)))
      have hbx := below_new wr (.cells #[.string id, .string sAa, .string sEur, .int .i64 n] 79)
      have HO := Lib.hid (owns_keep hv hbx)
      have HRX := Lib.hid (owns_keep hr hbx)
      have HBX := Lib.hid (bel2 hb hbx)
      have HNW := Lib.hid (heap_alloc_new wr (.cells #[.string id, .string sAa, .string sEur, .int .i64 n] 79))
      clear hi0 hz0 hz1 hz2 hv hr hb hbx hlen hhs hid hmem hp hpe hfnd hn hBr hk hq c3
      go_wp2_with (first
        | (refine wpList_append_lies _ rfl (.tmp 17) (.tmp 24) 49 rfl w.heap.size 79 i0 _ 4 56 Tryd.underlying49 HI.out.1 HI.out.2.1 HI.out.2.2.1 HI.out.2.2.2 rfl (by omega) u3 _ _ rfl HO.out ⟨wr.heap.size, 0, none⟩ 1 1 (hflat [(id, n)]) rfl rfl
            (fun j u hu => by rw [Addr.add_mid, Nat.zero_add, cell_of_row _ _ j _ _ _ HNW.out]; simpa [hflat] using hu) (hflat_one _) (by omega) (by have := HLE.out; unfold maxLen; omega) (by have := HLE.out; omega) HBX.out.size _ rfl ?_
           rintro gq cap w5 ho hg - -
           have HO5 := Lib.hid ho
           have HG5 := Lib.hid hg
           clear ho hg))
      go_roundw
      case measure => simp [intOf]; omega
      case rel =>
        refine ⟨k + 1, by omega, by go_num, hs ++ [(id, n)], HHS.out, ?_, owns_tag HRX.out HO.out HG5.out (by decide), HBX.out.trans ⟨HG5.out.os, HG5.out.tape, HG5.out.output, HG5.out.size, fun i hi => HG5.out.block i (by have := HBX.out.size; omega) (fun e => by have := (HO.out.lt i e.symm).1; omega)⟩⟩
        rw [hflat_app]
        have h5 := HO5.out
        simp only [List.length_append, List.length_cons, List.length_nil, Nat.zero_add] at h5 ⊢
        exact h5
    · have hk1 : ¬ (k : Int) < ls.length := by omega
      have hkl : k = ls.length := by omega
      rw [hkl, List.take_length] at hhs
      have HV := Lib.hid hv
      have HBb := Lib.hid hb
      have HP2 := Lib.hid (show (hs.map (·.1)).Perm (hl.map (·.1)) by rw [hhs]; exact HLP.out)
      clear hhs hv hr hb hkl hk hk2 c3
      go_wp2_with fail
      go_returns
      exact ⟨_, rfl, ⟨hs, HV.out, HP2.out⟩, HBb.out⟩
end Go.Proofs.YtpkiiegadckloaaDoor
