/- Whatever one bank sent, a beginning of it booked by the other tells nothing: the walk of the law. -/
import Derived.Test.YtpkiiegadckloaaDoorBeg
set_option linter.unusedSimpArgs false
set_option linter.unusedVariables false
namespace Go.Proofs.YtpkiiegadckloaaDoor
open Go.RowKit

/-- A slice at A reads as these small numbers. -/
def US (w : World) (A : Option Addr) (l : List Nat) : Prop :=
  l = [] ∨ ∃ b off, A = some ⟨b, off, none⟩ ∧ b < w.heap.size ∧ ∀ k, k < l.length → w.cell? ⟨b, off + k, none⟩ = some (.int .u16 (l.getD k 0))
theorem US.keep {w w' : World} {A : Option Addr} {l : List Nat} (h : US w A l) (hb : Below w.heap.size w w') : US w' A l := by
  rcases h with h | ⟨b, off, hA, hlt, h⟩
  · exact Or.inl h
  · exact Or.inr ⟨b, off, hA, Nat.lt_of_lt_of_le hlt hb.size, fun k hk => (hb.cell (p := ⟨b, off + k, none⟩) hlt).trans (h k hk)⟩
theorem names1 (ac : ByteArray) (h : allB goodN ac ∧ 1 ≤ ac.size ∧ ac.size ≤ 32) (hne : ac ≠ sX) : Names [ac] :=
  ⟨fun a ha => by rw [List.mem_singleton] at ha; rw [ha]; exact h, by simp; exact fun e => hne e.symm, by simp, by simp⟩

set_option maxRecDepth 100000 in
set_option maxHeartbeats 4000000 in
theorem begins_walk (A0 : Option Addr) (c0 : Nat) (l : List Nat) (n more : Nat) (w : World) (hl : l.length ≤ maxLen) (hA : US w A0 l) (h16 : ∀ x ∈ l, x < 65536) (hn : n < 256) (hmo : more < 256) :
    Calls Tryd.prog 4 #[.slice A0 l.length c0, .int .u8 n, .int .u8 more] w fun x w' => x = .returned (.bool true) ∧ Below w.heap.size w w' := by
  unfold maxLen at hl
  have HA := Lib.hid hA
  have H16 := Lib.hid h16
  clear hA h16
  by_cases h1 : (l.length : Int) ≤ 30
  · have d1 : decide ((30 : Int) < l.length) = false := decide_eq_false (by omega)
    by_cases h2 : 1 ≤ (l.length : Int)
    · have d2 : ((l.length : Int) == 0) = false := by simp; intro h; rw [h] at h2; simp at h2
      obtain ⟨t, ht⟩ : ∃ t : Nat, t = n % (l.length + 1) := ⟨_, rfl⟩
      have htl : t ≤ l.length := by have := Nat.mod_lt n (show 0 < l.length + 1 by omega); omega
      have htm : (n : Int) % ((l.length : Int) + 1) = t := by rw [ht]; simp
      have htl2 : (t : Int) ≤ l.length := by omega
      clear ht
      go_enter Tryd.func4, Tryd.ntmps4
      go_wp2_with fail
      refine (awake_any _).mono ?_
      rintro x w1 ⟨rfl, hb1⟩
      have HB1 := Lib.hid hb1
      clear hb1
      go_wp2_with fail
      obtain ⟨w2, hw2⟩ : ∃ w2, w2 = w1.alloc (.cells #[] 37) := ⟨_, rfl⟩
      obtain ⟨w3, hw3⟩ : ∃ w3, w3 = w2.alloc (.cells #[] 37) := ⟨_, rfl⟩
      rw [← hw2, ← hw3]
      have hs2 : w2.heap.size = w1.heap.size + 1 := by rw [hw2]; simp
      have hb3 : Below w2.heap.size w2 w3 := hw3 ▸ below_new _ _
      have HR1 := Lib.hid (show w3.ownsRow w.heap.size 37 3 (.slice (some ⟨w1.heap.size, 0, none⟩) 0 0) 0 [] from owns_keep (hw2 ▸ World.ownsRow_lit (base := w.heap.size) (e := 37) (size := 3) w1 #[] 0 HB1.out.size (Nat.zero_le _) rfl) hb3)
      have HR2 := Lib.hid (show w3.ownsRow w.heap.size 37 3 (.slice (some ⟨w1.heap.size + 1, 0, none⟩) 0 0) 0 [] from by
        have h := World.ownsRow_lit (base := w.heap.size) (e := 37) (size := 3) w2 #[] 0 (by have := HB1.out.size; omega) (Nat.zero_le _) rfl
        rw [← hw3, hs2] at h
        exact h)
      have HB3 := Lib.hid (bel2 (bel2 HB1.out (show Below w1.heap.size w1 w2 from hw2 ▸ below_new _ _)) hb3)
      clear hw2 hw3 hs2 hb3
      go_loopw [7, 8, 30] (fun va vb i wr => ∃ k : Nat, k ≤ l.length ∧ i = .int .i64 k ∧ ∃ (la lb : List Mv) (ga ca gb cb : Nat), la = (l.take k).map mvA ∧ lb = (l.take (min k t)).map mvB ∧ va = .slice (some ⟨ga, 0, none⟩) la.length ca ∧ vb = .slice (some ⟨gb, 0, none⟩) lb.length cb ∧ ga ≠ gb ∧
          wr.ownsRow w.heap.size 37 3 va la.length (mvflat la) ∧ wr.ownsRow w.heap.size 37 3 vb lb.length (mvflat lb) ∧ Below w.heap.size w wr)
        (fun _ _ i _ => l.length - (intOf i).toNat)
      case atStart => exact ⟨0, Nat.zero_le _, rfl, [], [], w1.heap.size, 0, w1.heap.size + 1, 0, by simp, by simp, rfl, rfl, by omega, HR1.out, HR2.out, HB3.out⟩
      case round =>
        obtain ⟨k, hk, rfl, la, lb, ga, ca, gb, cb, hla, hlb, rfl, rfl, hne, hra, hrb, hb⟩ := hrel
        have HLA := Lib.hid hla
        have HLB := Lib.hid hlb
        have hlen1 : la.length ≤ 30 := by rw [hla]; simp; omega
        have hlen2 : lb.length ≤ 30 := by rw [hlb]; simp; omega
        have HL1 := Lib.hid hlen1
        have HL2 := Lib.hid hlen2
        clear hla hlb hlen1 hlen2
        have HRA := Lib.hid hra
        have HRB := Lib.hid hrb
        have HB := Lib.hid hb
        have HNE := Lib.hid hne
        clear hra hrb hne
        by_cases hk2 : k < l.length
        · have hk1 : (k : Int) < l.length := by omega
          obtain ⟨b, off, rfl, hbl, hcl⟩ : ∃ b off, A0 = some ⟨b, off, none⟩ ∧ b < w.heap.size ∧ w.cell? ⟨b, off + k, none⟩ = some (.int .u16 (l.getD k 0)) := by
            rcases HA.out with h | ⟨b, off, h1, h2, h3⟩
            · rw [h] at hk2; simp at hk2
            · exact ⟨b, off, h1, h2, h3 k hk2⟩
          have hcell := (hb.cell (p := ⟨b, off + k, none⟩) hbl).trans hcl
          obtain ⟨x, hx⟩ : ∃ x, l.getD k 0 = x := ⟨_, rfl⟩
          have hxl : x < 65536 := H16.out x (by rw [← hx, List.getD_eq_getElem?_getD, List.getElem?_eq_getElem hk2]; exact List.getElem_mem hk2)
          rw [hx] at hcell
          obtain ⟨y, hy⟩ : ∃ y, red x = y := ⟨_, rfl⟩
          have hyl : y < 30000 := hy ▸ red_lt x
          have hxy : (x : Int) % 30000 = y := by rw [← hy]; unfold red; simp
          have HX := Lib.hid hx
          have HY := Lib.hid hy
          obtain ⟨la', hla'⟩ : ∃ la', la' = la ++ [mvA x] := ⟨_, rfl⟩
          have HAL := Lib.hid hla'
          have HAT := Lib.hid (show la' = (l.take (k + 1)).map mvA by
            rw [hla', HLA.out, List.take_add_one, List.map_append, List.getElem?_eq_getElem hk2]
            simp [← hx, List.getD_eq_getElem?_getD, hk2])
          obtain ⟨i0, hi0, hz0, hz1, hz2⟩ := info_parts info37
          have HI := Lib.hid (And.intro hi0 (And.intro hz0 (And.intro hz1 hz2)))
          clear hi0 hz0 hz1 hz2 hb hcl hx hy hla' hk
          obtain ⟨wa, hwa⟩ : ∃ wa, wa = wr.alloc (.cells #[.int .i16 ((y : Int) + 1), .bool false, .int .u8 0] 37) := ⟨_, rfl⟩
          have hba : Below wr.heap.size wr wa := hwa ▸ below_new _ _
          have HNW := Lib.hid (show wa.heap[wr.heap.size]? = some (.cells #[.int .i16 ((y : Int) + 1), .bool false, .int .u8 0] 37 (0, 0)) from hwa ▸ heap_alloc_new _ _)
          have HRAa := Lib.hid (owns_keep HRA.out hba)
          have HRBa := Lib.hid (owns_keep HRB.out hba)
          have HBa := Lib.hid (bel2 HB.out hba)
          have HSa := Lib.hid (show wa.heap.size = wr.heap.size + 1 by rw [hwa]; simp)
          clear hba
          subst hwa
          by_cases hkt : k < t
          · have dkt : decide (k < t) = true := decide_eq_true hkt
            obtain ⟨lb', hlb'⟩ : ∃ lb', lb' = lb ++ [mvB x] := ⟨_, rfl⟩
            have HBL := Lib.hid hlb'
            have HBT := Lib.hid (show lb' = (l.take (min (k + 1) t)).map mvB by
              rw [hlb', HLB.out, show min (k + 1) t = k + 1 by omega, show min k t = k by omega, List.take_add_one, List.map_append, List.getElem?_eq_getElem hk2]
              simp [← HX.out, List.getD_eq_getElem?_getD, hk2])
            clear hlb'
            go_wp2_with (first
              | (refine wpList_append_lies _ rfl (.tmp 35) (.tmp 41) 22 rfl w.heap.size 37 i0 _ 3 4 Tryd.underlying22 HI.out.1 HI.out.2.1 HI.out.2.2.1 HI.out.2.2.2 rfl (by omega) (.slice (some ⟨ga, 0, none⟩) la.length ca) _ _ rfl HRAa.out ⟨wr.heap.size, 0, none⟩ 1 1 (mvflat [mvA x]) rfl rfl
                    (fun j u hu => by rw [Addr.add_mid, Nat.zero_add, cell_of_row _ _ j _ _ _ HNW.out]; simpa [mvflat, mvA, HY.out] using hu) (mvflat_one _) (by omega) (by have := HL1.out; unfold maxLen; omega) (by have := HL1.out; omega) HBa.out.size _ rfl ?_
                 rintro gq cap w5 ho hg hat hlt
                 have HO5 := Lib.hid (show w5.ownsRow w.heap.size 37 3 (.slice (some ⟨gq, 0, none⟩) la'.length cap) la'.length (mvflat la') by
                   rw [HAL.out, mvflat_app]
                   simpa using ho)
                 have HN5 := Lib.hid (show gq ≠ gb by
                   rcases hat with h | h
                   · exact fun e => HNE.out ((Option.some.inj h).trans e)
                   · have h2 : gb < wr.heap.size := (HRB.out.lt _ rfl).2
                     have := HSa.out
                     intro e
                     omega)
                 have HP5 := Lib.hid (HRBa.out.kept hg (Or.inr (fun e => HNE.out (Option.some.inj e).symm)))
                 have HB5 := Lib.hid (show Below w.heap.size w w5 from HBa.out.trans ⟨hg.os, hg.tape, hg.output, hg.size, fun i hi => hg.block i (by have := HBa.out.size; omega) (fun e => by have h1 := (HRA.out.lt ga rfl).1; have e2 : i = ga := Option.some.inj e; omega)⟩)
                 have hlq : (la.length + 1 : Nat) = la'.length := by rw [HAL.out]; simp
                 rw [hlq]
                 clear ho hg hat hlt hlq
                 obtain ⟨wb, hwb⟩ : ∃ wb, wb = w5.alloc (.cells #[.int .i16 (-(y : Int) - 1), .bool false, .int .u8 0] 37) := ⟨_, rfl⟩
                 have hbb : Below w5.heap.size w5 wb := hwb ▸ below_new _ _
                 have HNX := Lib.hid (show wb.heap[w5.heap.size]? = some (.cells #[.int .i16 (-(y : Int) - 1), .bool false, .int .u8 0] 37 (0, 0)) from hwb ▸ heap_alloc_new _ _)
                 have HOb := Lib.hid (owns_keep HO5.out hbb)
                 have HPb := Lib.hid (owns_keep HP5.out hbb)
                 have HBb := Lib.hid (bel2 HB5.out hbb)
                 have HSb := Lib.hid (show wb.heap.size = w5.heap.size + 1 by rw [hwb]; simp)
                 clear hbb
                 subst hwb)
              | (refine wpList_append_lies _ rfl (.tmp 51) (.tmp 58) 22 rfl w.heap.size 37 i0 _ 3 4 Tryd.underlying22 HI.out.1 HI.out.2.1 HI.out.2.2.1 HI.out.2.2.2 rfl (by omega) (.slice (some ⟨gb, 0, none⟩) lb.length cb) _ _ rfl HPb.out ⟨w5.heap.size, 0, none⟩ 1 1 (mvflat [mvB x]) rfl rfl
                    (fun j u hu => by rw [Addr.add_mid, Nat.zero_add, cell_of_row _ _ j _ _ _ HNX.out]; simpa [mvflat, mvB, HY.out] using hu) (mvflat_one _) (by omega) (by have := HL2.out; unfold maxLen; omega) (by have := HL2.out; omega) HBb.out.size _ rfl ?_
                 rintro gr capr w6 ho hg hat hlt
                 have HO6 := Lib.hid (show w6.ownsRow w.heap.size 37 3 (.slice (some ⟨gr, 0, none⟩) lb'.length capr) lb'.length (mvflat lb') by
                   rw [HBL.out, mvflat_app]
                   simpa using ho)
                 have HN6 := Lib.hid (show gq ≠ gr by
                   rcases hat with h | h
                   · exact fun e => HN5.out (e.trans (Option.some.inj h).symm)
                   · have h2 : gq < w5.heap.size := (HO5.out.lt _ rfl).2
                     have := HSb.out
                     intro e
                     omega)
                 have HP6 := Lib.hid (HOb.out.kept hg (Or.inr (fun e => HN5.out (Option.some.inj e))))
                 have HB6 := Lib.hid (show Below w.heap.size w w6 from HBb.out.trans ⟨hg.os, hg.tape, hg.output, hg.size, fun i hi => hg.block i (by have := HBb.out.size; omega) (fun e => by have h1 := (HRB.out.lt gb rfl).1; have e2 : i = gb := Option.some.inj e; omega)⟩)
                 have hlq : (lb.length + 1 : Nat) = lb'.length := by rw [HBL.out]; simp
                 rw [hlq]
                 clear ho hg hat hlt hlq))
            go_roundw
            case measure => simp [intOf]; omega
            case rel => exact ⟨k + 1, by omega, by go_num, la', lb', gq, cap, gr, capr, HAT.out, HBT.out, rfl, rfl, HN6.out, HP6.out, HO6.out, HB6.out⟩
          · have dkt : decide (k < t) = false := decide_eq_false hkt
            have HBL := Lib.hid (show min (k + 1) t = min k t by omega)
            go_wp2_with (first
              | (refine wpList_append_lies _ rfl (.tmp 35) (.tmp 41) 22 rfl w.heap.size 37 i0 _ 3 4 Tryd.underlying22 HI.out.1 HI.out.2.1 HI.out.2.2.1 HI.out.2.2.2 rfl (by omega) (.slice (some ⟨ga, 0, none⟩) la.length ca) _ _ rfl HRAa.out ⟨wr.heap.size, 0, none⟩ 1 1 (mvflat [mvA x]) rfl rfl
                    (fun j u hu => by rw [Addr.add_mid, Nat.zero_add, cell_of_row _ _ j _ _ _ HNW.out]; simpa [mvflat, mvA, HY.out] using hu) (mvflat_one _) (by omega) (by have := HL1.out; unfold maxLen; omega) (by have := HL1.out; omega) HBa.out.size _ rfl ?_
                 rintro gq cap w5 ho hg hat hlt
                 have HO5 := Lib.hid (show w5.ownsRow w.heap.size 37 3 (.slice (some ⟨gq, 0, none⟩) la'.length cap) la'.length (mvflat la') by
                   rw [HAL.out, mvflat_app]
                   simpa using ho)
                 have HN5 := Lib.hid (show gq ≠ gb by
                   rcases hat with h | h
                   · exact fun e => HNE.out ((Option.some.inj h).trans e)
                   · have h2 : gb < wr.heap.size := (HRB.out.lt _ rfl).2
                     have := HSa.out
                     intro e
                     omega)
                 have HP5 := Lib.hid (HRBa.out.kept hg (Or.inr (fun e => HNE.out (Option.some.inj e).symm)))
                 have HB5 := Lib.hid (show Below w.heap.size w w5 from HBa.out.trans ⟨hg.os, hg.tape, hg.output, hg.size, fun i hi => hg.block i (by have := HBa.out.size; omega) (fun e => by have h1 := (HRA.out.lt ga rfl).1; have e2 : i = ga := Option.some.inj e; omega)⟩)
                 have hlq : (la.length + 1 : Nat) = la'.length := by rw [HAL.out]; simp
                 rw [hlq]
                 clear ho hg hat hlt hlq))
            go_roundw
            case measure => simp [intOf]; omega
            case rel => exact ⟨k + 1, by omega, by go_num, la', lb, gq, cap, gb, cb, HAT.out, by rw [HBL.out]; exact HLB.out, rfl, rfl, HN5.out, HO5.out, HP5.out, HB5.out⟩
        · have hk1 : ¬ (k : Int) < l.length := by omega
          obtain rfl : k = l.length := by omega
          have hmin : min l.length t = t := by omega
          have HLBt := Lib.hid (show lb = (l.take t).map mvB by rw [HLB.out, hmin])
          have HLAt := Lib.hid (show la = l.map mvA by rw [HLA.out, List.take_length])
          clear hk hk2 hb hmin
          have hbn : ∀ m ∈ lb, m.usd = false ∧ -30000 ≤ m.n ∧ m.n < 0 := by
            intro m hm
            rw [HLBt.out] at hm
            obtain ⟨x, _, rfl⟩ := List.mem_map.1 hm
            have := red_lt x
            exact ⟨rfl, by simp only [mvB]; omega, by simp only [mvB]; omega⟩
          have HBN := Lib.hid hbn
          clear hbn
          go_wp2_with fail
          obtain ⟨w7, hw7⟩ : ∃ w7, w7 = wr.alloc (.cells #[.string sVosTo] 9) := ⟨_, rfl⟩
          rw [← hw7]
          have hb7 : Below wr.heap.size wr w7 := hw7 ▸ below_new _ _
          have HB7 := Lib.hid (bel2 HB.out hb7)
          have HZ7 := Lib.hid (hb7.size)
          have HRA7 := Lib.hid (owns_keep HRA.out hb7)
          have HRB7 := Lib.hid (owns_keep HRB.out hb7)
          have HV7 := Lib.hid (show SRow w7 0 (.slice (some ⟨wr.heap.size, 0, none⟩) 1 1) [sVosTo] from hw7 ▸ World.ownsRow_lit (base := 0) (e := 9) (size := 1) wr _ 1 (Nat.zero_le _) (by decide) rfl)
          clear hw7 hb7
          refine (booked_any (some ⟨ga, 0, none⟩) ca la _ [sVosTo] _ HL1.out (MS_of_row HRA7.out) (by rw [HLAt.out]; exact okA l) HV7.out (names1 _ (by decide) (by decide))).mono ?_
          rintro x w8 ⟨g1, n1, A1, S1, rfl, hl1, hS1, hb8⟩
          have HG1 := Lib.hid hl1
          have HS1 := Lib.hid hS1
          have HB8 := Lib.hid (bel2 HB7.out hb8)
          have HRB8 := Lib.hid (owns_keep HRB7.out hb8)
          clear hl1 hS1 hb8
          go_wp2_with fail
          obtain ⟨w9, hw9⟩ : ∃ w9, w9 = w8.alloc (.cells #[.string sNosFrom] 9) := ⟨_, rfl⟩
          rw [← hw9]
          have hb9 : Below w8.heap.size w8 w9 := hw9 ▸ below_new _ _
          have HB9 := Lib.hid (bel2 HB8.out hb9)
          have HRB9 := Lib.hid (owns_keep HRB8.out hb9)
          have HG19 := Lib.hid (HG1.out.keepB hb9)
          have HV9 := Lib.hid (show SRow w9 0 (.slice (some ⟨w8.heap.size, 0, none⟩) 1 1) [sNosFrom] from hw9 ▸ World.ownsRow_lit (base := 0) (e := 9) (size := 1) w8 _ 1 (Nat.zero_le _) (by decide) rfl)
          clear hw9 hb9
          refine (booked_any (some ⟨gb, 0, none⟩) cb lb _ [sNosFrom] _ HL2.out (MS_of_row HRB9.out) (by rw [HLBt.out]; exact okB _) HV9.out (names1 _ (by decide) (by decide))).mono ?_
          rintro x w10 ⟨g2, n2, A2, S2, rfl, hl2, -, hb10⟩
          have HG2 := Lib.hid hl2
          have HG110 := Lib.hid (HG19.out.keepB hb10)
          have HB10 := Lib.hid (bel2 HB9.out hb10)
          have HRB10 := Lib.hid (owns_keep HRB9.out hb10)
          clear hl2 hb10
          have FA := Lib.hid (few_bk [sVosTo] la la.length HL1.out)
          have FB := Lib.hid (few_bk [sNosFrom] lb lb.length HL2.out)
          have SA := Lib.hid (small_bk [sVosTo] la la.length (by rw [HLAt.out]; exact okA l))
          have SB := Lib.hid (small_bk [sNosFrom] lb lb.length (by rw [HLBt.out]; exact okB _))
          have ES := Lib.hid (show movP (vos sTo) 1 (bkN [sVosTo] la la.length) = sentL l by rw [HLAt.out]; exact sent_is l)
          have EG := Lib.hid (got_is lb (fun m hm => ⟨(HBN.out m hm).1, (HBN.out m hm).2.2⟩))
          have LS := Lib.hid (show (sentL l).length ≤ 30 by simp [sentL]; omega)
          have LG := Lib.hid (show (gotL lb).length ≤ 30 by have := HL2.out; simp [gotL]; omega)
          have HRM := Lib.hid (show remL sFrom sTo (sentL l) (gotL lb) = [] by rw [HLBt.out]; exact rem_begin _ _ l t htl)
          go_wp2_with fail
          refine (Remits_any sFrom sTo g1 g2 _ _ n1 n2 A1 A2 _ _ _ _ S1 S2 (sentL l) (gotL lb) _ HG110.out HG2.out FA.out FB.out SA.out SB.out ES.out EG.out (by have := LS.out; omega) (by have := LG.out; omega) (by decide) (by decide)).mono ?_
          rintro x w11 ⟨v1, rfl, hs1, hb11⟩
          rw [HRM.out] at hs1
          obtain ⟨B1, cc1, rfl⟩ := hs1.slice
          have HB11 := Lib.hid (bel2 HB10.out hb11)
          have HRB11 := Lib.hid (owns_keep HRB10.out hb11)
          have HG111 := Lib.hid (HG110.out.keepB hb11)
          clear hs1 hb11
          by_cases hb0 : lb.length = 0
          · have d5 : ((lb.length : Int) == 0) = true := by rw [hb0]; rfl
            clear hb0
            go_wp2_with fail
            go_returns
            exact ⟨rfl, HB11.out⟩
          · have d5 : ((lb.length : Int) == 0) = false := by simpa using hb0
            obtain ⟨r, hr⟩ : ∃ r : Nat, r = more % lb.length := ⟨_, rfl⟩
            have hrl : r < lb.length := hr ▸ Nat.mod_lt more (by omega)
            have hrm : (more : Int) % (lb.length : Int) = r := by rw [hr]; simp
            have hr1 : (r : Int) < lb.length := by omega
            have hr2 : (1 : Int) ≤ lb.length := by omega
            have hnil : ¬ lb = [] := fun h => hb0 (by rw [h]; rfl)
            have hcell := (HRB11.out.cellAt (r * 3) (by omega)).trans (mvflat_at lb r 0 hrl (by decide))
            simp only [mvV, List.getElem?_cons_zero] at hcell
            have hfz := HRB11.out.frozenAt (r * 3)
            obtain ⟨z, hz⟩ : ∃ z, (mv lb r).n = z := ⟨_, rfl⟩
            have hzb : -30000 ≤ z ∧ z < 0 := by
              have := HBN.out (mv lb r) (by unfold mv; rw [List.getD_eq_getElem?_getD, List.getElem?_eq_getElem hrl]; exact List.getElem_mem hrl)
              rw [hz] at this
              exact this.2
            obtain ⟨hz1, hz2⟩ := hzb
            have HST := Lib.hid (HRB11.out.stored (r * 3) (.int .i16 (z - 1)))
            have HSP := Lib.hid (show (mvflat lb).set (r * 3) (.int .i16 (z - 1)) = mvflat (spoil lb r) by rw [mvflat_set lb r _ hrl, ← hz]; rfl)
            rw [hz] at hcell
            have HRL := Lib.hid hrl
            have hql : gb < w11.heap.size := (HRB11.out.lt gb rfl).2
            have hl30 : (lb.length : Int) ≤ 30 := by have := HL2.out; omega
            clear hr hrl hz hb0
            go_wp2_with fail
            obtain ⟨ws, hws⟩ : ∃ ws, ws = w11.setCell ⟨gb, r * 3, none⟩ (.int .i16 (z - 1)) := ⟨_, rfl⟩
            obtain ⟨w12, hw12⟩ : ∃ w12, w12 = ws.alloc (.cells #[.string sNosFrom] 9) := ⟨_, rfl⟩
            rw [← hws, ← hw12]
            have hst := HST.out
            rw [HSP.out, ← hws] at hst
            obtain ⟨hrow, hgr⟩ := hst
            have hsl : (spoil lb r).length = lb.length := by simp [spoil]
            have hb12 : Below ws.heap.size ws w12 := hw12 ▸ below_new _ _
            have hbs : Below w.heap.size w ws := HB11.out.trans ⟨hgr.os, hgr.tape, hgr.output, hgr.size, fun i hi => hgr.block i (by have := HB11.out.size; omega) (fun e => by have h1 := (HRB.out.lt gb rfl).1; have e2 : i = gb := Option.some.inj e; omega)⟩
            have HB12 := Lib.hid (bel2 hbs hb12)
            have HRS := Lib.hid (owns_keep hrow hb12)
            have HG1s := Lib.hid ((HG111.out.keep (T := fun k => k = gb) (Chg.of_grown hgr (fun k hk => (Option.some.inj hk).symm)) (fun k hk e => by
              have a1 := HS1.out k hk
              have a2 : gb < w7.heap.size := (HRB7.out.lt gb rfl).2
              omega)).keepB hb12)
            have HV12 := Lib.hid (show SRow w12 0 (.slice (some ⟨ws.heap.size, 0, none⟩) 1 1) [sNosFrom] from hw12 ▸ World.ownsRow_lit (base := 0) (e := 9) (size := 1) ws _ 1 (Nat.zero_le _) (by decide) rfl)
            have HSK := Lib.hid (show ∀ m ∈ spoil lb r, MvOK m ∧ m.usd = false ∧ m.n < 0 by rw [HLBt.out]; exact spoil_ok _ r (by have := HRL.out; rw [HLBt.out] at this; simpa using this))
            have hsz : ws.heap.size = w11.heap.size := by rw [hws]; simp
            have HSL := Lib.hid hsl
            clear hws hw12 hrow hgr hsl hbs hb12
            have hrow12 := HRS.out
            rw [← HSL.out] at hrow12
            have hbk := booked_any (some ⟨gb, 0, none⟩) cb (spoil lb r) _ [sNosFrom] _ (by rw [HSL.out]; exact HL2.out) (MS_of_row hrow12) (fun m hm => (HSK.out m hm).1) HV12.out (names1 _ (by decide) (by decide))
            rw [HSL.out, hsz] at hbk
            clear hrow12 hsz
            refine hbk.mono ?_
            clear hbk
            rintro x w13 ⟨g3, n3, A3, S3, rfl, hl3, -, hb13⟩
            have HG3 := Lib.hid hl3
            have HG113 := Lib.hid (HG1s.out.keepB hb13)
            have HB13 := Lib.hid (bel2 HB12.out hb13)
            clear hl3 hb13
            have FC := Lib.hid (few_bk [sNosFrom] (spoil lb r) lb.length HL2.out)
            have SC := Lib.hid (small_bk [sNosFrom] (spoil lb r) lb.length (fun m hm => (HSK.out m hm).1))
            have EC := Lib.hid (show movP (nos sFrom) (-1) (bkN [sNosFrom] (spoil lb r) lb.length) = gotL (spoil lb r) by rw [← HSL.out]; exact got_is _ (fun m hm => (HSK.out m hm).2))
            have LC := Lib.hid (show (gotL (spoil lb r)).length ≤ 30 by have := HL2.out; have := HSL.out; simp [gotL]; omega)
            have HRO := Lib.hid (show (remL sFrom sTo (sentL l) (gotL (spoil lb r))).length = 1 by
              have h := HRL.out
              rw [HLBt.out] at h ⊢
              exact rem_spoil _ _ l t r htl (by simp at h; omega))
            go_wp2_with fail
            refine (Remits_any sFrom sTo g1 g3 _ _ n1 n3 A1 A3 _ _ _ _ S1 S3 (sentL l) (gotL (spoil lb r)) _ HG113.out HG3.out FA.out FC.out SA.out SC.out ES.out EC.out (by have := LS.out; omega) (by have := LC.out; omega) (by decide) (by decide)).mono ?_
            rintro x w14 ⟨v2, rfl, hs2, hb14⟩
            obtain ⟨B2, cc2, rfl⟩ := hs2.slice
            rw [HRO.out]
            have HB14 := Lib.hid (bel2 HB13.out hb14)
            clear hs2 hb14
            go_wp2_with fail
            go_returns
            exact ⟨rfl, HB14.out⟩
    · have h0 : l.length = 0 := by omega
      have d2 : ((l.length : Int) == 0) = true := by rw [h0]; rfl
      go_enter Tryd.func4, Tryd.ntmps4
      go_wp2_with fail
      refine (awake_any _).mono ?_
      rintro x w1 ⟨rfl, hb1⟩
      have HB1 := Lib.hid hb1
      clear hb1
      go_wp2_with fail
      refine (awake_any _).mono ?_
      rintro x w2 ⟨rfl, hb2⟩
      have HB2 := Lib.hid (bel2 HB1.out hb2)
      clear hb2
      go_wp2_with fail
      go_returns
      exact ⟨rfl, HB2.out⟩
  · have d1 : decide ((30 : Int) < l.length) = true := decide_eq_true (by omega)
    go_enter Tryd.func4, Tryd.ntmps4
    go_wp2_with fail
    refine (awake_any _).mono ?_
    rintro x w1 ⟨rfl, hb1⟩
    have HB1 := Lib.hid hb1
    clear hb1
    go_wp2_with fail
    refine (awake_any _).mono ?_
    rintro x w2 ⟨rfl, hb2⟩
    have HB2 := Lib.hid (bel2 HB1.out hb2)
    clear hb2
    go_wp2_with fail
    go_returns
    exact ⟨rfl, HB2.out⟩
end Go.Proofs.YtpkiiegadckloaaDoor
