/- Copies of rows. -/
import Derived.Test.YtpkiiegadckloaaDoorWrg
import Derived.Deep.AppendLies
import Derived.Deep.Upon
import Derived.OwnWalk
import Derived.Lib.SliceRun
set_option linter.unusedSimpArgs false
namespace Go.Proofs.YtpkiiegadckloaaDoor
open Go.RowKit

theorem info_parts {t : TypeId} {z : Option Value} {n b : Nat} (h : (Tryd.prog.info? t).map (fun i => (i.zero, i.size, i.bytes)) = some (z, n, b)) : ∃ i, Tryd.prog.info? t = some i ∧ i.zero = z ∧ i.size = n ∧ i.bytes = b := by
  cases hi : Tryd.prog.info? t with
  | none => rw [hi] at h; cases h
  | some i =>
    rw [hi] at h
    simp only [Option.map_some, Option.some.injEq, Prod.mk.injEq] at h
    exact ⟨i, rfl, h.1, h.2.1, h.2.2⟩
theorem info57 : (Tryd.prog.info? 57).map (fun i => (i.zero, i.size, i.bytes)) = some (some (.agg #[.string ⟨#[]⟩, .string ⟨#[]⟩, .int .i64 0]), 3, 40) := by kernel_rfl
theorem info89 : (Tryd.prog.info? 89).map (fun i => (i.zero, i.size, i.bytes)) = some (some (.agg #[.int .i64 0, .string ⟨#[]⟩, .slice none 0 0]), 3, 48) := by kernel_rfl

theorem nil82 (w : World) (a : Option Addr) (n c : Nat) : (binOp .eql 82 (.slice a n c) (.slice none 0 0)).run Tryd.prog w = .ok (.bool a.isNone) w := Lib.run_eql_slice_nil w 82 57 a n c 0 0 Tryd.underlying82
theorem nil30 (w : World) (a : Option Addr) (n c : Nat) : (binOp .eql 30 (.slice a n c) (.slice none 0 0)).run Tryd.prog w = .ok (.bool a.isNone) w := Lib.run_eql_slice_nil w 30 89 a n c 0 0 Tryd.underlying30
attribute [local go_sem] nil82 nil30

theorem eflat_one : ∀ (l : List Ent), ∀ u ∈ eflat l, u.oneCell' = true
  | [], _, h => by cases h
  | e :: r, u, h => by
    simp only [eflat, List.mem_cons] at h
    rcases h with rfl | rfl | rfl | h
    · rfl
    · rfl
    · rfl
    · exact eflat_one r u h

set_option maxRecDepth 100000 in
theorem clone46_any (A0 : Addr) (c : Nat) (l : List Ent) (w : World) (hl : 0 < l.length) (hl2 : l.length ≤ 100000) (base : Nat) (h : w.ownsRow base 57 3 (.slice (some A0) l.length c) l.length (eflat l)) :
    Calls Tryd.prog 46 #[.slice (some A0) l.length c] w fun x w' => ∃ v, x = .returned v ∧ w'.ownsRow w.heap.size 57 3 v l.length (eflat l) ∧ Below w.heap.size w w' := by
  obtain ⟨b, rfl, hbl⟩ : ∃ b, A0 = ⟨b, 0, none⟩ ∧ b < w.heap.size := by
    rcases h.2 with ⟨h0, _⟩ | ⟨b, cap, cur, h0, _, hb, _⟩
    · cases h0
    · cases h0; exact ⟨b, rfl, (Array.getElem?_eq_some_iff.1 hb).1⟩
  have H := Lib.hid h
  have HL := Lib.hid hl
  have HL2 := Lib.hid hl2
  clear h hl hl2
  obtain ⟨i0, hi0, hz0, hz1, hz2⟩ := info_parts info57
  have HI := Lib.hid hi0
  have HZ0 := Lib.hid hz0
  have HZ1 := Lib.hid hz1
  have HZ2 := Lib.hid hz2
  clear hi0 hz0 hz1 hz2
  have HBN := Lib.hid (below_new w (.cells #[] 57))
  have HON := Lib.hid (World.ownsRow_lit (base := w.heap.size) (e := 57) (size := 3) w #[] 0 (Nat.le_refl _) (Nat.zero_le _) rfl)
  have HSN := Lib.hid (show (w.alloc (.cells #[] 57)).heap.size = w.heap.size + 1 by simp)
  go_enter Tryd.func46, Tryd.ntmps46
  go_wp2_with (first
    | (refine wpList_append_lies _ rfl (.tmp 5) (.tmp 6) 82 rfl w.heap.size 57 i0 _ 3 40 Tryd.underlying82 HI.out HZ0.out HZ1.out HZ2.out rfl (by omega) (.slice (some ⟨w.heap.size, 0, none⟩) 0 0) 0 [] rfl HON.out ⟨b, 0, none⟩ l.length c (eflat l) rfl (eflat_length l)
        (fun j u hu => (owns_keep H.out HBN.out).cells rfl j u hu) (eflat_one l) HL.out (by have := HL2.out; unfold maxLen; omega) (by have := HL2.out; omega) (by have := HSN.out; omega) _ rfl ?_
       rintro g cap w2 ho hg - -
       have HO := Lib.hid ho
       have HG := Lib.hid hg
       clear ho hg))
  go_returns
  refine ⟨_, rfl, by simpa using HO.out, HBN.out.trans ⟨HG.out.os, HG.out.tape, HG.out.output, HG.out.size, fun k hk => HG.out.block k (by have := HSN.out; omega) (fun e => by simp [Value.ownBlock] at e; omega)⟩⟩

theorem pflat_one : ∀ (l : List (Pst × Value)), (∀ p ∈ l, p.2.oneCell' = true) → ∀ u ∈ pflat l, u.oneCell' = true
  | [], _, _, h => by cases h
  | e :: r, hv, u, h => by
    simp only [pflat, List.mem_cons] at h
    rcases h with rfl | rfl | rfl | h
    · rfl
    · rfl
    · exact hv e (List.mem_cons_self ..)
    · exact pflat_one r (fun p hp => hv p (List.mem_cons_of_mem _ hp)) u h
theorem pflat_length : ∀ l : List (Pst × Value), (pflat l).length = l.length * 3
  | [] => rfl
  | _ :: r => by simp [pflat, pflat_length r]; omega

set_option maxRecDepth 100000 in
theorem clone45_any (A0 : Addr) (c : Nat) (l : List (Pst × Value)) (hv : ∀ p ∈ l, p.2.oneCell' = true) (w : World) (hl : 0 < l.length) (hl2 : l.length ≤ 100000) (base : Nat) (h : w.ownsRow base 89 3 (.slice (some A0) l.length c) l.length (pflat l)) :
    Calls Tryd.prog 45 #[.slice (some A0) l.length c] w fun x w' => ∃ v, x = .returned v ∧ w'.ownsRow w.heap.size 89 3 v l.length (pflat l) ∧ Below w.heap.size w w' := by
  obtain ⟨b, rfl, hbl⟩ : ∃ b, A0 = ⟨b, 0, none⟩ ∧ b < w.heap.size := by
    rcases h.2 with ⟨h0, _⟩ | ⟨b, cap, cur, h0, _, hb, _⟩
    · cases h0
    · cases h0; exact ⟨b, rfl, (Array.getElem?_eq_some_iff.1 hb).1⟩
  have H := Lib.hid h
  have HV := Lib.hid hv
  clear hv
  have HL := Lib.hid hl
  have HL2 := Lib.hid hl2
  clear h hl hl2
  obtain ⟨i0, hi0, hz0, hz1, hz2⟩ := info_parts info89
  have HI := Lib.hid hi0
  have HZ0 := Lib.hid hz0
  have HZ1 := Lib.hid hz1
  have HZ2 := Lib.hid hz2
  clear hi0 hz0 hz1 hz2
  have HBN := Lib.hid (below_new w (.cells #[] 89))
  have HON := Lib.hid (World.ownsRow_lit (base := w.heap.size) (e := 89) (size := 3) w #[] 0 (Nat.le_refl _) (Nat.zero_le _) rfl)
  have HSN := Lib.hid (show (w.alloc (.cells #[] 89)).heap.size = w.heap.size + 1 by simp)
  go_enter Tryd.func45, Tryd.ntmps45
  go_wp2_with (first
    | (refine wpList_append_lies _ rfl (.tmp 5) (.tmp 6) 30 rfl w.heap.size 89 i0 _ 3 48 Tryd.underlying30 HI.out HZ0.out HZ1.out HZ2.out rfl (by omega) (.slice (some ⟨w.heap.size, 0, none⟩) 0 0) 0 [] rfl HON.out ⟨b, 0, none⟩ l.length c (pflat l) rfl (pflat_length l)
        (fun j u hu => (owns_keep H.out HBN.out).cells rfl j u hu) (pflat_one l HV.out) HL.out (by have := HL2.out; unfold maxLen; omega) (by have := HL2.out; omega) (by have := HSN.out; omega) _ rfl ?_
       rintro g cap w2 ho hg - -
       have HO := Lib.hid ho
       have HG := Lib.hid hg
       clear ho hg))
  go_returns
  refine ⟨_, rfl, by simpa using HO.out, HBN.out.trans ⟨HG.out.os, HG.out.tape, HG.out.output, HG.out.size, fun k hk => HG.out.block k (by have := HSN.out; omega) (fun e => by simp [Value.ownBlock] at e; omega)⟩⟩
end Go.Proofs.YtpkiiegadckloaaDoor
