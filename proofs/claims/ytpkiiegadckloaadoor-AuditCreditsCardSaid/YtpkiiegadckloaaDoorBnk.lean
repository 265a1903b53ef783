/- The example's two banks. -/
import Derived.Test.YtpkiiegadckloaaDoorRma
set_option linter.unusedSimpArgs false
set_option linter.unusedVariables false
namespace Go.Proofs.YtpkiiegadckloaaDoor
open Go.RowKit

abbrev sEur : ByteArray := ⟨#[69, 85, 82]⟩
abbrev sUsd : ByteArray := ⟨#[85, 83, 68]⟩
abbrev sX : ByteArray := ⟨#[120]⟩
abbrev sY : ByteArray := ⟨#[121]⟩
abbrev sVosB : ByteArray := ⟨#[118, 111, 115, 116, 114, 111, 58, 98]⟩
abbrev sNosA : ByteArray := ⟨#[110, 111, 115, 116, 114, 111, 58, 97]⟩
abbrev sPay : ByteArray := ⟨#[112, 97, 121]⟩
abbrev sRemit : ByteArray := ⟨#[114, 101, 109, 105, 116]⟩

instance (good : Nat → Prop) [DecidablePred good] (s : ByteArray) : Decidable (allB good s) := by unfold allB; exact inferInstance
/-- The entries of a call, as they were laid. -/
theorem row2 (w : World) (e1 e2 : Ent) : (w.alloc (.cells #[.string e1.acct, .string e1.cur, .int .i64 e1.amt, .string e2.acct, .string e2.cur, .int .i64 e2.amt] 57)).ownsRow 0 57 3 (.slice (some ⟨w.heap.size, 0, none⟩) 2 2) 2 (eflat [e1, e2]) :=
  World.ownsRow_lit (base := 0) (e := 57) (size := 3) w _ 2 (Nat.zero_le _) (by decide) rfl

/-- A post whose entries were just laid. -/
theorem PostNew (g : Nat) (ow : ByteArray) (na : Nat) (A : Key → Option Acc) (ps : List Pst) (hl : List (ByteArray × Value)) (S : Nat → Prop) (t : ByteArray) (e1 e2 : Ent) (x1 x2 : Acc) (w : World) (h : LedAt w g ow na A ps hl S)
    (ht : t.size ≤ 4096) (hps : ps.length < 4096) (hc : e1.cur = e2.cur) (hne : e1.acct ≠ e2.acct) (hs : e1.amt + e2.amt = 0)
    (a1 : A (e1.acct, e1.cur) = some x1) (a2 : A (e2.acct, e2.cur) = some x2) (h1 : Bears x1 e1.amt) (h2 : Bears x2 e2.amt) :
    Calls Tryd.prog 21 #[.pointer (some ⟨g, 0, none⟩), .string t, .slice (some ⟨w.heap.size, 0, none⟩) 2 2] (w.alloc (.cells #[.string e1.acct, .string e1.cur, .int .i64 e1.amt, .string e2.acct, .string e2.cur, .int .i64 e2.amt] 57))
      fun x w' => x = .returned (.tuple #[.int .i64 (ps.length + 1), .int .i64 0]) ∧ LedAt w' g ow na (chgA A (chs [e1, e2] 2)) (ps ++ [⟨ps.length + 1, t, [e1, e2]⟩]) hl (grow S w w') ∧ Chg S w w' := by
  refine (Post_any g ow na A ps hl S t w.heap.size e1 e2 x1 x2 _ (h.keepB (below_new _ _)) (row2 w e1 e2) (fun hS => by have := h.lt _ hS; omega) ht hps hc hne hs a1 a2 h1 h2).mono ?_
  rintro x w' ⟨h1, h2, h3⟩
  have hb := below_new w (.cells #[.string e1.acct, .string e1.cur, .int .i64 e1.amt, .string e2.acct, .string e2.cur, .int .i64 e2.amt] 57)
  have hsz := h3.size
  have hbs := hb.size
  refine ⟨h1, h2.more (fun k hk => ?_) (fun k hk => ?_), (Chg.of_below hb).trans h3 (fun i hi => Or.inl hi)⟩
  · rcases hk with hk | hk
    · exact Or.inl hk
    · exact Or.inr ⟨by have := hk.1; omega, hk.2⟩
  · rcases hk with hk | hk
    · have := h.lt k hk; omega
    · exact hk.2

def payE (n : Int) : List Ent := [⟨sX, sEur, -n⟩, ⟨sVosB, sEur, n⟩]
def remE (n : Int) : List Ent := [⟨sNosA, sEur, -n⟩, ⟨sY, sEur, n⟩]
def paP : List Pst := [⟨1, sPay, payE 30⟩, ⟨2, sPay, payE 20⟩]
def pbP (n : Int) : List Pst := [⟨1, sRemit, remE n⟩]
def a0P : Key → Option Acc := upd (upd (fun _ => none) (sX, sEur) ⟨-1099511627776, 0, 0⟩) (sVosB, sEur) ⟨0, 0, 0⟩
def b0P : Key → Option Acc := upd (upd (fun _ => none) (sNosA, sEur) ⟨-1099511627776, 0, 0⟩) (sY, sEur) ⟨0, 0, 0⟩

set_option maxRecDepth 100000 in
set_option maxHeartbeats 1000000 in
theorem banks_any (n : Int) (hn : n = 30 ∨ n = 20) (w : World) : Calls Tryd.prog 20 #[.int .i64 n] w fun x w' => ∃ ga gb na nb Aa Ab Sa Sb, x = .returned (.tuple #[.pointer (some ⟨ga, 0, none⟩), .pointer (some ⟨gb, 0, none⟩)]) ∧
    LedAt w' ga ⟨#[97]⟩ na Aa paP [] Sa ∧ LedAt w' gb ⟨#[98]⟩ nb Ab (pbP n) [] Sb ∧ Below w.heap.size w w' := by
  have hn1 : 0 ≤ n := by omega
  have hn2 : n ≤ 30 := by omega
  clear hn
  go_enter Tryd.func20, Tryd.ntmps20
  go_wp2_with fail
  refine (New_any ⟨#[97]⟩ _).mono ?_
  rintro x w1 ⟨ga, rfl, hla, hb1⟩
  have HLA := Lib.hid hla
  have HB1 := Lib.hid hb1
  clear hla hb1
  go_wp2_with fail
  refine (New_any ⟨#[98]⟩ _).mono ?_
  rintro x w2 ⟨gb, rfl, hlb, hb2⟩
  have HLB := Lib.hid hlb
  have HLA2 := Lib.hid (HLA.out.keepB hb2)
  have HB2 := Lib.hid hb2
  clear hlb hb2
  go_wp2_with fail
  refine (Open_any ga ⟨#[97]⟩ 0 _ [] [] _ sX sEur (-1099511627776) _ HLA2.out (by decide) (by decide) (by decide) (by decide) (by decide) (by decide) (by decide) rfl (by decide)).mono ?_
  rintro x w3 ⟨rfl, hla3, hc3⟩
  have HLA3 := Lib.hid hla3
  have HC3 := Lib.hid hc3
  clear hla3 hc3
  go_wp2_with fail
  refine (Open_any ga ⟨#[97]⟩ 1 _ [] [] _ sVosB sEur 0 _ HLA3.out (by decide) (by decide) (by decide) (by decide) (by decide) (by decide) (by decide) rfl (by decide)).mono ?_
  rintro x w4 ⟨rfl, hla4, hc4⟩
  have HSA := Lib.hid (fun k => HLA.out.lt k)
  have hCA := HC3.out.trans hc4 (fun i hi => Or.inl hi)
  have HLB4 := Lib.hid (HLB.out.keep hCA (fun k h1 h2 => by have := h1.1; have := h2.2; omega))
  have HBA := Lib.hid (bel2 (bel2 HB1.out HB2.out) (Below.refl w2.heap.size w2))
  have HB4 := Lib.hid (show Below w.heap.size w w4 from (bel2 HB1.out HB2.out).trans (hCA.below (bel2 HB1.out HB2.out).size (fun k hk => hk.1)))
  have HLA4 := Lib.hid hla4
  clear hla4 hc4 hCA
  go_wp2_with fail
  refine (Open_any gb ⟨#[98]⟩ 0 _ [] [] _ sNosA sEur (-1099511627776) _ HLB4.out (by decide) (by decide) (by decide) (by decide) (by decide) (by decide) (by decide) rfl (by decide)).mono ?_
  rintro x w5 ⟨rfl, hlb5, hc5⟩
  have HLB5 := Lib.hid hlb5
  have HC5 := Lib.hid hc5
  clear hlb5 hc5
  go_wp2_with fail
  refine (Open_any gb ⟨#[98]⟩ 1 _ [] [] _ sY sEur 0 _ HLB5.out (by decide) (by decide) (by decide) (by decide) (by decide) (by decide) (by decide) rfl (by decide)).mono ?_
  rintro x w6 ⟨rfl, hlb6, hc6⟩
  have hCB := HC5.out.trans hc6 (fun i hi => Or.inl hi)
  have HLA6 := Lib.hid (HLA4.out.keep hCB (fun k h1 h2 => by have := h1.2; have := h2.1; omega))
  have HB6 := Lib.hid (show Below w.heap.size w w6 from HB4.out.trans (hCB.below HB4.out.size (fun k hk => Nat.le_trans HB1.out.size hk.1)))
  have HLB6 := Lib.hid hlb6
  clear hlb6 hCB hc6
  go_wp2_with fail
  obtain ⟨w7, hw7⟩ : ∃ w7, w7 = w6.alloc (.cells #[.int .i64 30, .int .i64 20] 2) := ⟨_, rfl⟩
  rw [← hw7]
  have hb7 : Below w6.heap.size w6 w7 := hw7 ▸ below_new _ _
  have HR7 := Lib.hid (show w7.heap[w6.heap.size]? = some (.cells #[.int .i64 30, .int .i64 20] 2 (0, 0)) from hw7 ▸ heap_alloc_new _ _)
  have c0 := cell_of_row w7 _ 0 _ _ _ HR7.out
  have c1 := cell_of_row w7 _ 1 _ _ _ HR7.out
  simp only [List.getElem?_toArray, List.getElem?_cons_zero, List.getElem?_cons_succ] at c0 c1
  have HLA7 := Lib.hid (HLA6.out.keepB hb7)
  have HLB7 := Lib.hid (HLB6.out.keepB hb7)
  have HB7 := Lib.hid (bel2 HB6.out hb7)
  clear hw7 hb7
  refine wp_loop_rounds 3 ?_
  rw [rounds_succ]
  go_wp2_with fail
  refine (PostNew ga ⟨#[97]⟩ 2 _ [] [] _ sPay ⟨sX, sEur, -30⟩ ⟨sVosB, sEur, 30⟩ ⟨-1099511627776, 0, 0⟩ ⟨0, 0, 0⟩ _ HLA7.out (by decide) (by decide) rfl (by decide) rfl rfl rfl ⟨by decide, by decide, by decide, by decide, by decide, by decide⟩ ⟨by decide, by decide, by decide, by decide, by decide, by decide⟩).mono ?_
  rintro x w8 ⟨rfl, hla8, hc8⟩
  have HB8 := Lib.hid (show Below w.heap.size w w8 from HB7.out.trans (hc8.below HB7.out.size (fun k hk => hk.1)))
  have HLA8 := Lib.hid hla8
  have HLB8 := Lib.hid (HLB7.out.keep hc8 (fun k h1 h2 => by have := h1.1; have := h2.2; omega))
  have HR8 := Lib.hid ((hc8.block (Array.getElem?_eq_some_iff.1 HR7.out).1 (fun hk => by have := HLA6.out.lt _ hk; omega)).trans HR7.out)
  have c2 := cell_of_row w8 _ 1 _ _ _ HR8.out
  simp only [List.getElem?_toArray, List.getElem?_cons_zero, List.getElem?_cons_succ] at c2
  clear hla8 hc8 c0 c1
  go_wp2_with fail
  rw [rounds_succ]
  go_wp2_with fail
  refine (PostNew ga ⟨#[97]⟩ 2 _ _ [] _ sPay ⟨sX, sEur, -20⟩ ⟨sVosB, sEur, 20⟩ ⟨-1099511627776, -30, 0⟩ ⟨0, 30, 0⟩ _ HLA8.out (by decide) (by decide) rfl (by decide) rfl rfl rfl ⟨by decide, by decide, by decide, by decide, by decide, by decide⟩ ⟨by decide, by decide, by decide, by decide, by decide, by decide⟩).mono ?_
  rintro x w9 ⟨rfl, hla9, hc9⟩
  have hSa : ∀ k, grow (fun k => w.heap.size ≤ k ∧ k < w1.heap.size) w7 w8 k → w.heap.size ≤ k ∧ (k < w1.heap.size ∨ w6.heap.size < k) := by
    intro k hk
    have h7 := (Array.getElem?_eq_some_iff.1 HR7.out).1
    rcases hk with hk | hk
    · exact ⟨hk.1, Or.inl hk.2⟩
    · exact ⟨by have := HB7.out.size; have := hk.1; omega, Or.inr (by have := hk.1; omega)⟩
  have HB9 := Lib.hid (show Below w.heap.size w w9 from HB8.out.trans (hc9.below HB8.out.size (fun k hk => (hSa k hk).1)))
  have HLA9 := Lib.hid hla9
  have HLB9 := Lib.hid (HLB8.out.keep hc9 (fun k h1 h2 => by
    have a1 := hSa k h2
    have a2 := h1.1
    have a3 := HLB6.out.lt k h1
    omega))
  clear hla9 hc9 hSa c2
  go_wp2_with fail
  rw [rounds_succ]
  go_wp2_with fail
  refine (PostNew gb ⟨#[98]⟩ 2 _ _ [] _ sRemit ⟨sNosA, sEur, -n⟩ ⟨sY, sEur, n⟩ ⟨-1099511627776, 0, 0⟩ ⟨0, 0, 0⟩ _ HLB9.out (by decide) (by decide) rfl (show sNosA ≠ sY by decide) (by simp; omega) rfl rfl ⟨by simp; omega, by simp; omega, by decide, by decide, by decide, by simp; omega⟩ ⟨by simp; omega, by simp; omega, by decide, by decide, by decide, by simp; omega⟩).mono ?_
  rintro x w10 ⟨rfl, hlb10, hc10⟩
  have HB10 := Lib.hid (show Below w.heap.size w w10 from HB9.out.trans (hc10.below HB9.out.size (fun k hk => Nat.le_trans HB1.out.size hk.1)))
  have HLA10 := Lib.hid (HLA9.out.keep hc10 (fun k h1 h2 => by
    have h7 := (Array.getElem?_eq_some_iff.1 HR7.out).1
    have a0 := HLA7.out.lt
    have a1 := h2.1
    have a2 := h2.2
    have a3 := HLB4.out.lt k h2
    rcases h1 with h1 | h1
    · rcases h1 with h1 | h1
      · have := h1.2; omega
      · have := h1.1; have := HLB7.out.lt k h2; omega
    · have := h1.1; have := HLB8.out.lt k h2; omega))
  have HLB10 := Lib.hid hlb10
  clear hlb10 hc10
  go_wp2_with fail
  go_returns
  exact ⟨ga, gb, _, _, _, _, _, _, rfl, HLA10.out, HLB10.out, HB10.out⟩
end Go.Proofs.YtpkiiegadckloaaDoor
