/- An account is opened. -/
import Derived.Test.YtpkiiegadckloaaDoorLed
import Derived.StillTailTactics
set_option linter.unusedSimpArgs false
namespace Go.Proofs.YtpkiiegadckloaaDoor
open Go.RowKit


def upd {α β : Type} [DecidableEq α] (A : α → Option β) (k : α) (a : β) : α → Option β := fun j => if j = k then some a else A j

set_option maxRecDepth 100000 in
theorem put_any (g : Nat) (ow : ByteArray) (na : Nat) (A : Key → Option Acc) (ps : List Pst) (hl : List (ByteArray × Value)) (S : Nat → Prop) (k : Key) (f : Int) (w : World) (h : LedAt w g ow na A ps hl S) :
    Calls Tryd.prog 31 #[.pointer (some ⟨g, 0, none⟩), ek k, .int .i64 f] w fun x w' => x = .returned (.tuple #[]) ∧ LedAt w' g ow (na + 1) (upd A k ⟨f, 0, 0⟩) ps hl S ∧ Chg S w w' := by
  obtain ⟨ma, mh, v, pl, la, h, h2, h3, h4⟩ := h
  obtain ⟨w1, hw1⟩ : ∃ w1, w1 = w.alloc (.cells #[.string k.1, .string k.2] 72) := ⟨_, rfl⟩
  have hb1 : Below w.heap.size w w1 := hw1 ▸ below_new _ _
  have hk1 : w1.heap[w.heap.size]? = some (.cells #[.string k.1, .string k.2] 72 (0, 0)) := hw1 ▸ heap_alloc_new _ _
  have h' := h.keepB hb1
  have hblk := h'.blk
  unfold ledC at hblk
  obtain ⟨w2, hr, hm, hgr, -⟩ := run_put klKey (h'.acc.keep (w' := w1.drew) rfl) (T := 67) (E := 74) Tryd.underlying67 k (av ⟨f, 0, 0⟩)
  have hfin : LedAt w2 g ow (na + 1) (upd A k ⟨f, 0, 0⟩) ps hl S ∧ Chg S w w2 := by
    refine ⟨⟨ma, mh, v, pl, _, LedX.setA (w := w1.drew) (h'.keepB (w' := w1.drew) ⟨rfl, rfl, rfl, Nat.le_refl _, fun _ _ => rfl⟩) hm hgr, h2, Nat.le_trans (put_length _ _ _) (by omega), fun j => ?_⟩, ?_⟩
    · rw [fnd_put]
      unfold upd
      split
      · rfl
      · exact h4 j
    · exact (Chg.of_below (hb1.drew)).trans (T := S) (Chg.of_grown hgr (fun k hk => by cases hk; exact h.sa)) (fun i hi => Or.inl hi)
  have hc1 : w.cell? ⟨g, 1, none⟩ = some (.map (some ma)) := cell_of_row w g 1 _ _ _ h.blk
  have hgl : g < w.heap.size := h.lt _ h.sg
  rw [hw1] at hr
  have HF := Lib.hid hfin
  have HR := Lib.hid hr
  clear h h' h2 h3 h4 hb1 hm hgr hr hfin hk1 hblk hw1
  unfold ek
  go_enter Tryd.func31, Tryd.ntmps31
  go_wp2_with fail
  (refine wp_region_still_tail 7 (by kernel_rfl) (by kernel_rfl) ?_; simp only [List.take_succ_cons, List.take_zero, List.drop_succ_cons, List.drop_zero]; change wpStill _ _ (World.drew _) _ _ _; (repeat still_step); refine wpStill_nil ?_; change wpList _ _ _ _ _ (World.drew _))
  have hr := HR.out
  simp only [ek, av] at hr
  go_wp2
  go_returns
  exact ⟨rfl, HF.out⟩

theorem run_lenM {P : Program} {α : Type} {enc : α → Value} {w : World} {m : Nat} {l : List (α × Value)} {T K E : TypeId} (h : MapAt enc w m l) (ht : P.underlying T = some (.map K E)) (ty : TypeId) :
    (Builtin.len_ #[T] ty #[.map (some m)]).run P w = .ok (.int .i64 l.length) w := by
  obtain ⟨es, clock, h⟩ := h
  have hl : es.size = l.length := by
    have := congrArg List.length h.ents
    simpa using this
  unfold Builtin.len_
  simp [run_underlying ht, MapKept.run_getObj_map h.blk, Result.andThen, hl, goInt]

theorem zero74 (w : World) : (zeroValue 74).run Tryd.prog w = .ok (av ⟨0, 0, 0⟩) w := by
  unfold av
  go_simp

def asg : List (Nat × Value) → Nat → Value
  | [], _ => undef
  | (k, v) :: r, n => if n = k then v else asg r n



set_option maxRecDepth 100000 in
theorem Open_any (g : Nat) (ow : ByteArray) (na : Nat) (A : Key → Option Acc) (ps : List Pst) (hl : List (ByteArray × Value)) (S : Nat → Prop) (ac cu : ByteArray) (f : Int) (w : World) (h : LedAt w g ow na A ps hl S)
    (hn : allB goodN ac) (hn1 : 1 ≤ ac.size) (hn2 : ac.size ≤ 32) (hc : allB goodC cu) (hc1 : cu.size = 3) (hf : -1099511627776 ≤ f) (hf' : f ≤ 0) (hA : A (ac, cu) = none) (hna : na < 4096) :
    Calls Tryd.prog 13 #[.pointer (some ⟨g, 0, none⟩), .string ac, .string cu, .int .i64 f] w fun x w' => x = .returned (.int .i64 0) ∧ LedAt w' g ow (na + 1) (upd A (ac, cu) ⟨f, 0, 0⟩) ps hl S ∧ Chg S w w' := by
  have hfa : decide (f < -1099511627776) = false := decide_eq_false (by omega)
  have hfb : decide (0 < f) = false := decide_eq_false (by omega)
  have HN := Lib.hid hn
  have HN1 := Lib.hid hn1
  have HN2 := Lib.hid hn2
  have HC := Lib.hid hc
  have HC1 := Lib.hid hc1
  have HA := Lib.hid hA
  have HNA := Lib.hid hna
  have H := Lib.hid h
  clear hn hn1 hn2 hc hc1 hA hna
  obtain ⟨ma, mh, v, pl, la, h, h2, h3, h4⟩ := h
  obtain ⟨w1, hw1⟩ : ∃ w1, w1 = w.alloc (.cells #[.string ac, .string cu] 72) := ⟨_, rfl⟩
  have hb1 : Below w.heap.size w w1 := hw1 ▸ below_new _ _
  have hs1 : w1.heap.size = w.heap.size + 1 := by rw [hw1]; simp
  have hk1 : w1.heap[w.heap.size]? = some (.cells #[.string ac, .string cu] 72 (0, 0)) := hw1 ▸ heap_alloc_new _ _
  have h' := h.keepB hb1
  have hfd : fnd la (ac, cu) = none := by rw [h4, HA.out]; rfl
  have HS1 := Lib.hid hs1
  have HX1 := Lib.hid hb1
  have HK1 := Lib.hid hk1
  have HFD := Lib.hid hfd
  have hg1 := h'.lt _ h'.sg
  have hlen : ((la.length : Nat) : Int) < 4096 := by have := HNA.out; omega
  clear h2 h3 h4
  have HL := Lib.hid h'
  clear h' h hs1 hb1 hk1 hfd
  go_enter Tryd.func13, Tryd.ntmps13
  go_wp2_with fail
  rw [← hw1]
  clear hw1
  refine region_lays 12 [16, 17, 18, 19, 20, 21, 15, 22, 23, 10, 11] [9, 10] (asg [(16, .pointer (some ⟨g, 0, none⟩)), (17, .pointer (some ⟨g, 0, none⟩)), (18, .pointer (some ⟨g, 1, none⟩)), (19, .map (some ma)), (20, .agg #[.string ac, .string cu]), (21, .tuple #[.agg #[.int .i64 0, .int .i64 0, .int .i64 0], .bool false]), (15, .tuple #[.agg #[.int .i64 0, .int .i64 0, .int .i64 0], .bool false]), (22, .agg #[.int .i64 0, .int .i64 0, .int .i64 0]), (23, .bool false), (10, .pointer (some ⟨w1.heap.size, 0, none⟩)), (11, .bool false)])
    (fun W => W.cell? ⟨g, 1, none⟩ = some (.map (some ma)) ∧ W.heap[w.heap.size]? = some (.cells #[.string ac, .string cu] 72 (0, 0)) ∧ (Instr.lookup 67 (.map (some ma)) (.agg #[.string ac, .string cu]) true).run Tryd.prog W = .ok (.tuple #[.agg #[.int .i64 0, .int .i64 0, .int .i64 0], .bool false]) W)
    (fun m => if m = 0 then w1.drew else (w1.alloc (.cells #[.int .i64 0, .int .i64 0, .int .i64 0] 74)).drew) (by kernel_rfl) (by kernel_rfl) rfl ?_ ?_ ?_ ?_
  · have key : ∀ W, Below w1.heap.size w1 W → W.cell? ⟨g, 1, none⟩ = some (.map (some ma)) ∧ W.heap[w.heap.size]? = some (.cells #[.string ac, .string cu] 72 (0, 0)) ∧ (Instr.lookup 67 (.map (some ma)) (.agg #[.string ac, .string cu]) true).run Tryd.prog W = .ok (.tuple #[.agg #[.int .i64 0, .int .i64 0, .int .i64 0], .bool false]) W := by
      intro W hB
      have h1 := HL.out.keepB hB
      refine ⟨cell_of_row W g 1 _ _ _ h1.blk, (hB.block _ (by have := HS1.out; omega)).trans HK1.out, ?_⟩
      have h2 := run_look (c := true) klKey h1.acc (T := 67) Tryd.underlying67 (zero74 W) (ac, cu)
      rw [look_fnd, isin_fnd, HFD.out] at h2
      exact h2
    intro m _
    by_cases hm0 : m = 0
    · rw [if_pos hm0]; exact key _ ((Below.refl _ _).drew)
    · rw [if_neg hm0]; exact key _ ((below_new _ _).drew)
  · intro i o hi hiC ho τ W hR hd
    obtain ⟨R1, R2, R3⟩ := hR
    rcases i with _ | _ | _ | _ | _ | _ | _ | _ | _ | _ | _ | _ | i
    all_goals (try (exfalso; omega))
    all_goals (try (exfalso; revert hiC; decide))
    all_goals (simp at ho; subst ho)
    all_goals (simp [dstAt, Region.binds, asg] at hd)
    · (intro K hK; simp only [left1, Option.getD_some, Option.getD_none, putAll, asg, ↓reduceIte, Nat.reduceEqDiff, Act.put, List.setIfInBounds_toArray, List.set_cons_succ, List.set_cons_zero] at hK ⊢; (try simp only [hd] at hK ⊢); go_simp; exact hK)
    · (intro K hK; simp only [left1, Option.getD_some, Option.getD_none, putAll, asg, ↓reduceIte, Nat.reduceEqDiff, Act.put, List.setIfInBounds_toArray, List.set_cons_succ, List.set_cons_zero] at hK ⊢; (try simp only [hd] at hK ⊢); go_simp; exact hK)
    · (intro K hK; simp only [left1, Option.getD_some, Option.getD_none, putAll, asg, ↓reduceIte, Nat.reduceEqDiff, Act.put, List.setIfInBounds_toArray, List.set_cons_succ, List.set_cons_zero] at hK ⊢; (try simp only [hd] at hK ⊢); go_simp; exact hK)
    · (intro K hK; simp only [left1, Option.getD_some, Option.getD_none, putAll, asg, ↓reduceIte, Nat.reduceEqDiff, Act.put, List.setIfInBounds_toArray, List.set_cons_succ, List.set_cons_zero] at hK ⊢; (try simp only [hd] at hK ⊢); go_simp; exact hK)
    · (intro K hK; simp only [left1, Option.getD_some, Option.getD_none, putAll, asg, ↓reduceIte, Nat.reduceEqDiff, Act.put, List.setIfInBounds_toArray, List.set_cons_succ, List.set_cons_zero] at hK ⊢; (try simp only [hd] at hK ⊢); refine wp_load_row _ _ rfl _ rfl 72 _ (0, 0) _ R2 Tryd.underlying72 rfl (by kernel_rfl) ?_; exact hK)
    · (intro K hK; simp only [left1, Option.getD_some, Option.getD_none, putAll, asg, ↓reduceIte, Nat.reduceEqDiff, Act.put, List.setIfInBounds_toArray, List.set_cons_succ, List.set_cons_zero] at hK ⊢; (try simp only [hd] at hK ⊢); go_simp; exact hK)
    · (intro K hK; simp only [left1, Option.getD_some, Option.getD_none, putAll, asg, ↓reduceIte, Nat.reduceEqDiff, Act.put, List.setIfInBounds_toArray, List.set_cons_succ, List.set_cons_zero] at hK ⊢; (try simp only [hd] at hK ⊢); go_simp; exact hK)
    · (intro K hK; simp only [left1, Option.getD_some, Option.getD_none, putAll, asg, ↓reduceIte, Nat.reduceEqDiff, Act.put, List.setIfInBounds_toArray, List.set_cons_succ, List.set_cons_zero] at hK ⊢; (try simp only [hd] at hK ⊢); go_simp; exact hK)
    · (intro K hK; simp only [left1, Option.getD_some, Option.getD_none, putAll, asg, ↓reduceIte, Nat.reduceEqDiff, Act.put, List.setIfInBounds_toArray, List.set_cons_succ, List.set_cons_zero] at hK ⊢; (try simp only [hd] at hK ⊢); go_simp; exact hK)
    · (intro K hK; simp only [left1, Option.getD_some, Option.getD_none, putAll, asg, ↓reduceIte, Nat.reduceEqDiff, Act.put, List.setIfInBounds_toArray, List.set_cons_succ, List.set_cons_zero] at hK ⊢; (try simp only [hd] at hK ⊢); go_simp; exact hK)
  · intro k o hk ho τ hR hd
    rcases k with _ | _ | k
    all_goals (first | (exfalso; simp at hk; done) | (exfalso; simp at hk; omega) | skip)
    all_goals (simp at ho; subst ho)
    all_goals (simp [dstAt, Region.binds, asg] at hd)
    · rw [if_pos rfl, if_neg (by decide)]
      (intro K hK; simp only [left1, Option.getD_some, Option.getD_none, putAll, asg, ↓reduceIte, Nat.reduceEqDiff, Act.put, List.setIfInBounds_toArray, List.set_cons_succ, List.set_cons_zero] at hK ⊢; (try simp only [hd] at hK ⊢); go_simp; exact hK)
    · rw [if_neg (by decide), if_neg (by decide)]
      (intro K hK; simp only [left1, Option.getD_some, Option.getD_none, putAll, asg, ↓reduceIte, Nat.reduceEqDiff, Act.put, List.setIfInBounds_toArray, List.set_cons_succ, List.set_cons_zero] at hK ⊢; (try simp only [hd] at hK ⊢); go_simp; exact hK)
  · (simp only [List.drop_succ_cons, List.drop_zero, List.drop_nil, List.length_cons, List.length_nil, Nat.zero_add, Nat.reduceAdd, putAll, asg, ↓reduceIte, Nat.reduceEqDiff, Act.put, List.setIfInBounds_toArray, List.set_cons_succ, List.set_cons_zero]; first | refine wpList_nil ?_ | skip)
    obtain ⟨w2, hw2⟩ : ∃ w2, w2 = (w1.alloc (.cells #[.int .i64 0, .int .i64 0, .int .i64 0] 74)).drew := ⟨_, rfl⟩
    rw [← hw2]
    have HB2 := Lib.hid (show Below w1.heap.size w1 w2 from hw2 ▸ (below_new _ _).drew)
    clear hw2
    go_wp2_with (first
      | (go_at_call 29; refine (name_any ac HN.out HN1.out HN2.out _).mono ?_; rintro x w3 ⟨rfl, hb3⟩)
      | (go_at_call 30; refine (currency_any cu HC.out HC1.out _).mono ?_; rintro x w4 ⟨rfl, hb4⟩
         have HL4 := Lib.hid (((HL.out.keepB HB2.out).keepB hb3).keepB hb4)
         have hc4 := cell_of_row w4 g 1 _ _ _ HL4.out.blk
         have HB4 := Lib.hid (bel2 (bel2 HB2.out hb3) hb4)
         have HR4 := Lib.hid ((HB4.out.block w.heap.size (by have := HS1.out; omega)).trans HK1.out)
         have HM4 := Lib.hid HL4.out.acc
         simp only [ledC] at hc4
         have hl4 : ∀ ty, (Builtin.len_ #[67] ty #[.map (some ma)]).run Tryd.prog w4 = .ok (.int .i64 la.length) w4 := fun ty => run_lenM HM4.out Tryd.underlying67 ty
         clear hb3 hb4)
      | (refine wpList_load_row rfl 72 (.tmp 9) rfl w.heap.size rfl 72 _ (0, 0) _ HR4.out Tryd.underlying72 rfl (by kernel_rfl) ?_)
      | (go_at_call 31; refine (put_any g ow na A ps hl S (ac, cu) f _ ((H.out.keepB HX1.out).keepB HB4.out)).mono ?_; rintro x w5 ⟨rfl, hL5, hC5⟩))
    go_returns
    exact ⟨rfl, hL5, (Chg.of_below (bel2 HX1.out HB4.out)).trans hC5 (fun i hi => Or.inl hi)⟩
end Go.Proofs.YtpkiiegadckloaaDoor
