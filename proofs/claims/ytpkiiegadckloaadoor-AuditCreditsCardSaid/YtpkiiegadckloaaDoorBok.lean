/- A post is booked. -/
import Derived.Test.YtpkiiegadckloaaDoorApd
set_option linter.unusedSimpArgs false
set_option linter.unusedVariables false
namespace Go.Proofs.YtpkiiegadckloaaDoor
open Go.RowKit

theorem drop_lt {left : List (Key × Int)} {k : Key} {n : Int} (h : (k, n) ∈ left) : (left.filter fun p => decide (p.1 ≠ k)).length < left.length := by
  rw [List.length_filter_lt_length_iff_exists]
  exact ⟨(k, n), h, by simp⟩

/-- What the operations of the line that makes a post yield. -/
def relB (g N : Nat) (A0 : Option Addr) (c0 : Nat) (t : ByteArray) (b : Nat) (es : List Ent) (base : Nat) (i : Nat) (u : Value) (W : World) : Prop :=
  match i with
  | 0 => u = .pointer (some ⟨g, 0, none⟩)
  | 1 => u = .pointer (some ⟨g, 0, none⟩)
  | 2 => u = .pointer (some ⟨g, 2, none⟩)
  | 3 => u = .slice A0 N c0
  | 4 => u = .int .i64 N
  | 5 => u = .int .i64 (N + 1)
  | 6 => u = .string t
  | 7 => u = .slice (some ⟨b, 0, none⟩) 2 2
  | 8 => ∃ q c, u = .slice (some ⟨q, 0, none⟩) 2 c ∧ W.ownsRow base 57 3 (.slice (some ⟨q, 0, none⟩) 2 c) 2 (eflat es)
  | 9 => ∃ q c, u = .agg #[.int .i64 (N + 1), .string t, .slice (some ⟨q, 0, none⟩) 2 c] ∧ W.ownsRow base 57 3 (.slice (some ⟨q, 0, none⟩) 2 c) 2 (eflat es)
  | 10 => ∃ q, u = .pointer (some ⟨q, 0, none⟩) ∧ base ≤ q ∧ W.heap[q]? = some (.cells #[.int .i64 0, .string ⟨#[]⟩, .slice none 0 0] 89 (0, 0))
  | _ => True
theorem relB_mono (g N : Nat) (A0 : Option Addr) (c0 : Nat) (t : ByteArray) (b : Nat) (es : List Ent) (base : Nat) (i : Nat) (u : Value) (W W' : World) (hB : Below W.heap.size W W') (h : relB g N A0 c0 t b es base i u W) : relB g N A0 c0 t b es base i u W' := by
  rcases i with _ | _ | _ | _ | _ | _ | _ | _ | _ | _ | _ | i
  all_goals first | exact h | skip
  · obtain ⟨q, c, h1, h2⟩ := h
    exact ⟨q, c, h1, owns_keep h2 hB⟩
  · obtain ⟨q, c, h1, h2⟩ := h
    exact ⟨q, c, h1, owns_keep h2 hB⟩
  · obtain ⟨q, h1, h2, h3⟩ := h
    exact ⟨q, h1, h2, (hB.block q (Array.getElem?_eq_some_iff.1 h3).1).trans h3⟩

theorem owns_base {w : World} {base base' : Nat} {e : TypeId} {size : Nat} {v : Value} {n : Nat} {xs : List Value} (h : w.ownsRow base e size v n xs) (hb : base' ≤ base) : w.ownsRow base' e size v n xs := by
  refine ⟨h.1, ?_⟩
  rcases h.2 with hn | ⟨g, cap, cur, rfl, hb', rest⟩
  · exact .inl hn
  · exact .inr ⟨g, cap, cur, rfl, Nat.le_trans hb hb', rest⟩
theorem there3 {w : World} {q : Nat} {x y z : Value} {t : TypeId} (h : w.heap[q]? = some (.cells #[x, y, z] t (0, 0))) : w.there q 0 3 := by
  intro j hj
  refine ⟨?_, frozen_of_row w q _ _ _ h⟩
  rw [cell_of_row w q _ _ _ _ h]
  rcases j with _ | _ | _ | j
  · rfl
  · rfl
  · rfl
  · omega


theorem LedB.form {w : World} {g : Nat} {ow : ByteArray} {ma mh : Nat} {v : Value} {pl : List (Pst × Value)} {na : Nat} {A : Key → Option Acc} {hl : List (ByteArray × Value)} {S : Nat → Prop} (h : LedB w g ow ma mh v pl na A hl S) : ∃ A0 c0, v = .slice A0 pl.length c0 := by
  obtain ⟨la, h, h3⟩ := h
  rcases h.row.2 with ⟨rfl, h0⟩ | ⟨b', cap, cur, rfl, _⟩
  · exact ⟨none, 0, by rw [h0]⟩
  · exact ⟨_, _, rfl⟩

theorem LedAt.more {w : World} {g : Nat} {ow : ByteArray} {na : Nat} {A : Key → Option Acc} {ps : List Pst} {hl : List (ByteArray × Value)} {S T : Nat → Prop} (h : LedAt w g ow na A ps hl S) (hT : ∀ k, S k → T k) (hl' : ∀ k, T k → k < w.heap.size) : LedAt w g ow na A ps hl T := by
  obtain ⟨ma, mh, v, pl, la, h, h2⟩ := h
  exact ⟨ma, mh, v, pl, la, h.more hT hl', h2⟩
/-- The built-in append, where its run is known. -/
theorem wp_append_run {P : Program} {o : Oper} {a : Act} {w w' : World} {K : Act → World → Prop} {Q : Exit → Act → World → Prop} (s x : Operand) {t : TypeId} {v u r : Value}
    (ho : o.op = .call { callee := .builtin .append, args := #[s, x], argTypes := #[t, t] }) (hs : a.eval s = v) (hx : a.eval x = u)
    (hr : (Builtin.append_ #[t, t] o.type #[v, u]).run P w = .ok r w') (h : K (a.put o.dst r) w') : o.wp P a w K Q := by
  unfold Oper.wp execOp
  simp only [ho, resolve, invoke, builtin, Sem.run_bind, Sem.run_pure, Result.andThen_ok, List.map_toArray, List.map_cons, List.map_nil, hs, hx, hr]
  exact h

set_option maxRecDepth 100000 in
set_option maxHeartbeats 4000000 in
theorem book_any (g : Nat) (ow : ByteArray) (na : Nat) (A : Key → Option Acc) (ps : List Pst) (hl : List (ByteArray × Value)) (S : Nat → Prop) (t : ByteArray) (b mc : Nat) (e1 e2 : Ent) (cl : List (Key × Int)) (w : World) (h : LedAt w g ow na A ps hl S)
    (hx : w.ownsRow 0 57 3 (.slice (some ⟨b, 0, none⟩) 2 2) 2 (eflat [e1, e2])) (hxS : ¬ S b) (hps : ps.length < 4096) (hcl : MapAt ek w mc (clV cl)) (hcS : ¬ S mc)
    (hA : ∀ p ∈ cl, ∃ a, A p.1 = some a ∧ -9223372036854775808 ≤ a.bal + p.2 ∧ a.bal + p.2 ≤ 9223372036854775807) :
    Calls Tryd.prog 33 #[.pointer (some ⟨g, 0, none⟩), .string t, .slice (some ⟨b, 0, none⟩) 2 2, .map (some mc)] w fun x w' => x = .returned (.int .i64 (ps.length + 1)) ∧ LedAt w' g ow na (chgA A cl) (ps ++ [⟨ps.length + 1, t, [e1, e2]⟩]) hl (grow S w w') ∧ Chg S w w' := by
  obtain ⟨ma, mh, v, pl, hB, rfl⟩ := h.open
  have HN := Lib.hid (show (cl.map (·.1)).Nodup by
    obtain ⟨es, c, hm⟩ := hcl
    have := hm.keys
    unfold clV at this
    rw [List.map_map] at this
    exact this)
  obtain ⟨w0, hrg, hit, hb0, hs0⟩ := run_range hcl (T := 84) (K := 72) (E := 2) Tryd.underlying84
  have HL := Lib.hid (hB.keepB hb0)
  have HX := Lib.hid hx
  have HB0 := Lib.hid hb0
  have HS0 := Lib.hid hs0
  have HIT := Lib.hid hit
  have HA := Lib.hid hA
  have HXS := Lib.hid hxS
  have HCS := Lib.hid hcS
  have HPS := Lib.hid hps
  have HMC := Lib.hid hcl.lt
  have HBL := Lib.hid (owns_lt hx b rfl)
  clear hx hxS hps hcl hcS hA hb0 hs0 hit h
  have HLT := Lib.hid hB.lt
  have HSA := Lib.hid hB.sa
  have HSG := Lib.hid hB.sg
  clear hB
  go_enter Tryd.func33, Tryd.ntmps33
  go_wp2_with fail
  clear hrg
  go_loopg [] cl.length (fun gf wx => ∃ left, IterAt ek wx w.heap.size mc (clV cl) (clV left) ∧ left.length ≤ gf ∧ (∀ p ∈ left, p ∈ cl) ∧ LedB wx g ow ma mh v pl na (mixA A cl left) hl S ∧ Chg S w wx)
  case atStart => exact ⟨cl, HIT.out, Nat.le_refl _, fun p hp => hp, by rw [mixA_all]; exact HL.out, Chg.of_below HB0.out⟩
  case round =>
    obtain ⟨left, hit, hlen, hsub, hled, hchg⟩ := hrel
    rcases run_next klKey hit 0 with ⟨h0, hnx⟩ | ⟨k, v0, wn, hkv, hnx, hit2, hcur, hg2, hs2⟩
    · obtain rfl := clV_nil h0
      rw [mixA_nil] at hled
      have HLD := Lib.hid hled
      have HCH := Lib.hid hchg
      clear hit hlen hsub hled hchg h0
      go_wp2_with fail
      obtain ⟨A0, c0, rfl⟩ := HLD.out.form
      have HXR := Lib.hid (owns_chg HX.out HCH.out (fun i hi => by cases hi; exact HXS.out))
      clear hnx
      refine region_rel 11 [37, 38, 39, 40, 41, 42, 43, 44, 45, 46, 12] (relB g pl.length A0 c0 t b [e1, e2] wr.heap.size) (by kernel_rfl) (by kernel_rfl) (relB_mono g pl.length A0 c0 t b [e1, e2] wr.heap.size) ?_ ?_
      · intro i o hi ho τ W hW hd
        have hW' : Below wr.heap.size wr W := ⟨hW.os, hW.tape, hW.output, hW.size, hW.block⟩
        have HLW := Lib.hid (HLD.out.keepB hW')
        have HXW := Lib.hid (owns_keep HXR.out hW')
        have HW := Lib.hid hW'
        clear hW hW'
        rcases i with _ | _ | _ | _ | _ | _ | _ | _ | _ | _ | _ | i
        all_goals (try (exfalso; omega))
        all_goals (simp at ho; subst ho)
        all_goals (simp [dstAt, Region.binds, relB] at hd)
        · (intro K hK; simp only [putAll, Act.put, List.setIfInBounds_toArray, List.set_cons_succ, List.set_cons_zero] at hK ⊢; (try simp only [hd] at hK ⊢); go_simp); exact hK _ _ (Below.refl _ _) rfl
        · (intro K hK; simp only [putAll, Act.put, List.setIfInBounds_toArray, List.set_cons_succ, List.set_cons_zero] at hK ⊢; (try simp only [hd] at hK ⊢); go_simp); exact hK _ _ (Below.refl _ _) rfl
        · (intro K hK; simp only [putAll, Act.put, List.setIfInBounds_toArray, List.set_cons_succ, List.set_cons_zero] at hK ⊢; (try simp only [hd] at hK ⊢); go_simp); exact hK _ _ (Below.refl _ _) rfl
        · have hc := HLW.out.c2
          (intro K hK; simp only [putAll, Act.put, List.setIfInBounds_toArray, List.set_cons_succ, List.set_cons_zero] at hK ⊢; (try simp only [hd] at hK ⊢); go_simp); exact hK _ _ (Below.refl _ _) rfl
        · (intro K hK; simp only [putAll, Act.put, List.setIfInBounds_toArray, List.set_cons_succ, List.set_cons_zero] at hK ⊢; (try simp only [hd] at hK ⊢); go_simp); exact hK _ _ (Below.refl _ _) rfl
        · have hpw : IntKind.i64.wrap ((pl.length : Int) + 1) = pl.length + 1 := IntWalk.i64_in _ (by have := HPS.out; simp at this; omega)
          (intro K hK; simp only [putAll, Act.put, List.setIfInBounds_toArray, List.set_cons_succ, List.set_cons_zero] at hK ⊢; (try simp only [hd] at hK ⊢); go_simp); exact hK _ _ (Below.refl _ _) rfl
        · (intro K hK; simp only [putAll, Act.put, List.setIfInBounds_toArray, List.set_cons_succ, List.set_cons_zero] at hK ⊢; (try simp only [hd] at hK ⊢); go_simp); exact hK _ _ (Below.refl _ _) rfl
        · (intro K hK; simp only [putAll, Act.put, List.setIfInBounds_toArray, List.set_cons_succ, List.set_cons_zero] at hK ⊢; (try simp only [hd] at hK ⊢); go_simp); exact hK _ _ (Below.refl _ _) rfl
        · (intro K hK; simp only [putAll, Act.put, List.setIfInBounds_toArray, List.set_cons_succ, List.set_cons_zero] at hK ⊢; (try simp only [hd] at hK ⊢); go_simp)
          refine (clone46_any ⟨b, 0, none⟩ 2 [e1, e2] W (by simp) (by simp) 0 HXW.out).mono ?_
          rintro x w2 ⟨v, rfl, ho, hb⟩
          obtain ⟨q, c, rfl, -, -⟩ := ho.form (by simp)
          exact hK _ _ hb ⟨q, c, rfl, owns_base ho HW.out.size⟩
        · obtain ⟨hd1, hd2, q, c, hd3, ho⟩ := hd
          have HO := Lib.hid ho
          have hd := And.intro hd1 (And.intro hd2 hd3)
          clear ho hd1 hd2 hd3
          (intro K hK; simp only [putAll, Act.put, List.setIfInBounds_toArray, List.set_cons_succ, List.set_cons_zero] at hK ⊢; (try simp only [hd] at hK ⊢); go_simp); exact hK _ _ (Below.refl _ _) ⟨q, c, rfl, HO.out⟩
        · (intro K hK; simp only [putAll, Act.put, List.setIfInBounds_toArray, List.set_cons_succ, List.set_cons_zero] at hK ⊢; (try simp only [hd] at hK ⊢); go_simp); exact hK _ _ (below_new _ _) ⟨_, rfl, HW.out.size, heap_alloc_new _ _⟩
      · intro τ W hW hr
        have hW' : Below wr.heap.size wr W := ⟨hW.os, hW.tape, hW.output, hW.size, hW.block⟩
        have r0 := hr 0 (by decide) 37 rfl
        have r1 := hr 1 (by decide) 38 rfl
        have r2 := hr 2 (by decide) 39 rfl
        have r3 := hr 3 (by decide) 40 rfl
        have r4 := hr 4 (by decide) 41 rfl
        have r5 := hr 5 (by decide) 42 rfl
        have r6 := hr 6 (by decide) 43 rfl
        have r7 := hr 7 (by decide) 44 rfl
        obtain ⟨q8, c8, r8, o8⟩ := hr 8 (by decide) 45 rfl
        obtain ⟨qe, ce, r9, o9⟩ := hr 9 (by decide) 46 rfl
        obtain ⟨q, r10, hq, hqb⟩ := hr 10 (by decide) 12 rfl
        simp only [relB] at r0 r1 r2 r3 r4 r5 r6 r7
        have HLW := Lib.hid (HLD.out.keepB hW')
        have HCW := Lib.hid (HCH.out.trans (T := S) (Chg.of_below hW') (fun i hi => Or.inl hi))
        have HQ := Lib.hid (show w.heap.size ≤ q from Nat.le_trans HCH.out.size hq)
        have HQB := Lib.hid hqb
        have HOE := Lib.hid (owns_base (base' := w.heap.size) o9 HCH.out.size)
        clear hW hW' o8 o9 hq hqb hr
        simp only [List.drop_succ_cons, List.drop_zero, putAll, Act.put, List.setIfInBounds_toArray, List.set_cons_succ, List.set_cons_zero, r0, r1, r2, r3, r4, r5, r6, r7, r8, r9, r10]
        clear r0 r1 r2 r3 r4 r5 r6 r7 r8 r9 r10
        refine wpList_store_mid rfl 89 (.tmp 12) (.tmp 46) rfl q 0 #[.int .i64 (pl.length + 1), .string t, .slice (some ⟨qe, 0, none⟩) 2 ce] rfl rfl (there3 HQB.out) (by kernel_rfl) (by simp [Value.oneCell']) ?_
        refine wpList_nil ?_
        obtain ⟨w7, hw7⟩ : ∃ w7, w7 = W.setCells q 0 [.int .i64 (pl.length + 1), .string t, .slice (some ⟨qe, 0, none⟩) 2 ce] := ⟨_, rfl⟩
        show (Exit.then _ _ : Exit → Act → World → Prop) Exit.normal _ (W.setCells q 0 [.int .i64 (pl.length + 1), .string t, .slice (some ⟨qe, 0, none⟩) 2 ce])
        rw [← hw7]
        have hg7 : W.grownBy w7 (some q) := hw7 ▸ set3_grown W q _ _ _
        have HR7 := Lib.hid (show w7.heap[q]? = some (.cells #[.int .i64 (pl.length + 1), .string t, .slice (some ⟨qe, 0, none⟩) 2 ce] 89 (0, 0)) from hw7 ▸ set3_heap HQB.out)
        have HNQ := Lib.hid (show ¬ S q from fun hs => by have := HLT.out q hs; have := HQ.out; omega)
        have HL7 := Lib.hid (HLW.out.keepG hg7 HNQ.out)
        have HC7 := Lib.hid (HCW.out.trans (T := fun k => k = q) (Chg.of_grown hg7 (fun k hk => (Option.some.inj hk).symm)) (fun i hi => Or.inr (by have := HQ.out; omega)))
        have HO7 := Lib.hid (owns_at (w' := w7) HOE.out (fun b' cs hb hcs => hg7.block b' (Array.getElem?_eq_some_iff.1 hcs).1 (fun e => by have := Option.some.inj e; subst this; have := HQB.out; rw [hcs] at this; cases this)))
        clear hw7 hg7
        obtain ⟨gp, cap, w9, hap, hg9, hk9, hl9, hc9, hgp⟩ := post_append HL7.out ⟨pl.length + 1, t, [e1, e2]⟩ qe 2 ce w.heap.size HO7.out (by have := HPS.out; simp at this; omega)
        have HAP := Lib.hid hap
        have HG9 := Lib.hid (hg9.trans HL7.out.blk)
        have HR9 := Lib.hid ((hk9 q (Array.getElem?_eq_some_iff.1 HR7.out).1 HNQ.out).trans HR7.out)
        have HL9 := Lib.hid hl9
        have HC9 := Lib.hid hc9
        have HGP := Lib.hid hgp
        clear hap hg9 hk9 hl9 hc9 hgp
        simp only [Act.put]
        go_wp2_with fail
        refine region_lays 8 [47, 48, 49, 50, 51, 52, 53, 54] [6, 7] (asg [(47, .pointer (some ⟨g, 0, none⟩)), (48, .pointer (some ⟨g, 0, none⟩)), (49, .pointer (some ⟨g, 0, none⟩)), (50, .pointer (some ⟨g, 2, none⟩)), (51, .slice A0 pl.length c0),
            (52, .agg #[.int .i64 (pl.length + 1), .string t, .slice (some ⟨qe, 0, none⟩) 2 ce]), (53, .slice (some ⟨w7.heap.size, 0, none⟩) 1 1), (54, .slice (some ⟨gp, 0, none⟩) (pl.length + 1) cap)])
          (fun W => W.heap[g]? = some (.cells (ledC ow ma (.slice A0 pl.length c0) mh) 70 (0, 0)) ∧ W.heap[q]? = some (.cells #[.int .i64 (pl.length + 1), .string t, .slice (some ⟨qe, 0, none⟩) 2 ce] 89 (0, 0)))
          (fun m => if m = 0 then w7.drew else if m = 1 then (w7.alloc (.cells #[.int .i64 (pl.length + 1), .string t, .slice (some ⟨qe, 0, none⟩) 2 ce] 89)).drew else w9) (by kernel_rfl) (by kernel_rfl) rfl ?_ ?_ ?_ ?_
        · intro m _
          by_cases hm0 : m = 0
          · rw [if_pos hm0]; exact ⟨HL7.out.blk, HR7.out⟩
          · rw [if_neg hm0]
            by_cases hm1 : m = 1
            · rw [if_pos hm1]
              exact ⟨(Below.heap_alloc w7 _ g (HL7.out.lt g HL7.out.sg)).trans HL7.out.blk, (Below.heap_alloc w7 _ q (Array.getElem?_eq_some_iff.1 HR7.out).1).trans HR7.out⟩
            · rw [if_neg hm1]; exact ⟨HG9.out, HR9.out⟩
        · intro i o hi hiC ho τ W hR hd
          have R1 := cell_of_row W g 2 _ _ _ hR.1
          have R2 := hR.2
          simp only [ledC] at R1
          clear hR
          rcases i with _ | _ | _ | _ | _ | _ | _ | _ | i
          all_goals (try (exfalso; omega))
          all_goals (try (exfalso; revert hiC; decide))
          all_goals (simp at ho; subst ho)
          all_goals (simp [dstAt, Region.binds, asg] at hd)
          · (intro K hK; simp only [left1, Option.getD_some, Option.getD_none, putAll, asg, ↓reduceIte, Nat.reduceEqDiff, Act.put, List.setIfInBounds_toArray, List.set_cons_succ, List.set_cons_zero] at hK ⊢; (try simp only [hd] at hK ⊢); go_simp; exact hK)
          · (intro K hK; simp only [left1, Option.getD_some, Option.getD_none, putAll, asg, ↓reduceIte, Nat.reduceEqDiff, Act.put, List.setIfInBounds_toArray, List.set_cons_succ, List.set_cons_zero] at hK ⊢; (try simp only [hd] at hK ⊢); go_simp; exact hK)
          · (intro K hK; simp only [left1, Option.getD_some, Option.getD_none, putAll, asg, ↓reduceIte, Nat.reduceEqDiff, Act.put, List.setIfInBounds_toArray, List.set_cons_succ, List.set_cons_zero] at hK ⊢; (try simp only [hd] at hK ⊢); go_simp; exact hK)
          · (intro K hK; simp only [left1, Option.getD_some, Option.getD_none, putAll, asg, ↓reduceIte, Nat.reduceEqDiff, Act.put, List.setIfInBounds_toArray, List.set_cons_succ, List.set_cons_zero] at hK ⊢; (try simp only [hd] at hK ⊢); go_simp; exact hK)
          · (intro K hK; simp only [left1, Option.getD_some, Option.getD_none, putAll, asg, ↓reduceIte, Nat.reduceEqDiff, Act.put, List.setIfInBounds_toArray, List.set_cons_succ, List.set_cons_zero] at hK ⊢; (try simp only [hd] at hK ⊢); go_simp; exact hK)
          · (intro K hK; simp only [left1, Option.getD_some, Option.getD_none, putAll, asg, ↓reduceIte, Nat.reduceEqDiff, Act.put, List.setIfInBounds_toArray, List.set_cons_succ, List.set_cons_zero] at hK ⊢; (try simp only [hd] at hK ⊢); refine wp_load_row _ _ rfl _ rfl 89 _ (0, 0) _ R2 Tryd.underlying89 rfl (by kernel_rfl) ?_; exact hK)
        · intro k o hk ho τ hR hd
          rcases k with _ | _ | k
          all_goals (first | (exfalso; simp at hk; done) | (exfalso; simp at hk; omega) | skip)
          all_goals (simp at ho; subst ho)
          all_goals (simp [dstAt, Region.binds, asg] at hd)
          · rw [if_pos rfl, if_neg (by decide), if_pos rfl]
            (intro K hK; simp only [left1, Option.getD_some, Option.getD_none, putAll, asg, ↓reduceIte, Nat.reduceEqDiff, Act.put, List.setIfInBounds_toArray, List.set_cons_succ, List.set_cons_zero] at hK ⊢; (try simp only [hd] at hK ⊢); go_simp; exact hK)
          · rw [if_neg (by decide), if_pos rfl, if_neg (by decide), if_neg (by decide)]
            intro K hK
            simp only [left1, Option.getD_some, Option.getD_none, putAll, asg, ↓reduceIte, Nat.reduceEqDiff, Act.put, List.setIfInBounds_toArray, List.set_cons_succ, List.set_cons_zero] at hK ⊢
            obtain ⟨hd1, hd2⟩ := hd
            refine wp_append_run (.tmp 51) (.tmp 53) rfl (by simp [Act.eval, hd1]) (by simp [Act.eval, hd2]) HAP.out ?_
            exact hK
        · (simp only [List.drop_succ_cons, List.drop_zero, List.drop_nil, List.length_cons, List.length_nil, Nat.zero_add, Nat.reduceAdd, putAll, asg, ↓reduceIte, Nat.reduceEqDiff, Act.put, List.setIfInBounds_toArray, List.set_cons_succ, List.set_cons_zero]; first | refine wpList_nil ?_ | skip)
          have hcg := cell_of_row w9 g 2 _ _ _ HG9.out
          have hfg : w9.frozen? ⟨g, 2, none⟩ = false := frozen_of_row w9 g 2 _ _ HG9.out
          simp only [ledC] at hcg
          have hq9 := cell_of_row w9 q 0 _ _ _ HR9.out
          have hqg : q ≠ g := fun e => HNQ.out (e ▸ HSG.out)
          have hqg' : ¬ g = q := fun e => hqg e.symm
          simp only [List.getElem?_toArray, List.getElem?_cons_zero] at hq9
          go_wp2
          go_returns
          have hsz : w7.heap.size ≤ (w9.setCell ⟨g, 2, none⟩ (.slice (some ⟨gp, 0, none⟩) (pl.length + 1) cap)).heap.size := HC9.out.size
          refine ⟨by simp, ?_, HC7.out.trans HC9.out (fun i hi => Or.inl hi)⟩
          have hat := HL9.out.at
          rw [List.map_append] at hat
          refine LedAt.more (by simpa using hat) ?_ ?_
          · intro k hk
            have hkl := HL9.out.lt k hk
            rcases hk with hk | rfl | rfl
            · exact Or.inl hk
            · exact Or.inr ⟨(HO7.out.lt _ rfl).1, hkl⟩
            · rcases HGP.out with h | h
              · exact Or.inl h
              · exact Or.inr ⟨Nat.le_trans HC7.out.size h, hkl⟩
          · intro k hk
            rcases hk with hk | hk
            · have := HLT.out k hk
              have := HC7.out.size
              omega
            · exact hk.2
    · obtain ⟨n, rfl, hkn⟩ := clV_mem hkv
      obtain ⟨a, ha, hb1, hb2⟩ := HA.out (k, n) (hsub _ hkn)
      have hla := drop_lt hkn
      obtain ⟨gf, rfl⟩ : ∃ gf, gk = gf + 1 := ⟨gk - 1, by omega⟩
      have hnS : ¬ S w.heap.size := fun h => by have := HLT.out _ h; omega
      have HL2 := Lib.hid (hled.keepG hg2 hnS)
      have HC2 := Lib.hid (hchg.trans (T := fun k => k = w.heap.size) (Chg.of_grown hg2 (fun k hk => (Option.some.inj hk).symm)) (fun i hi => Or.inr (by omega)))
      have hen := hcur.run (P := Tryd.prog)
      rw [clV_filter] at hit2
      have HIT2 := Lib.hid hit2
      have HSUB := Lib.hid hsub
      have HLEN := Lib.hid hlen
      have HLA := Lib.hid hla
      have HKN := Lib.hid hkn
      have HAK := Lib.hid ha
      have HNS := Lib.hid hnS
      have hw : IntKind.i64.wrap (a.bal + n) = a.bal + n := IntWalk.i64_in _ (by omega)
      clear hit hlen hsub hled hchg hkv hcur hg2 hs2 hkn ha hla hit2 hnS hb1 hb2
      obtain ⟨kc, ku⟩ := k
      obtain ⟨af, ab, ah⟩ := a
      simp only [ek] at hnx hen
      go_wp2_with fail
      obtain ⟨wk, hwk⟩ : ∃ wk, wk = wn.alloc (.cells #[.string kc, .string ku] 72) := ⟨_, rfl⟩
      rw [← hwk]
      have HBK := Lib.hid (show Below wn.heap.size wn wk from hwk ▸ below_new _ _)
      have HRK := Lib.hid (show wk.heap[wn.heap.size]? = some (.cells #[.string kc, .string ku] 72 (0, 0)) from hwk ▸ heap_alloc_new _ _)
      have HSK := Lib.hid (show wk.heap.size = wn.heap.size + 1 by rw [hwk]; simp)
      clear hwk hnx hen
      have HLK := Lib.hid (HL2.out.keepB HBK.out)
      have hak : mixA A cl left (kc, ku) = some ⟨af, ab, ah⟩ := (mixA_in A HKN.out).trans HAK.out
      have HMK := Lib.hid hak
      clear hak
      have key : ∀ W, Below wk.heap.size wk W → W.cell? ⟨g, 1, none⟩ = some (.map (some ma)) ∧ W.heap[wn.heap.size]? = some (.cells #[.string kc, .string ku] 72 (0, 0)) ∧
          (Instr.lookup 67 (.map (some ma)) (.agg #[.string kc, .string ku]) false).run Tryd.prog W = .ok (.agg #[.int .i64 af, .int .i64 ab, .int .i64 ah]) W := by
        intro W hB
        have h1 := HLK.out.keepB hB
        exact ⟨h1.c1, (hB.block wn.heap.size (by have := HSK.out; omega)).trans HRK.out, h1.look (kc, ku) HMK.out false⟩
      have KEY := Lib.hid key
      clear key
      refine region_lays 8 [20, 21, 22, 23, 24, 25, 11] [6, 7] (asg [(20, .pointer (some ⟨g, 0, none⟩)), (21, .pointer (some ⟨g, 0, none⟩)), (22, .pointer (some ⟨g, 1, none⟩)), (23, .map (some ma)),
          (24, .agg #[.string kc, .string ku]), (25, .agg #[.int .i64 af, .int .i64 ab, .int .i64 ah]), (11, .pointer (some ⟨wk.heap.size, 0, none⟩))])
        (fun W => W.cell? ⟨g, 1, none⟩ = some (.map (some ma)) ∧ W.heap[wn.heap.size]? = some (.cells #[.string kc, .string ku] 72 (0, 0)) ∧
          (Instr.lookup 67 (.map (some ma)) (.agg #[.string kc, .string ku]) false).run Tryd.prog W = .ok (.agg #[.int .i64 af, .int .i64 ab, .int .i64 ah]) W)
        (fun m => if m = 0 then wk.drew else if m = 1 then (wk.alloc (.cells #[.int .i64 0, .int .i64 0, .int .i64 0] 74)).drew else (wk.alloc (.cells #[.int .i64 af, .int .i64 ab, .int .i64 ah] 74)).drew) (by kernel_rfl) (by kernel_rfl) rfl ?_ ?_ ?_ ?_
      · intro m _
        by_cases hm0 : m = 0
        · rw [if_pos hm0]; exact KEY.out _ ((Below.refl _ _).drew)
        · rw [if_neg hm0]
          by_cases hm1 : m = 1
          · rw [if_pos hm1]; exact KEY.out _ ((below_new _ _).drew)
          · rw [if_neg hm1]; exact KEY.out _ ((below_new _ _).drew)
      · intro i o hi hiC ho τ W hR hd
        obtain ⟨R1, R2, R3⟩ := hR
        rcases i with _ | _ | _ | _ | _ | _ | _ | _ | i
        all_goals (try (exfalso; omega))
        all_goals (try (exfalso; revert hiC; decide))
        all_goals (simp at ho; subst ho)
        all_goals (simp [dstAt, Region.binds, asg] at hd)
        · (intro K hK; simp only [left1, Option.getD_some, Option.getD_none, putAll, asg, ↓reduceIte, Nat.reduceEqDiff, Act.put, List.setIfInBounds_toArray, List.set_cons_succ, List.set_cons_zero] at hK ⊢; (try simp only [hd] at hK ⊢); go_simp; exact hK)
        · (intro K hK; simp only [left1, Option.getD_some, Option.getD_none, putAll, asg, ↓reduceIte, Nat.reduceEqDiff, Act.put, List.setIfInBounds_toArray, List.set_cons_succ, List.set_cons_zero] at hK ⊢; (try simp only [hd] at hK ⊢); go_simp; exact hK)
        · (intro K hK; simp only [left1, Option.getD_some, Option.getD_none, putAll, asg, ↓reduceIte, Nat.reduceEqDiff, Act.put, List.setIfInBounds_toArray, List.set_cons_succ, List.set_cons_zero] at hK ⊢; (try simp only [hd] at hK ⊢); go_simp; exact hK)
        · (intro K hK; simp only [left1, Option.getD_some, Option.getD_none, putAll, asg, ↓reduceIte, Nat.reduceEqDiff, Act.put, List.setIfInBounds_toArray, List.set_cons_succ, List.set_cons_zero] at hK ⊢; (try simp only [hd] at hK ⊢); go_simp; exact hK)
        · (intro K hK; simp only [left1, Option.getD_some, Option.getD_none, putAll, asg, ↓reduceIte, Nat.reduceEqDiff, Act.put, List.setIfInBounds_toArray, List.set_cons_succ, List.set_cons_zero] at hK ⊢; (try simp only [hd] at hK ⊢); refine wp_load_row _ _ rfl _ rfl 72 _ (0, 0) _ R2 Tryd.underlying72 rfl (by kernel_rfl) ?_; exact hK)
        · (intro K hK; simp only [left1, Option.getD_some, Option.getD_none, putAll, asg, ↓reduceIte, Nat.reduceEqDiff, Act.put, List.setIfInBounds_toArray, List.set_cons_succ, List.set_cons_zero] at hK ⊢; (try simp only [hd] at hK ⊢); go_simp; exact hK)
      · intro k o hk ho τ hR hd
        rcases k with _ | _ | k
        all_goals (first | (exfalso; simp at hk; done) | (exfalso; simp at hk; omega) | skip)
        all_goals (simp at ho; subst ho)
        all_goals (simp [dstAt, Region.binds, asg] at hd)
        · rw [if_pos rfl, if_neg (by decide), if_pos rfl]
          (intro K hK; simp only [left1, Option.getD_some, Option.getD_none, putAll, asg, ↓reduceIte, Nat.reduceEqDiff, Act.put, List.setIfInBounds_toArray, List.set_cons_succ, List.set_cons_zero] at hK ⊢; (try simp only [hd] at hK ⊢); go_simp; exact hK)
        · rw [if_neg (by decide), if_pos rfl, if_neg (by decide), if_neg (by decide)]
          (intro K hK; simp only [left1, Option.getD_some, Option.getD_none, putAll, asg, ↓reduceIte, Nat.reduceEqDiff, Act.put, List.setIfInBounds_toArray, List.set_cons_succ, List.set_cons_zero] at hK ⊢; (try simp only [hd] at hK ⊢); go_simp; exact hK)
      · (simp only [List.drop_succ_cons, List.drop_zero, List.drop_nil, List.length_cons, List.length_nil, Nat.zero_add, Nat.reduceAdd, putAll, asg, ↓reduceIte, Nat.reduceEqDiff, Act.put, List.setIfInBounds_toArray, List.set_cons_succ, List.set_cons_zero]; first | refine wpList_nil ?_ | skip)
        go_wp2_with fail
        obtain ⟨w5, hw5⟩ : ∃ w5, w5 = (wk.alloc (.cells #[.int .i64 af, .int .i64 (ab + n), .int .i64 ah] 74)).drew := ⟨_, rfl⟩
        rw [← hw5]
        have HB5 := Lib.hid (show Below wk.heap.size wk w5 from hw5 ▸ (below_new _ _).drew)
        have HS5 := Lib.hid (show w5.heap.size = wk.heap.size + 1 by rw [hw5]; show (wk.heap.push _).size = _; simp)
        have HR5 := Lib.hid (show w5.heap[wk.heap.size]? = some (.cells #[.int .i64 af, .int .i64 (ab + n), .int .i64 ah] 74 (0, 0)) from hw5 ▸ heap_alloc_new _ _)
        have HRK5 := Lib.hid ((HB5.out.block wn.heap.size (by have := HSK.out; omega)).trans HRK.out)
        have HL5 := Lib.hid ((HLK.out.keepB HB5.out).keepB (w' := w5.drew) ((Below.refl _ _).drew))
        clear hw5
        obtain ⟨w6, hr6, hl6, hg6, hs6⟩ := HL5.out.upd (kc, ku) HMK.out ⟨af, ab + n, ah⟩
        rw [mixA_step A HN.out (HSUB.out _ HKN.out) HAK.out] at hl6
        have hcur6 : IterAt ek w6 w.heap.size mc (clV cl) (clV (left.filter fun p => decide (p.1 ≠ (kc, ku)))) := by
          have hsz : w.heap.size ≤ wn.heap.size := HC2.out.size
          have hlt := HIT2.out.lt
          have hmlt := HIT2.out.map.lt
          have e1 : w5.heap[mc]? = wn.heap[mc]? := (HB5.out.block mc (by have := HSK.out; omega)).trans (HBK.out.block mc hmlt)
          have e2 : w5.heap[w.heap.size]? = wn.heap[w.heap.size]? := (HB5.out.block _ (by have := HSK.out; omega)).trans (HBK.out.block _ hlt)
          have hma := HLT.out _ HSA.out
          refine HIT2.out.keep ?_ ?_
          · rw [← e1]
            exact hg6.block mc (by show mc < w5.heap.size; have := HS5.out; have := HSK.out; omega) (fun e => HCS.out (by rw [Option.some.inj e]; exact HSA.out))
          · rw [← e2]
            exact hg6.block _ (by show _ < w5.heap.size; have := HS5.out; have := HSK.out; omega) (fun e => by have := Option.some.inj e; omega)
        have HF := Lib.hid (show _ ∧ _ ∧ _ from ⟨hcur6, hl6, ((HC2.out.trans (T := S) (Chg.of_below (bel2 HBK.out HB5.out)) (fun i hi => Or.inl hi)).trans (T := S) (Chg.of_grown (w' := w6) (w := w5.drew) hg6 (fun i hi => by cases hi; exact HSA.out)) (fun i hi => Or.inl hi))⟩)
        have HR6 := Lib.hid hr6
        clear hr6 hl6 hg6 hs6 hcur6
        refine region_lays 6 [31, 32, 33, 34, 35, 36] [] (asg [(31, .pointer (some ⟨g, 0, none⟩)), (32, .pointer (some ⟨g, 0, none⟩)), (33, .pointer (some ⟨g, 1, none⟩)), (34, .map (some ma)),
            (35, .agg #[.string kc, .string ku]), (36, .agg #[.int .i64 af, .int .i64 (ab + n), .int .i64 ah])])
          (fun W => W.cell? ⟨g, 1, none⟩ = some (.map (some ma)) ∧ W.heap[wn.heap.size]? = some (.cells #[.string kc, .string ku] 72 (0, 0)) ∧ W.heap[wk.heap.size]? = some (.cells #[.int .i64 af, .int .i64 (ab + n), .int .i64 ah] 74 (0, 0)))
          (fun _ => w5.drew) (by kernel_rfl) (by kernel_rfl) rfl ?_ ?_ ?_ ?_
        · intro m _
          exact ⟨HL5.out.c1, HRK5.out, HR5.out⟩
        · intro i o hi hiC ho τ W hR hd
          obtain ⟨R1, R2, R3⟩ := hR
          rcases i with _ | _ | _ | _ | _ | _ | i
          all_goals (try (exfalso; omega))
          all_goals (simp at ho; subst ho)
          all_goals (simp [dstAt, Region.binds, asg] at hd)
          · (intro K hK; simp only [left1, Option.getD_some, Option.getD_none, putAll, asg, ↓reduceIte, Nat.reduceEqDiff, Act.put, List.setIfInBounds_toArray, List.set_cons_succ, List.set_cons_zero] at hK ⊢; (try simp only [hd] at hK ⊢); go_simp; exact hK)
          · (intro K hK; simp only [left1, Option.getD_some, Option.getD_none, putAll, asg, ↓reduceIte, Nat.reduceEqDiff, Act.put, List.setIfInBounds_toArray, List.set_cons_succ, List.set_cons_zero] at hK ⊢; (try simp only [hd] at hK ⊢); go_simp; exact hK)
          · (intro K hK; simp only [left1, Option.getD_some, Option.getD_none, putAll, asg, ↓reduceIte, Nat.reduceEqDiff, Act.put, List.setIfInBounds_toArray, List.set_cons_succ, List.set_cons_zero] at hK ⊢; (try simp only [hd] at hK ⊢); go_simp; exact hK)
          · (intro K hK; simp only [left1, Option.getD_some, Option.getD_none, putAll, asg, ↓reduceIte, Nat.reduceEqDiff, Act.put, List.setIfInBounds_toArray, List.set_cons_succ, List.set_cons_zero] at hK ⊢; (try simp only [hd] at hK ⊢); go_simp; exact hK)
          · (intro K hK; simp only [left1, Option.getD_some, Option.getD_none, putAll, asg, ↓reduceIte, Nat.reduceEqDiff, Act.put, List.setIfInBounds_toArray, List.set_cons_succ, List.set_cons_zero] at hK ⊢; (try simp only [hd] at hK ⊢); refine wp_load_row _ _ rfl _ rfl 72 _ (0, 0) _ R2 Tryd.underlying72 rfl (by kernel_rfl) ?_; exact hK)
          · (intro K hK; simp only [left1, Option.getD_some, Option.getD_none, putAll, asg, ↓reduceIte, Nat.reduceEqDiff, Act.put, List.setIfInBounds_toArray, List.set_cons_succ, List.set_cons_zero] at hK ⊢; (try simp only [hd] at hK ⊢); refine wp_load_row _ _ rfl _ rfl 74 _ (0, 0) _ R3 Tryd.underlying74 rfl (by kernel_rfl) ?_; exact hK)
        · intro k o hk
          simp at hk
        · (simp only [List.drop_succ_cons, List.drop_zero, List.drop_nil, List.length_cons, List.length_nil, Nat.zero_add, Nat.reduceAdd, putAll, asg, ↓reduceIte, Nat.reduceEqDiff, Act.put, List.setIfInBounds_toArray, List.set_cons_succ, List.set_cons_zero]; first | refine wpList_nil ?_ | skip)
          have hr6 := HR6.out
          simp only [ek, av] at hr6
          go_wp2
          clear hr6
          go_roundg gf
          case measure => omega
          case rel => exact ⟨_, HF.out.1, by have := HLEN.out; have := HLA.out; omega, fun p hp => HSUB.out p (List.mem_filter.1 hp).1, HF.out.2.1, HF.out.2.2⟩
end Go.Proofs.YtpkiiegadckloaaDoor
