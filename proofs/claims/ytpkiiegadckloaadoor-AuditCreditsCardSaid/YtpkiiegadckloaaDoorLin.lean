/- A line is gathered. -/
import Derived.Test.YtpkiiegadckloaaDoorHds
import Derived.Test.YtpkiiegadckloaaDoorGen
set_option linter.unusedSimpArgs false
set_option linter.unusedVariables false
namespace Go.Proofs.YtpkiiegadckloaaDoor
open Go.RowKit

abbrev sSp : ByteArray := ⟨#[32]⟩
def joinW (ws : List ByteArray) : ByteArray := ⟨(Lib.join (ws.map (·.data.toList)) sSp.data.toList).toArray⟩
theorem info9 : (Tryd.prog.info? 9).map (fun i => (i.zero, i.size, i.bytes)) = some (some (.string ⟨#[]⟩), 1, 16) := by kernel_rfl

/-- Lines that are gathered: the block bl holds a slice of them. -/
structure LinAt (w : World) (base bl : Nat) (ls : List ByteArray) : Prop where
  ex : ∃ v, w.heap[bl]? = some (.cells #[v] 93 (0, 0)) ∧ SRow w base v ls
/-- What the operations of the line yield. -/
def VL (base n bl : Nat) (v0 : Value) (ls : List ByteArray) (bw c : Nat) (ws : List ByteArray) (i : Nat) (u : Value) (W : World) : Prop :=
  match i with
  | 0 => u = .pointer (some ⟨bl, 0, none⟩)
  | 1 => u = .pointer (some ⟨bl, 0, none⟩)
  | 2 => u = .pointer (some ⟨bl, 0, none⟩)
  | 3 => u = v0
  | 4 => u = .slice (some ⟨bw, 0, none⟩) ws.length c
  | 5 => u = .string (joinW ws)
  | 6 => ∃ b, u = .slice (some ⟨b, 0, none⟩) 1 1 ∧ W.heap[b]? = some (.cells #[.string (joinW ws)] 9 (0, 0)) ∧ n ≤ b
  | 7 => SRow W base u (ls ++ [joinW ws]) ∧ u.ownBlock ≠ some bl
  | 8 => u = .pointer (some ⟨bl, 0, none⟩)
  | _ => True
theorem VL6 {base n bl b : Nat} {v0 : Value} {ls : List ByteArray} {bw c : Nat} {ws : List ByteArray} {W : World} (h1 : W.heap[b]? = some (.cells #[.string (joinW ws)] 9 (0, 0))) (h2 : n ≤ b) : VL base n bl v0 ls bw c ws 6 (.slice (some ⟨b, 0, none⟩) 1 1) W := ⟨b, rfl, h1, h2⟩
theorem VL6' {base n bl b : Nat} {v0 u : Value} {ls : List ByteArray} {bw c : Nat} {ws : List ByteArray} {W : World} (h0 : u = .slice (some ⟨b, 0, none⟩) 1 1) (h1 : W.heap[b]? = some (.cells #[.string (joinW ws)] 9 (0, 0))) (h2 : n ≤ b) : VL base n bl v0 ls bw c ws 6 u W := ⟨b, h0, h1, h2⟩
theorem VL7 {base n bl : Nat} {v0 u : Value} {ls : List ByteArray} {bw c : Nat} {ws : List ByteArray} {W : World} (h1 : SRow W base u (ls ++ [joinW ws])) (h2 : u.ownBlock ≠ some bl) : VL base n bl v0 ls bw c ws 7 u W := ⟨h1, h2⟩
def RL (w : World) (base bl : Nat) (v0 : Value) (ls ws : List ByteArray) (L : Nat → Bool) (W : World) : Prop :=
  Chg (fun k => k = bl ∨ v0.ownBlock = some k) w W ∧ (L 7 = false → SRow W base v0 ls) ∧ (L 9 = false → W.heap[bl]? = some (.cells #[v0] 93 (0, 0))) ∧ (L 9 = true → LinAt W base bl (ls ++ [joinW ws])) ∧ (L 9 = true → L 7 = true) ∧ (L 7 = true → L 3 = true)
theorem LinAt.keepB {w w' : World} {base bl : Nat} {ls : List ByteArray} (h : LinAt w base bl ls) (hb : Below w.heap.size w w') : LinAt w' base bl ls := by
  obtain ⟨⟨v, h1, h2⟩⟩ := h
  exact ⟨⟨v, (hb.block bl (Array.getElem?_eq_some_iff.1 h1).1).trans h1, owns_keep h2 hb⟩⟩
theorem VL_keepB {base n bl : Nat} {v0 : Value} {ls : List ByteArray} {bw c : Nat} {ws : List ByteArray} {i : Nat} {u : Value} {W W' : World} (hb : Below W.heap.size W W') (h : VL base n bl v0 ls bw c ws i u W) : VL base n bl v0 ls bw c ws i u W' := by
  rcases i with _ | _ | _ | _ | _ | _ | _ | _ | _ | i
  all_goals first | exact h | skip
  · obtain ⟨b, h1, h2, h3⟩ := h
    exact ⟨b, h1, (hb.block b (Array.getElem?_eq_some_iff.1 h2).1).trans h2, h3⟩
  · exact ⟨owns_keep h.1 hb, h.2⟩
theorem RL_keepB {w : World} {base bl : Nat} {v0 : Value} {ls ws : List ByteArray} {L L' : Nat → Bool} {W W' : World} (h : RL w base bl v0 ls ws L W) (hb : Below W.heap.size W W') (h7 : L' 7 = L 7) (h9 : L' 9 = L 9) (h3 : L 3 = true → L' 3 = true) : RL w base bl v0 ls ws L' W' := by
  obtain ⟨a, b, c, d, e⟩ := h
  unfold RL
  rw [h7, h9]
  exact ⟨a.trans (T := fun _ => False) (Chg.of_below hb) (fun i hi => hi.elim), fun h => owns_keep (b h) hb, fun h => (hb.block bl (Array.getElem?_eq_some_iff.1 (c h)).1).trans (c h), fun h => (d h).keepB hb, e.1, fun h => h3 (e.2 h)⟩
theorem set1_heap {w : World} {bl : Nat} {u v : Value} {t : TypeId} (h : w.heap[bl]? = some (.cells #[u] t (0, 0))) : (w.setCell ⟨bl, 0, none⟩ v).heap[bl]? = some (.cells #[v] t (0, 0)) := by
  have := heap_setCell_same w bl 0 _ t v h
  simpa using this
theorem set1_grown (w : World) (bl : Nat) (v : Value) : w.grownBy (w.setCell ⟨bl, 0, none⟩ v) (some bl) := ⟨rfl, rfl, rfl, by simp, fun k _ hk => heap_setCell_other w ⟨bl, 0, none⟩ k v (fun e => hk (by simp [e]))⟩

attribute [local irreducible] Oper.wp
set_option maxRecDepth 100000 in
set_option maxHeartbeats 8000000 in
theorem lput_any (base bl bw c : Nat) (ls ws : List ByteArray) (w : World) (h : LinAt w base bl ls) (hw : w.ownsRow base 9 1 (.slice (some ⟨bw, 0, none⟩) ws.length c) ws.length (ws.map es)) (hbw : bw ≠ bl) (hfr : ∀ v, w.heap[bl]? = some (.cells #[v] 93 (0, 0)) → v.ownBlock ≠ some bw)
    (hls : ls.length ≤ 100000) (hws : 0 < ws.length) (hws2 : ws.length ≤ 1000) (hj : (Lib.join (ws.map (·.data.toList)) sSp.data.toList).length ≤ 140737488355328) (hbs : base ≤ w.heap.size) :
    Calls Tryd.prog 39 #[.pointer (some ⟨bl, 0, none⟩), .slice (some ⟨bw, 0, none⟩) ws.length c] w fun r w' => r = .returned (.tuple #[]) ∧ LinAt w' base bl (ls ++ [joinW ws]) ∧ Chg (fun k => k = bl ∨ base ≤ k) w w' := by
  obtain ⟨⟨v0, hbl, hr0⟩⟩ := h
  have hvb := hfr v0 hbl
  have hvl : v0.ownBlock ≠ some bl := fun e => by
    rcases hr0.2 with ⟨rfl, _⟩ | ⟨g, cap, cur, rfl, _, hg, _⟩
    · cases e
    · cases e
      rw [hbl] at hg
      cases hg
  have hvb2 : ∀ b, v0.ownBlock = some b → base ≤ b ∧ b < w.heap.size := fun b hb => hr0.lt b hb
  have hbll := (Array.getElem?_eq_some_iff.1 hbl).1
  have hwl := (hw.lt bw rfl).2
  have HBL := Lib.hid hbl
  have HR0 := Lib.hid hr0
  have HW := Lib.hid hw
  have HVB := Lib.hid hvb
  have HVL := Lib.hid hvl
  have HV2 := Lib.hid hvb2
  have HBW := Lib.hid hbw
  have HJ := Lib.hid hj
  have HCP := Lib.hid (show ws.length ≤ c by
    rcases hw.2 with ⟨h, _⟩ | ⟨g, cap, cur, h, _, _, hc, _⟩
    · cases h
    · cases h; exact hc)
  have HLS := Lib.hid hls
  have HWS := Lib.hid (And.intro hws hws2)
  obtain ⟨n0, hn0⟩ : ∃ n0, n0 = w.heap.size := ⟨_, rfl⟩
  have HN0 := Lib.hid hn0
  obtain ⟨i0, hi0, hz0, hz1, hz2⟩ := info_parts info9
  have HI := Lib.hid (And.intro hi0 (And.intro hz0 (And.intro hz1 hz2)))
  obtain ⟨s0, n0', c0', hv0⟩ : ∃ A n cc, v0 = .slice A n cc := by
    obtain ⟨A, cc, h⟩ := SRow.slice hr0
    exact ⟨A, _, cc, h⟩
  have HV0 := Lib.hid hv0
  clear hbl hr0 hw hvb hvl hvb2 hbw hj hls hws hws2 hfr hn0 hi0 hz0 hz1 hz2 hv0
  go_enter Tryd.func39, Tryd.ntmps39
  go_wp2_with fail
  refine region_gen 10 [4, 5, 6, 7, 8, 9, 10, 11, 12] [3, 5, 6, 7, 9] (VL base n0 bl v0 ls bw c ws) (RL w base bl v0 ls ws) (by kernel_rfl) (by kernel_rfl) ?_ ?_ ?_ ?_ ?_
  · exact ⟨Chg.of_below ((Below.refl _ _).drew), fun _ => owns_keep HR0.out ((Below.refl _ _).drew), fun _ => HBL.out, (fun h => by cases h), (fun h => by cases h), fun h => by cases h⟩
  · intro i hi hiC L W hR
    exact RL_keepB hR (Below.refl _ _) (also_ne _ (fun e => hiC (by rw [← e]; decide))) (also_ne _ (fun e => hiC (by rw [← e]; decide))) (fun h => also_old h)
  · intro i o hi hiC ho τ W L hR hdl hd K hK
    rcases i with _ | _ | _ | _ | _ | _ | _ | _ | _ | _ | i
    all_goals (try (exfalso; omega))
    all_goals (try (exfalso; revert hiC; decide))
    all_goals (simp at ho; subst ho)
    all_goals (simp [dstAt, Region.binds, VL] at hd)
    · have hK := hK _ rfl
      clear hR hdl
      simp only [putAll, Act.put, List.setIfInBounds_toArray, List.set_cons_succ, List.set_cons_zero] at hK ⊢; (try simp only [hd] at hK ⊢); go_simp
      exact hK
    · have hK := hK _ rfl
      clear hR hdl
      simp only [putAll, Act.put, List.setIfInBounds_toArray, List.set_cons_succ, List.set_cons_zero] at hK ⊢; (try simp only [hd] at hK ⊢); go_simp
      exact hK
    · have hK := hK _ rfl
      clear hR hdl
      simp only [putAll, Act.put, List.setIfInBounds_toArray, List.set_cons_succ, List.set_cons_zero] at hK ⊢; (try simp only [hd] at hK ⊢); go_simp
      exact hK
    · have hK := hK _ rfl
      clear hR hdl
      simp only [putAll, Act.put, List.setIfInBounds_toArray, List.set_cons_succ, List.set_cons_zero] at hK ⊢; (try simp only [hd] at hK ⊢); go_simp
      exact hK
    · have hK := hK _ rfl
      clear hR hdl
      simp only [putAll, Act.put, List.setIfInBounds_toArray, List.set_cons_succ, List.set_cons_zero] at hK ⊢; (try simp only [hd] at hK ⊢); go_simp
      exact hK
  · intro i o hi hiC ho τ W L hR hLi hdl hd K hK
    rcases i with _ | _ | _ | _ | _ | _ | _ | _ | _ | _ | i
    all_goals (try (exfalso; omega))
    all_goals (try (exfalso; revert hiC; decide))
    all_goals (simp at ho; subst ho)
    all_goals (simp [dstAt, Region.binds, VL] at hd)
    · have l7 : L 7 = false := by
        cases h : L 7 with
        | false => rfl
        | true => rw [hR.2.2.2.2.2 h] at hLi; cases hLi
      have l9 : L 9 = false := by
        cases h : L 9 with
        | false => rfl
        | true => rw [hR.2.2.2.2.1 h] at l7; cases l7
      have hcl := cell_of_row W bl 0 _ _ _ (hR.2.2.1 l9)
      simp only [List.getElem?_toArray, List.getElem?_cons_zero] at hcl
      have hK := hK v0 W (RL_keepB hR (Below.refl _ _) (also_ne _ (by decide)) (also_ne _ (by decide)) (fun h => also_old h)) (fun _ _ _ _ h => h) rfl
      clear hR hdl
      simp only [putAll, Act.put, List.setIfInBounds_toArray, List.set_cons_succ, List.set_cons_zero] at hK ⊢; (try simp only [hd] at hK ⊢); go_simp
      exact hK
    · have HRr := Lib.hid hR
      have hww : W.ownsRow base 9 1 (.slice (some ⟨bw, 0, none⟩) ws.length c) ws.length (ws.map es) := owns_chg HW.out hR.1 (fun b hb hT => by
        cases hb
        rcases hT with h | h
        · exact HBW.out h
        · exact HVB.out h)
      have HWW := Lib.hid hww
      clear hR hdl hww
      simp only [putAll, Act.put, List.setIfInBounds_toArray, List.set_cons_succ, List.set_cons_zero] at hK ⊢; (try simp only [hd] at hK ⊢); go_simp
      refine (Tryd.strings_Join bw 0 c ws sSp W (fun j x hx => by rw [Nat.zero_add, HWW.out.cellAt j (by have := (List.getElem?_eq_some_iff.1 hx).1; omega), List.getElem?_map, hx]; rfl) ((HWW.out.lt bw rfl).2) (by have := HWS.out.2; omega) (by have := HCP.out; omega) HJ.out).mono ?_
      rintro x W1 ⟨rfl, hb⟩
      exact hK _ _ (RL_keepB HRr.out hb (also_ne _ (by decide)) (also_ne _ (by decide)) (fun h => also_old h)) (fun _ _ _ _ h => VL_keepB hb h) rfl
    · have hb := below_new W (.cells #[.string (joinW ws)] 9)
      have hK := hK (.slice (some ⟨W.heap.size, 0, none⟩) 1 1) (W.alloc (.cells #[.string (joinW ws)] 9)) (RL_keepB hR hb (also_ne _ (by decide)) (also_ne _ (by decide)) (fun h => also_old h)) (fun _ _ _ _ h => VL_keepB hb h) (VL6 (heap_alloc_new _ _) (by rw [HN0.out]; exact hR.1.size))
      clear hR hdl hb
      simp only [putAll, Act.put, List.setIfInBounds_toArray, List.set_cons_succ, List.set_cons_zero] at hK ⊢; (try simp only [hd] at hK ⊢); go_simp
      exact hK
    · obtain ⟨hd3, ⟨b, hd6, hdb, hdn⟩, -⟩ := hd
      have hrw := hR.2.1 hLi
      have HRr := Lib.hid hR
      have HRW := Lib.hid hrw
      have HDB := Lib.hid hdb
      have HDN := Lib.hid hdn
      have l9 : L 9 = false := by
        cases h : L 9 with
        | false => rfl
        | true => rw [hR.2.2.2.2.1 h] at hLi; cases hLi
      have l3 : L 3 = true := by
        simp [Region.binds] at hdl
        exact hdl.1
      have HLI := Lib.hid hLi
      have HL9 := Lib.hid l9
      have HL3 := Lib.hid l3
      clear hR hdl hrw hdb hdn l9 l3
      have hd := And.intro hd3 hd6
      simp only [putAll, Act.put, List.setIfInBounds_toArray, List.set_cons_succ, List.set_cons_zero] at hK ⊢
      simp only [hd] at hK ⊢
      refine wp_append_lies _ (.tmp 7) (.tmp 10) 93 (by rfl) base 9 i0 _ 1 16 Tryd.underlying93 HI.out.1 HI.out.2.1 HI.out.2.2.1 HI.out.2.2.2 rfl (by omega) v0 ls.length (ls.map es) (by rfl) HRW.out ⟨b, 0, none⟩ 1 1 [.string (joinW ws)] (by rfl) rfl
        (fun j u hu => by rw [Addr.add_mid, Nat.zero_add, cell_of_row _ _ j _ _ _ HDB.out]; simpa using hu) (fun u hu => by simp at hu; subst hu; rfl) (by omega) (by have := HLS.out; unfold maxLen; omega) (by have := HLS.out; omega) (Nat.le_trans hbs HRr.out.1.size) _ rfl ?_
      intro gq cap W1 ho hg hat hlt
      refine hK _ W1 ⟨HRr.out.1.trans (T := fun k => v0.ownBlock = some k) (Chg.of_grown hg (fun k hk => hk)) (fun i hi => Or.inl (Or.inr hi)), (fun h => by rw [also_self] at h; cases h), (fun _ => ?_), (fun h => ?_), (fun h => ?_), (fun _ => also_old HL3.out)⟩ (fun j u hj hLj hV => ?_) (VL7 ?_ ?_)
      · have hbl := HRr.out.2.2.1 HL9.out
        exact (hg.block bl (Array.getElem?_eq_some_iff.1 hbl).1 (fun e => HVL.out e.symm)).trans hbl
      · rw [also_ne _ (by decide), HL9.out] at h
        cases h
      · exact also_self _ _
      · rcases j with _ | _ | _ | _ | _ | _ | _ | _ | _ | j
        all_goals first | exact hV | skip
        · obtain ⟨b2, e1, e2, e3⟩ := hV
          refine VL6' e1 ((hg.block b2 (Array.getElem?_eq_some_iff.1 e2).1 (fun e => ?_)).trans e2) e3
          have := (HV2.out b2 e.symm).2
          rw [HN0.out] at e3
          omega
        · exfalso
          rw [HLI.out] at hLj
          cases hLj
      · unfold SRow
        rw [List.map_append]
        have h5 := ho
        simp only [List.length_append, List.length_cons, List.length_nil, Nat.zero_add, List.map_cons, List.map_nil, es] at h5 ⊢
        exact h5
      · intro e
        have e2 : gq = bl := Option.some.inj e
        rcases hat with h | h
        · exact HVL.out (by rw [h, e2])
        · have h6 := (Array.getElem?_eq_some_iff.1 (HRr.out.2.2.1 HL9.out)).1
          omega
    · have hd8 : τ 12 = .pointer (some ⟨bl, 0, none⟩) := hd.1
      have hd7 : SRow W base (τ 11) (ls ++ [joinW ws]) ∧ (τ 11).ownBlock ≠ some bl := hd.2.1
      clear hd
      obtain ⟨A7, c7, hsl⟩ := SRow.slice hd7.1
      rw [show (ls ++ [joinW ws]).length = ls.length + 1 by simp] at hsl
      rw [hsl] at hd7
      have l7 : L 7 = true := by
        simp [Region.binds] at hdl
        exact hdl.2.1
      have l3 := hR.2.2.2.2.2 l7
      have hbl := hR.2.2.1 hLi
      have hcl := cell_of_row W bl 0 _ _ _ hbl
      have hfz := frozen_of_row W bl 0 _ _ hbl
      simp only [List.getElem?_toArray, List.getElem?_cons_zero] at hcl
      have hbls := (Array.getElem?_eq_some_iff.1 hbl).1
      have hg := set1_grown W bl (.slice A7 (ls.length + 1) c7)
      have hh := set1_heap (v := .slice A7 (ls.length + 1) c7) hbl
      have hrow : SRow (W.setCell ⟨bl, 0, none⟩ (.slice A7 (ls.length + 1) c7)) base (.slice A7 (ls.length + 1) c7) (ls ++ [joinW ws]) := World.ownsRow.kept hd7.1 hg (Or.inr hd7.2)
      have HRN := Lib.hid (show RL w base bl v0 ls ws (also L 9) (W.setCell ⟨bl, 0, none⟩ (.slice A7 (ls.length + 1) c7)) from
        ⟨hR.1.trans (T := fun k => k = bl) (Chg.of_grown hg (fun k hk => (Option.some.inj hk).symm)) (fun i hi => Or.inl (Or.inl hi)), (fun h => by rw [also_ne _ (by decide), l7] at h; cases h), (fun h => by rw [also_self] at h; cases h), (fun _ => ⟨⟨_, hh, hrow⟩⟩), (fun _ => also_old l7), (fun _ => also_old l3)⟩)
      have HVN := Lib.hid (show ∀ j u, j < 10 → L j = true → VL base n0 bl v0 ls bw c ws j u W → VL base n0 bl v0 ls bw c ws j u (W.setCell ⟨bl, 0, none⟩ (.slice A7 (ls.length + 1) c7)) from fun j u hj hLj hV => by
        rcases j with _ | _ | _ | _ | _ | _ | _ | _ | _ | j
        all_goals first | exact hV | skip
        · obtain ⟨b2, e1, e2, e3⟩ := hV
          exact VL6' e1 ((hg.block b2 (Array.getElem?_eq_some_iff.1 e2).1 (fun e => by have := Option.some.inj e; rw [HN0.out] at e3; omega)).trans e2) e3
        · exact VL7 (World.ownsRow.kept hV.1 hg (Or.inr hV.2)) hV.2)
      have hd := And.intro hd8 hsl
      clear hd8 hsl hd7 l7 l3 hbl hg hh hrow hR hdl
      simp only [putAll, Act.put, List.setIfInBounds_toArray, List.set_cons_succ, List.set_cons_zero] at hK ⊢; (try simp only [hd] at hK ⊢); go_simp
      exact hK undef _ HRN.out HVN.out trivial
  · intro τ W L hL hR hd
    have h1 := hR.2.2.2.1 (hL 9 (by decide))
    have h2 : Chg (fun k => k = bl ∨ base ≤ k) w W := (Chg.of_below (S := fun k => k = bl ∨ base ≤ k) (Below.refl _ w)).trans (T := fun k => k = bl ∨ v0.ownBlock = some k) hR.1 (fun k hk => Or.inl (hk.imp id (fun h => (HV2.out k h).1)))
    have HF := Lib.hid (And.intro h1 h2)
    clear hR hd hL h1 h2
    (simp only [List.drop_succ_cons, List.drop_zero, List.drop_nil, List.length_cons, List.length_nil, Nat.zero_add, Nat.reduceAdd, putAll, asg, ↓reduceIte, Nat.reduceEqDiff, Act.put, List.setIfInBounds_toArray, List.set_cons_succ, List.set_cons_zero]; first | refine wpList_nil ?_ | skip)
    go_wp2
    go_returns
    exact ⟨rfl, HF.out.1, HF.out.2⟩
end Go.Proofs.YtpkiiegadckloaaDoor
