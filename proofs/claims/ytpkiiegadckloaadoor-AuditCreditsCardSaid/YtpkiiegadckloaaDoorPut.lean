/- A text is put where it belongs in a row of sorted texts. -/
import Derived.Test.YtpkiiegadckloaaDoorAny
import Derived.Test.YtpkiiegadckloaaDoorGel
set_option linter.unusedSimpArgs false
set_option linter.unusedVariables false
namespace Go.Proofs.YtpkiiegadckloaaDoor
open Go.RowKit

theorem sliced_src {w : World} {base : Nat} {A : Option Addr} {l : List ByteArray} {c : Nat} (h : SRow w base (.slice A l.length c) l) (lo hi : Nat) (h1 : lo ≤ hi) (h2 : hi ≤ l.length) :
    ∃ A' c', sliced A lo hi c 1 = .slice A' (hi - lo) c' ∧ (A' = none → hi - lo = 0) ∧ ∀ ad, A' = some ad → 0 < hi - lo → ∀ W, Below w.heap.size w W → ∀ j t, ((l.take hi).drop lo)[j]? = some t → W.cell? (ad.add j) = some (.string t) := by
  refine ⟨_, _, rfl, ?_, ?_⟩
  · rcases h.2 with ⟨h3, h0⟩ | ⟨g, cap, cur, h3, _, _, hc, _⟩
    · intro _; omega
    · cases h3
      split
      · intro e; cases e
      · intro e; cases e
  · intro ad had hpos W hb j t ht
    rcases h.2 with ⟨h3, h0⟩ | ⟨g, cap, cur, h3, _, _, hc, _⟩
    · omega
    · cases h3
      rw [if_neg (by omega)] at had
      cases had
      have hj : j < hi - lo := by
        have := (List.getElem?_eq_some_iff.1 ht).1
        simp at this
        omega
      have h4 := (owns_keep h hb).cellAt (lo + j) (by omega)
      dsimp only
      rw [Addr.add_lit, Addr.add_lit, show 0 + lo * 1 + j = lo + j by omega]
      rw [List.getElem?_drop, List.getElem?_take] at ht
      rw [if_pos (by omega)] at ht
      rw [List.getElem?_map, ht] at h4
      simpa [es] using h4

/-- What the operations of the line yield. -/
def VP (base n0 : Nat) (A : Option Addr) (c : Nat) (l : List ByteArray) (k : Nat) (s : ByteArray) (b4 b7 b11 : Bool) (i : Nat) (u : Value) (W : World) : Prop :=
  match i with
  | 0 => b4 = false → ∃ b, u = .slice (some ⟨b, 0, none⟩) 0 0 ∧ n0 ≤ b ∧ W.heap[b]? = some (.cells #[] 9 (0, 0))
  | 1 => u = .slice A l.length c
  | 2 => u = .int .i64 k
  | 3 => u = sliced A 0 k c 1
  | 4 => b7 = false → SRow W n0 u (l.take k)
  | 5 => u = .string s
  | 6 => ∃ b, u = .slice (some ⟨b, 0, none⟩) 1 1 ∧ (b7 = false → W.heap[b]? = some (.cells #[.string s] 9 (0, 0)) ∧ n0 ≤ b)
  | 7 => b11 = false → SRow W n0 u (l.take k ++ [s])
  | 8 => u = .slice A l.length c
  | 9 => u = .int .i64 k
  | 10 => u = sliced A k l.length c 1
  | 11 => SRow W n0 u (l.take k ++ [s] ++ l.drop k)
  | _ => True
def RP (n0 : Nat) (w : World) (L : Nat → Bool) (W : World) : Prop := Below n0 w W ∧ (L 7 = true → L 4 = true) ∧ (L 11 = true → L 7 = true)
section
variable {base n0 : Nat} {A : Option Addr} {c : Nat} {l : List ByteArray} {k : Nat} {s : ByteArray}
theorem VP_keepB {b4 b7 b11 : Bool} {i : Nat} {u : Value} {W W' : World} (hb : Below W.heap.size W W') (h : VP base n0 A c l k s b4 b7 b11 i u W) : VP base n0 A c l k s b4 b7 b11 i u W' := by
  rcases i with _ | _ | _ | _ | _ | _ | _ | _ | _ | _ | _ | _ | i
  all_goals first | exact h | skip
  · intro e
    obtain ⟨b, h1, h2, h3⟩ := h e
    exact ⟨b, h1, h2, (hb.block b (Array.getElem?_eq_some_iff.1 h3).1).trans h3⟩
  · exact fun e => owns_keep (h e) hb
  · obtain ⟨b, h1, h2⟩ := h
    exact ⟨b, h1, fun e => ⟨(hb.block b (Array.getElem?_eq_some_iff.1 (h2 e).1).1).trans (h2 e).1, (h2 e).2⟩⟩
  · exact fun e => owns_keep (h e) hb
  · exact owns_keep h hb
theorem VP_also {L : Nat → Bool} {i j : Nat} {u : Value} {W W' : World} (h : VP base n0 A c l k s (L 4) (L 7) (L 11) j u W) (hb : Below W.heap.size W W') (h4 : i ≠ 4) (h7 : i ≠ 7) (h11 : i ≠ 11) : VP base n0 A c l k s (also L i 4) (also L i 7) (also L i 11) j u W' := by
  rw [also_ne _ (fun e => h4 e.symm), also_ne _ (fun e => h7 e.symm), also_ne _ (fun e => h11 e.symm)]
  exact VP_keepB hb h
theorem RP_also {L : Nat → Bool} {i : Nat} {w W W' : World} (h : RP n0 w L W) (hb : Below W.heap.size W W') (hn : n0 ≤ W.heap.size) (h4 : i ≠ 4) (h7 : i ≠ 7) (h11 : i ≠ 11) : RP n0 w (also L i) W' := by
  unfold RP
  rw [also_ne _ (fun e => h4 e.symm), also_ne _ (fun e => h7 e.symm), also_ne _ (fun e => h11 e.symm)]
  exact ⟨h.1.trans (hb.mono hn), h.2⟩
theorem SRow.wide {w : World} {b1 b2 : Nat} {v : Value} {l : List ByteArray} (h : SRow w b1 v l) (hb : b2 ≤ b1) : SRow w b2 v l := by
  refine ⟨h.1, ?_⟩
  rcases h.2 with h2 | ⟨g, cap, cur, h3, h4, h5⟩
  · exact Or.inl h2
  · exact Or.inr ⟨g, cap, cur, h3, Nat.le_trans hb h4, h5⟩
end

attribute [local irreducible] Oper.wp
set_option maxRecDepth 100000 in
set_option maxHeartbeats 8000000 in
theorem Put_any (v : Value) (l : List ByteArray) (s : ByteArray) (base : Nat) (w : World) (hl : l.length ≤ 1000) (hv : SRow w base v l) (hbs : base ≤ w.heap.size) :
    Calls Tryd.prog 40 #[v, .string s] w fun x w' => ∃ u, x = .returned u ∧ Below w.heap.size w w' ∧ (s ∈ l → u = v) ∧
      (¬ s ∈ l → ∃ k, k ≤ l.length ∧ (∀ j t, j < k → l[j]? = some t → Op.bytesLess t.toList s.toList = true) ∧ (∀ t, l[k]? = some t → Op.bytesLess t.toList s.toList = false) ∧
        SRow w' base u (l.take k ++ [s] ++ l.drop k)) := by
  obtain ⟨A, c, rfl⟩ := SRow.slice hv
  have hl63 : (l.length : Int) ≤ 1000 := by omega
  have HV := Lib.hid hv
  have HL := Lib.hid hl
  have HC := Lib.hid (SRow.le hv).2
  clear hv hl
  go_enter Tryd.func40, Tryd.ntmps40
  go_wp2_with fail
  refine (in_any (.slice A l.length c) l s base w (by have := HL.out; omega) HV.out).mono ?_
  rintro x w1 ⟨rfl, rfl⟩
  by_cases hm : s ∈ l
  · have hb := isOne_yes hm
    have HM := Lib.hid hm
    clear hm
    go_wp2_with fail
    go_returns
    exact ⟨_, rfl, Below.refl _ _, fun _ => rfl, fun h => absurd HM.out h⟩
  · have hb := isOne_no hm
    have HM := Lib.hid hm
    clear hm
    go_wp2_with fail
    go_loopw [5] (fun i wr => ∃ k : Nat, k ≤ l.length ∧ i = .int .i64 k ∧ (∀ j t, j < k → l[j]? = some t → Op.bytesLess t.toList s.toList = true) ∧ wr = w) (fun i _ => l.length - (intOf i).toNat)
    case atStart => exact ⟨0, Nat.zero_le _, rfl, fun j t h => by omega, rfl⟩
    case round =>
      obtain ⟨k, hk, rfl, hno, rfl⟩ := hrel
      have HNO := Lib.hid hno
      clear hno
      by_cases hk2 : k < l.length
      · have hk1 : (k : Int) < l.length := by omega
        obtain ⟨q, cap, h1, -, -⟩ := World.ownsRow.form HV.out (by omega)
        injection h1 with h1 _ h3
        subst h1 h3
        obtain ⟨t, ht⟩ : ∃ t, l[k]? = some t := ⟨_, List.getElem?_eq_getElem hk2⟩
        have c1 := World.ownsRow.cellAt HV.out k (by omega)
        rw [List.getElem?_map, ht] at c1
        simp only [Option.map_some, es] at c1
        have HT := Lib.hid ht
        have HK := Lib.hid hk
        clear ht hk2 hk
        cases hts : Op.bytesLess t.toList s.toList with
        | true =>
          go_wp2_with fail
          go_roundw
          case measure => simp [intOf]; omega
          case rel =>
            refine ⟨k + 1, by omega, by go_num, fun j t' hj ht' => ?_, trivial⟩
            by_cases hjk : j = k
            · subst hjk
              rw [HT.out] at ht'
              cases ht'
              exact hts
            · exact HNO.out j t' (by omega) ht'
        | false =>
          go_wp2_with fail
          have HE := Lib.hid (show ∀ t', l[k]? = some t' → Op.bytesLess t'.toList s.toList = false from fun t' ht' => by rw [HT.out] at ht'; cases ht'; exact hts)
          have HS1 := Lib.hid (sliced_src HV.out 0 k (Nat.zero_le _) HK.out)
          have HS2 := Lib.hid (sliced_src HV.out k l.length HK.out (Nat.le_refl _))
          have hk0 : (0 : Int) ≤ k := by omega
          have hkl2 : (k : Int) ≤ l.length := by have := HK.out; omega
          have hkc : (k : Int) ≤ c := by have := HK.out; have := HC.out; omega
          have HN := Lib.hid (rfl : wr.heap.size = wr.heap.size)
          obtain ⟨n0, hn0⟩ : ∃ n0, n0 = wr.heap.size := ⟨_, rfl⟩
          have HN0 := Lib.hid hn0
          have HBS := Lib.hid hbs
          clear hn0 hbs
          refine region_gel 12 [24, 25, 26, 27, 28, 29, 30, 31, 32, 33, 34, 35] [0, 4, 6, 7, 11] (fun L => VP base n0 (some ⟨q, 0, none⟩) c l k s (L 4) (L 7) (L 11)) (RP n0 wr) (by kernel_rfl) (by kernel_rfl) ?_ ?_ ?_ ?_ ?_
          · exact ⟨(Below.refl _ _).drew, (fun h => by cases h), (fun h => by cases h)⟩
          · intro i hi hiC L W hR
            have e4 : also L i 4 = L 4 := also_ne _ (fun e => hiC (by rw [← e]; decide))
            have e7 : also L i 7 = L 7 := also_ne _ (fun e => hiC (by rw [← e]; decide))
            have e11 : also L i 11 = L 11 := also_ne _ (fun e => hiC (by rw [← e]; decide))
            unfold RP
            rw [e4, e7, e11]
            exact ⟨hR, fun j u hj h => h⟩
          · intro i o hi hiC ho τ W L hR hdl hd K hK
            rcases i with _ | _ | _ | _ | _ | _ | _ | _ | _ | _ | _ | _ | i
            all_goals (try (exfalso; omega))
            all_goals (try (exfalso; revert hiC; decide))
            all_goals (simp at ho; subst ho)
            all_goals (simp [dstAt, Region.binds, VP] at hd)
            · have hK := hK _ rfl
              clear hR hdl
              simp only [putAll, Act.put, List.setIfInBounds_toArray, List.set_cons_succ, List.set_cons_zero] at hK ⊢; (try simp only [hd] at hK ⊢); go_simp
              exact hK
            · have hK := hK _ rfl
              clear hR hdl
              simp only [putAll, Act.put, List.setIfInBounds_toArray, List.set_cons_succ, List.set_cons_zero] at hK ⊢; (try simp only [hd] at hK ⊢); go_simp
              exact hK
            · have hK := hK _ rfl
              clear hR hdl
              simp only [putAll, Act.put, List.setIfInBounds_toArray, List.set_cons_succ, List.set_cons_zero] at hK ⊢; (try simp only [hd] at hK ⊢); go_simp
              simp [sliced, Addr.add_lit, Addr.add_zero'] at hK
              simpa [Addr.add_lit, Addr.add_zero'] using hK
            · have hK := hK _ rfl
              clear hR hdl
              simp only [putAll, Act.put, List.setIfInBounds_toArray, List.set_cons_succ, List.set_cons_zero] at hK ⊢; (try simp only [hd] at hK ⊢); go_simp
              exact hK
            · have hK := hK _ rfl
              clear hR hdl
              simp only [putAll, Act.put, List.setIfInBounds_toArray, List.set_cons_succ, List.set_cons_zero] at hK ⊢; (try simp only [hd] at hK ⊢); go_simp
              exact hK
            · have hK := hK _ rfl
              clear hR hdl
              simp only [putAll, Act.put, List.setIfInBounds_toArray, List.set_cons_succ, List.set_cons_zero] at hK ⊢; (try simp only [hd] at hK ⊢); go_simp
              exact hK
            · have hK := hK _ rfl
              clear hR hdl
              simp only [putAll, Act.put, List.setIfInBounds_toArray, List.set_cons_succ, List.set_cons_zero] at hK ⊢; (try simp only [hd] at hK ⊢); go_simp
              simp [sliced, Addr.add_lit, Addr.add_zero'] at hK
              simpa [Addr.add_lit, Addr.add_zero'] using hK
          · intro i o hi hiC ho τ W L hR hLi hdl hd K hK
            have hnW : n0 ≤ W.heap.size := by rw [HN0.out]; exact hR.1.size
            rcases i with _ | _ | _ | _ | _ | _ | _ | _ | _ | _ | _ | _ | i
            all_goals (try (exfalso; omega))
            all_goals (try (exfalso; revert hiC; decide))
            all_goals (simp at ho; subst ho)
            all_goals (simp [dstAt, Region.binds, VP] at hd)
            · have hb := below_new W (.cells #[] 9)
              have hK := hK (.slice (some ⟨W.heap.size, 0, none⟩) 0 0) (W.alloc (.cells #[] 9)) (RP_also hR hb hnW (by decide) (by decide) (by decide)) (fun _ _ _ _ h => VP_also h hb (by decide) (by decide) (by decide)) (fun _ => ⟨_, rfl, hnW, heap_alloc_new _ _⟩)
              clear hR hdl hb
              simp only [putAll, Act.put, List.setIfInBounds_toArray, List.set_cons_succ, List.set_cons_zero] at hK ⊢; (try simp only [hd] at hK ⊢); go_simp
              exact hK
            · obtain ⟨hd0, hd3⟩ := hd
              obtain ⟨b, hd0, hbn, hbh⟩ := hd0 hLi
              obtain ⟨A', c', e3, hn3, hc3⟩ := HS1.out
              rw [e3] at hd3
              have hd := And.intro hd0 hd3
              simp only [putAll, Act.put, List.setIfInBounds_toArray, List.set_cons_succ, List.set_cons_zero] at hK ⊢
              simp only [hd] at hK ⊢
              refine wp_app_strs W (.tmp 24) (.tmp 27) (by rfl) n0 _ [] (l.take k) (by rfl) (SRow.bare hbh hbn) A' (k - 0) c' (by have := HK.out; simp; omega) (by rfl) hn3 (fun ad h1 h2 j t ht => hc3 ad h1 h2 W (HN0.out ▸ hR.1) j t (by simpa using ht)) (by have := HL.out; simp; omega) hnW ?_
              intro A2 n2 c2 W1 h1 h2 h3
              refine hK _ W1 ⟨hR.1.trans ((Chg.of_grown (S := fun k => k = b) h2 (fun k hk => (Option.some.inj hk).symm)).below hnW (fun k hk => hk ▸ hbn)), (fun _ => also_self _ _), (fun h => ?_)⟩ (fun j u hj hLj hV => ?_) (fun _ => h1)
              · rw [also_ne _ (by decide)] at h ⊢
                exact hR.2.2 h
              · rcases j with _ | _ | _ | _ | _ | _ | _ | _ | _ | _ | _ | _ | j
                all_goals first | exact hV | skip
                · intro e
                  rw [also_self] at e
                  cases e
                · rw [show L (0 + 1 + 1 + 1 + 1) = L 4 from rfl, hLi] at hLj; cases hLj
                · obtain ⟨b6, e6, h6⟩ := hV
                  refine ⟨b6, e6, fun e7 => ?_⟩
                  rw [also_ne _ (by decide)] at e7
                  obtain ⟨g1, g2⟩ := h6 e7
                  refine ⟨(h2.block b6 (Array.getElem?_eq_some_iff.1 g1).1 (fun e => ?_)).trans g1, g2⟩
                  have e := Option.some.inj e
                  rw [e, hbh] at g1
                  simp at g1
                · exact absurd (hR.2.1 hLj) (by rw [show L 4 = false from hLi]; decide)
                · exact absurd (hR.2.1 (hR.2.2 hLj)) (by rw [show L 4 = false from hLi]; decide)
            · have hb := below_new W (.cells #[.string s] 9)
              have hK := hK (.slice (some ⟨W.heap.size, 0, none⟩) 1 1) (W.alloc (.cells #[.string s] 9)) (RP_also hR hb hnW (by decide) (by decide) (by decide)) (fun _ _ _ _ h => VP_also h hb (by decide) (by decide) (by decide)) ⟨_, rfl, fun _ => ⟨heap_alloc_new _ _, hnW⟩⟩
              clear hR hdl hb
              simp only [putAll, Act.put, List.setIfInBounds_toArray, List.set_cons_succ, List.set_cons_zero] at hK ⊢; (try simp only [hd] at hK ⊢); go_simp
              exact hK
            · obtain ⟨hd4, ⟨b, hd6, hb6⟩, -⟩ := hd
              have hd4 := hd4 hLi
              obtain ⟨hb6, hbn⟩ := hb6 hLi
              have l4 : L 4 = true := by
                simp [Region.binds] at hdl
                exact hdl.1
              have hd := hd6
              simp only [putAll, Act.put, List.setIfInBounds_toArray, List.set_cons_succ, List.set_cons_zero] at hK ⊢
              simp only [hd] at hK ⊢
              refine wp_app_strs W (.tmp 28) (.tmp 30) (by rfl) n0 _ (l.take k) [s] (by rfl) hd4 (some ⟨b, 0, none⟩) 1 1 (by rfl) (by rfl) (fun h => by cases h) (fun ad h1 h2 j t ht => ?_) (by have := HL.out; simp; omega) hnW ?_
              · cases h1
                rw [Addr.add_lit, Nat.zero_add, cell_of_row _ _ j _ _ _ hb6]
                rcases j with _ | j
                · simpa using ht
                · simp at ht
              intro A2 n2 c2 W1 h1 h2 h3
              refine hK _ W1 ⟨hR.1.trans ((Chg.of_grown (S := fun k => (τ 28).ownBlock = some k) h2 (fun k hk => hk)).below hnW (fun k hk => (hd4.lt k hk).1)), (fun _ => by rw [also_ne _ (by decide)]; exact l4), (fun _ => also_self _ _)⟩ (fun j u hj hLj hV => ?_) (fun _ => h1)
              rcases j with _ | _ | _ | _ | _ | _ | _ | _ | _ | _ | _ | _ | j
              all_goals first | exact hV | skip
              · intro e
                rw [also_ne _ (by decide), l4] at e
                cases e
              · intro e
                rw [also_self] at e
                cases e
              · obtain ⟨b6, e6, h6⟩ := hV
                exact ⟨b6, e6, fun e7 => by rw [also_self] at e7; cases e7⟩
              · rw [show L (0 + 1 + 1 + 1 + 1 + 1 + 1 + 1) = L 7 from rfl, hLi] at hLj; cases hLj
              · exact absurd (hR.2.2 hLj) (by rw [show L 7 = false from hLi]; decide)
            · obtain ⟨hd7, hd10⟩ := hd
              have hd7 := hd7 hLi
              obtain ⟨A', c', e3, hn3, hc3⟩ := HS2.out
              rw [e3] at hd10
              have l7 : L 7 = true := by
                simp [Region.binds] at hdl
                exact hdl.1
              have l4 := hR.2.1 l7
              have hd := hd10
              simp only [putAll, Act.put, List.setIfInBounds_toArray, List.set_cons_succ, List.set_cons_zero] at hK ⊢
              simp only [hd] at hK ⊢
              refine wp_app_strs W (.tmp 31) (.tmp 34) (by rfl) n0 _ (l.take k ++ [s]) (l.drop k) (by rfl) hd7 A' (l.length - k) c' (by simp) (by rfl) hn3 (fun ad h1 h2 j t ht => hc3 ad h1 h2 W (HN0.out ▸ hR.1) j t (by rw [List.take_of_length_le (Nat.le_refl _)]; exact ht)) (by have := HL.out; have := HK.out; simp; omega) hnW ?_
              intro A2 n2 c2 W1 h1 h2 h3
              refine hK _ W1 ⟨hR.1.trans ((Chg.of_grown (S := fun k => (τ 31).ownBlock = some k) h2 (fun k hk => hk)).below hnW (fun k hk => (hd7.lt k hk).1)), (fun _ => by rw [also_ne _ (by decide)]; exact l4), (fun _ => by rw [also_ne _ (by decide)]; exact l7)⟩ (fun j u hj hLj hV => ?_) h1
              rcases j with _ | _ | _ | _ | _ | _ | _ | _ | _ | _ | _ | _ | j
              all_goals first | exact hV | skip
              · intro e
                rw [also_ne _ (by decide), l4] at e
                cases e
              · intro e
                rw [also_ne _ (by decide), l7] at e
                cases e
              · obtain ⟨b6, e6, h6⟩ := hV
                exact ⟨b6, e6, fun e7 => by rw [also_ne _ (by decide), l7] at e7; cases e7⟩
              · intro e
                rw [also_self] at e
                cases e
              · rw [show L (0 + 1 + 1 + 1 + 1 + 1 + 1 + 1 + 1 + 1 + 1 + 1) = L 11 from rfl, hLi] at hLj; cases hLj
          · intro τ W L hL hR hd
            have h11 : SRow W n0 (τ 35) (l.take k ++ [s] ++ l.drop k) := hd 11 (by decide) 35 rfl
            obtain ⟨A7, c7, hsl⟩ := SRow.slice h11
            rw [hsl] at h11
            have HF := Lib.hid (And.intro hR.1 (SRow.wide h11 (HN0.out ▸ HBS.out)))
            obtain ⟨n7, hn7⟩ : ∃ n7, n7 = (l.take k ++ [s] ++ l.drop k).length := ⟨_, rfl⟩
            rw [← hn7] at hsl
            have HN7 := Lib.hid hn7
            clear hR hd hL h11 hn7
            (simp only [List.drop_succ_cons, List.drop_zero, List.drop_nil, List.length_cons, List.length_nil, Nat.zero_add, Nat.reduceAdd, putAll, asg, ↓reduceIte, Nat.reduceEqDiff, Act.put, List.setIfInBounds_toArray, List.set_cons_succ, List.set_cons_zero]; first | refine wpList_nil ?_ | skip)
            simp only [hsl]
            go_wp2
            go_returns
            exact ⟨_, rfl, HN0.out ▸ HF.out.1, fun h => absurd h HM.out, fun _ => ⟨k, HK.out, HNO.out, HE.out, by have h := HF.out.2; rw [← HN7.out] at h; simp only [List.append_assoc, List.cons_append, List.nil_append] at h; exact h⟩⟩
      · have hk1 : ¬ (k : Int) < l.length := by omega
        have hkl : k = l.length := by omega
        have HKL := Lib.hid hkl
        have HK := Lib.hid hk
        clear hk hk2 hkl
        go_wp2_with fail
        have HE := Lib.hid (show ∀ t', l[k]? = some t' → Op.bytesLess t'.toList s.toList = false from fun t' ht' => by have := (List.getElem?_eq_some_iff.1 ht').1; have := HKL.out; omega)
        have HS1 := Lib.hid (sliced_src HV.out 0 k (Nat.zero_le _) HK.out)
        have HS2 := Lib.hid (sliced_src HV.out k l.length HK.out (Nat.le_refl _))
        have hk0 : (0 : Int) ≤ k := by omega
        have hkl2 : (k : Int) ≤ l.length := by have := HK.out; omega
        have hkc : (k : Int) ≤ c := by have := HK.out; have := HC.out; omega
        have HN := Lib.hid (rfl : wr.heap.size = wr.heap.size)
        obtain ⟨n0, hn0⟩ : ∃ n0, n0 = wr.heap.size := ⟨_, rfl⟩
        have HN0 := Lib.hid hn0
        have HBS := Lib.hid hbs
        clear hn0 hbs
        refine region_gel 12 [24, 25, 26, 27, 28, 29, 30, 31, 32, 33, 34, 35] [0, 4, 6, 7, 11] (fun L => VP base n0 A c l k s (L 4) (L 7) (L 11)) (RP n0 wr) (by kernel_rfl) (by kernel_rfl) ?_ ?_ ?_ ?_ ?_
        · exact ⟨(Below.refl _ _).drew, (fun h => by cases h), (fun h => by cases h)⟩
        · intro i hi hiC L W hR
          have e4 : also L i 4 = L 4 := also_ne _ (fun e => hiC (by rw [← e]; decide))
          have e7 : also L i 7 = L 7 := also_ne _ (fun e => hiC (by rw [← e]; decide))
          have e11 : also L i 11 = L 11 := also_ne _ (fun e => hiC (by rw [← e]; decide))
          unfold RP
          rw [e4, e7, e11]
          exact ⟨hR, fun j u hj h => h⟩
        · intro i o hi hiC ho τ W L hR hdl hd K hK
          rcases i with _ | _ | _ | _ | _ | _ | _ | _ | _ | _ | _ | _ | i
          all_goals (try (exfalso; omega))
          all_goals (try (exfalso; revert hiC; decide))
          all_goals (simp at ho; subst ho)
          all_goals (simp [dstAt, Region.binds, VP] at hd)
          · have hK := hK _ rfl
            clear hR hdl
            simp only [putAll, Act.put, List.setIfInBounds_toArray, List.set_cons_succ, List.set_cons_zero] at hK ⊢; (try simp only [hd] at hK ⊢); go_simp
            exact hK
          · have hK := hK _ rfl
            clear hR hdl
            simp only [putAll, Act.put, List.setIfInBounds_toArray, List.set_cons_succ, List.set_cons_zero] at hK ⊢; (try simp only [hd] at hK ⊢); go_simp
            exact hK
          · have hK := hK _ rfl
            clear hR hdl
            simp only [putAll, Act.put, List.setIfInBounds_toArray, List.set_cons_succ, List.set_cons_zero] at hK ⊢; (try simp only [hd] at hK ⊢); go_simp
            simp [sliced, Addr.add_lit, Addr.add_zero'] at hK
            simpa [Addr.add_lit, Addr.add_zero'] using hK
          · have hK := hK _ rfl
            clear hR hdl
            simp only [putAll, Act.put, List.setIfInBounds_toArray, List.set_cons_succ, List.set_cons_zero] at hK ⊢; (try simp only [hd] at hK ⊢); go_simp
            exact hK
          · have hK := hK _ rfl
            clear hR hdl
            simp only [putAll, Act.put, List.setIfInBounds_toArray, List.set_cons_succ, List.set_cons_zero] at hK ⊢; (try simp only [hd] at hK ⊢); go_simp
            exact hK
          · have hK := hK _ rfl
            clear hR hdl
            simp only [putAll, Act.put, List.setIfInBounds_toArray, List.set_cons_succ, List.set_cons_zero] at hK ⊢; (try simp only [hd] at hK ⊢); go_simp
            exact hK
          · have hK := hK _ rfl
            clear hR hdl
            simp only [putAll, Act.put, List.setIfInBounds_toArray, List.set_cons_succ, List.set_cons_zero] at hK ⊢; (try simp only [hd] at hK ⊢); go_simp
            simp [sliced, Addr.add_lit, Addr.add_zero'] at hK
            simpa [Addr.add_lit, Addr.add_zero'] using hK
        · intro i o hi hiC ho τ W L hR hLi hdl hd K hK
          have hnW : n0 ≤ W.heap.size := by rw [HN0.out]; exact hR.1.size
          rcases i with _ | _ | _ | _ | _ | _ | _ | _ | _ | _ | _ | _ | i
          all_goals (try (exfalso; omega))
          all_goals (try (exfalso; revert hiC; decide))
          all_goals (simp at ho; subst ho)
          all_goals (simp [dstAt, Region.binds, VP] at hd)
          · have hb := below_new W (.cells #[] 9)
            have hK := hK (.slice (some ⟨W.heap.size, 0, none⟩) 0 0) (W.alloc (.cells #[] 9)) (RP_also hR hb hnW (by decide) (by decide) (by decide)) (fun _ _ _ _ h => VP_also h hb (by decide) (by decide) (by decide)) (fun _ => ⟨_, rfl, hnW, heap_alloc_new _ _⟩)
            clear hR hdl hb
            simp only [putAll, Act.put, List.setIfInBounds_toArray, List.set_cons_succ, List.set_cons_zero] at hK ⊢; (try simp only [hd] at hK ⊢); go_simp
            exact hK
          · obtain ⟨hd0, hd3⟩ := hd
            obtain ⟨b, hd0, hbn, hbh⟩ := hd0 hLi
            obtain ⟨A', c', e3, hn3, hc3⟩ := HS1.out
            rw [e3] at hd3
            have hd := And.intro hd0 hd3
            simp only [putAll, Act.put, List.setIfInBounds_toArray, List.set_cons_succ, List.set_cons_zero] at hK ⊢
            simp only [hd] at hK ⊢
            refine wp_app_strs W (.tmp 24) (.tmp 27) (by rfl) n0 _ [] (l.take k) (by rfl) (SRow.bare hbh hbn) A' (k - 0) c' (by have := HK.out; simp; omega) (by rfl) hn3 (fun ad h1 h2 j t ht => hc3 ad h1 h2 W (HN0.out ▸ hR.1) j t (by simpa using ht)) (by have := HL.out; simp; omega) hnW ?_
            intro A2 n2 c2 W1 h1 h2 h3
            refine hK _ W1 ⟨hR.1.trans ((Chg.of_grown (S := fun k => k = b) h2 (fun k hk => (Option.some.inj hk).symm)).below hnW (fun k hk => hk ▸ hbn)), (fun _ => also_self _ _), (fun h => ?_)⟩ (fun j u hj hLj hV => ?_) (fun _ => h1)
            · rw [also_ne _ (by decide)] at h ⊢
              exact hR.2.2 h
            · rcases j with _ | _ | _ | _ | _ | _ | _ | _ | _ | _ | _ | _ | j
              all_goals first | exact hV | skip
              · intro e
                rw [also_self] at e
                cases e
              · rw [show L (0 + 1 + 1 + 1 + 1) = L 4 from rfl, hLi] at hLj; cases hLj
              · obtain ⟨b6, e6, h6⟩ := hV
                refine ⟨b6, e6, fun e7 => ?_⟩
                rw [also_ne _ (by decide)] at e7
                obtain ⟨g1, g2⟩ := h6 e7
                refine ⟨(h2.block b6 (Array.getElem?_eq_some_iff.1 g1).1 (fun e => ?_)).trans g1, g2⟩
                have e := Option.some.inj e
                rw [e, hbh] at g1
                simp at g1
              · exact absurd (hR.2.1 hLj) (by rw [show L 4 = false from hLi]; decide)
              · exact absurd (hR.2.1 (hR.2.2 hLj)) (by rw [show L 4 = false from hLi]; decide)
          · have hb := below_new W (.cells #[.string s] 9)
            have hK := hK (.slice (some ⟨W.heap.size, 0, none⟩) 1 1) (W.alloc (.cells #[.string s] 9)) (RP_also hR hb hnW (by decide) (by decide) (by decide)) (fun _ _ _ _ h => VP_also h hb (by decide) (by decide) (by decide)) ⟨_, rfl, fun _ => ⟨heap_alloc_new _ _, hnW⟩⟩
            clear hR hdl hb
            simp only [putAll, Act.put, List.setIfInBounds_toArray, List.set_cons_succ, List.set_cons_zero] at hK ⊢; (try simp only [hd] at hK ⊢); go_simp
            exact hK
          · obtain ⟨hd4, ⟨b, hd6, hb6⟩, -⟩ := hd
            have hd4 := hd4 hLi
            obtain ⟨hb6, hbn⟩ := hb6 hLi
            have l4 : L 4 = true := by
              simp [Region.binds] at hdl
              exact hdl.1
            have hd := hd6
            simp only [putAll, Act.put, List.setIfInBounds_toArray, List.set_cons_succ, List.set_cons_zero] at hK ⊢
            simp only [hd] at hK ⊢
            refine wp_app_strs W (.tmp 28) (.tmp 30) (by rfl) n0 _ (l.take k) [s] (by rfl) hd4 (some ⟨b, 0, none⟩) 1 1 (by rfl) (by rfl) (fun h => by cases h) (fun ad h1 h2 j t ht => ?_) (by have := HL.out; simp; omega) hnW ?_
            · cases h1
              rw [Addr.add_lit, Nat.zero_add, cell_of_row _ _ j _ _ _ hb6]
              rcases j with _ | j
              · simpa using ht
              · simp at ht
            intro A2 n2 c2 W1 h1 h2 h3
            refine hK _ W1 ⟨hR.1.trans ((Chg.of_grown (S := fun k => (τ 28).ownBlock = some k) h2 (fun k hk => hk)).below hnW (fun k hk => (hd4.lt k hk).1)), (fun _ => by rw [also_ne _ (by decide)]; exact l4), (fun _ => also_self _ _)⟩ (fun j u hj hLj hV => ?_) (fun _ => h1)
            rcases j with _ | _ | _ | _ | _ | _ | _ | _ | _ | _ | _ | _ | j
            all_goals first | exact hV | skip
            · intro e
              rw [also_ne _ (by decide), l4] at e
              cases e
            · intro e
              rw [also_self] at e
              cases e
            · obtain ⟨b6, e6, h6⟩ := hV
              exact ⟨b6, e6, fun e7 => by rw [also_self] at e7; cases e7⟩
            · rw [show L (0 + 1 + 1 + 1 + 1 + 1 + 1 + 1) = L 7 from rfl, hLi] at hLj; cases hLj
            · exact absurd (hR.2.2 hLj) (by rw [show L 7 = false from hLi]; decide)
          · obtain ⟨hd7, hd10⟩ := hd
            have hd7 := hd7 hLi
            obtain ⟨A', c', e3, hn3, hc3⟩ := HS2.out
            rw [e3] at hd10
            have l7 : L 7 = true := by
              simp [Region.binds] at hdl
              exact hdl.1
            have l4 := hR.2.1 l7
            have hd := hd10
            simp only [putAll, Act.put, List.setIfInBounds_toArray, List.set_cons_succ, List.set_cons_zero] at hK ⊢
            simp only [hd] at hK ⊢
            refine wp_app_strs W (.tmp 31) (.tmp 34) (by rfl) n0 _ (l.take k ++ [s]) (l.drop k) (by rfl) hd7 A' (l.length - k) c' (by simp) (by rfl) hn3 (fun ad h1 h2 j t ht => hc3 ad h1 h2 W (HN0.out ▸ hR.1) j t (by rw [List.take_of_length_le (Nat.le_refl _)]; exact ht)) (by have := HL.out; have := HK.out; simp; omega) hnW ?_
            intro A2 n2 c2 W1 h1 h2 h3
            refine hK _ W1 ⟨hR.1.trans ((Chg.of_grown (S := fun k => (τ 31).ownBlock = some k) h2 (fun k hk => hk)).below hnW (fun k hk => (hd7.lt k hk).1)), (fun _ => by rw [also_ne _ (by decide)]; exact l4), (fun _ => by rw [also_ne _ (by decide)]; exact l7)⟩ (fun j u hj hLj hV => ?_) h1
            rcases j with _ | _ | _ | _ | _ | _ | _ | _ | _ | _ | _ | _ | j
            all_goals first | exact hV | skip
            · intro e
              rw [also_ne _ (by decide), l4] at e
              cases e
            · intro e
              rw [also_ne _ (by decide), l7] at e
              cases e
            · obtain ⟨b6, e6, h6⟩ := hV
              exact ⟨b6, e6, fun e7 => by rw [also_ne _ (by decide), l7] at e7; cases e7⟩
            · intro e
              rw [also_self] at e
              cases e
            · rw [show L (0 + 1 + 1 + 1 + 1 + 1 + 1 + 1 + 1 + 1 + 1 + 1) = L 11 from rfl, hLi] at hLj; cases hLj
        · intro τ W L hL hR hd
          have h11 : SRow W n0 (τ 35) (l.take k ++ [s] ++ l.drop k) := hd 11 (by decide) 35 rfl
          obtain ⟨A7, c7, hsl⟩ := SRow.slice h11
          rw [hsl] at h11
          have HF := Lib.hid (And.intro hR.1 (SRow.wide h11 (HN0.out ▸ HBS.out)))
          obtain ⟨n7, hn7⟩ : ∃ n7, n7 = (l.take k ++ [s] ++ l.drop k).length := ⟨_, rfl⟩
          rw [← hn7] at hsl
          have HN7 := Lib.hid hn7
          clear hR hd hL h11 hn7
          (simp only [List.drop_succ_cons, List.drop_zero, List.drop_nil, List.length_cons, List.length_nil, Nat.zero_add, Nat.reduceAdd, putAll, asg, ↓reduceIte, Nat.reduceEqDiff, Act.put, List.setIfInBounds_toArray, List.set_cons_succ, List.set_cons_zero]; first | refine wpList_nil ?_ | skip)
          simp only [hsl]
          go_wp2
          go_returns
          exact ⟨_, rfl, HN0.out ▸ HF.out.1, fun h => absurd h HM.out, fun _ => ⟨k, HK.out, HNO.out, HE.out, by have h := HF.out.2; rw [← HN7.out] at h; simp only [List.append_assoc, List.cons_append, List.nil_append] at h; exact h⟩⟩
end Go.Proofs.YtpkiiegadckloaaDoor
