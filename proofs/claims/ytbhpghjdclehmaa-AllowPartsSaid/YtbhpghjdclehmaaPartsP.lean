/- The plain law of AllowParts. -/
import Derived.Test.YtbhpghjdclehmaaNeverP
import Derived.Test.YtbhpghjdclehmaaTol
namespace Go.Proofs.Ytbhpghjdclehmaa
open Go.RowKit

theorem day_app (l : List Drw) (d : Drw) (k : Nat) (h : k < l.length) : day (l ++ [d]) k = day l k := by unfold day; rw [getD_app _ _ _ _ h]
theorem amt_app (l : List Drw) (d : Drw) (k : Nat) (h : k < l.length) : amt (l ++ [d]) k = amt l k := by unfold amt; rw [getD_app _ _ _ _ h]
theorem day_last (l : List Drw) (d : Drw) : day (l ++ [d]) l.length = d.1 := by simp [day]
theorem amt_last (l : List Drw) (d : Drw) : amt (l ++ [d]) l.length = d.2 := by simp [amt]

theorem okAt_iff (l : List Drw) (k : Nat) : okAt l k = true ↔ (1 ≤ amt l k ∧ amt l k ≤ 1099511627776) ∧ (0 ≤ day l k ∧ day l k ≤ 1048576) ∧ (k = 0 ∨ day l (k - 1) ≤ day l k) := by
  simp [okAt, wi]
theorem okAt_app (l : List Drw) (d : Drw) (k : Nat) (h : k < l.length) : okAt (l ++ [d]) k = okAt l k := by
  unfold okAt
  rw [day_app l d k h, amt_app l d k h, day_app l d (k - 1) (by omega)]
/-- May draws be, one behind others? -/
theorem right_app (l : List Drw) (d : Drw) : right (l ++ [d]) = true ↔
    (∀ j, j < l.length → okAt l j = true) ∧ (1 ≤ d.2 ∧ d.2 ≤ 1099511627776) ∧ (0 ≤ d.1 ∧ d.1 ≤ 1048576) ∧ (l = [] ∨ day l (l.length - 1) ≤ d.1) ∧ l.length + 1 ≤ 4096 := by
  rw [right_iff, List.length_append, List.length_singleton]
  constructor
  · rintro ⟨h1, h2⟩
    have h3 := (okAt_iff _ _).mp (h1 l.length (by omega))
    rw [amt_last, day_last] at h3
    refine ⟨fun j hj => by rw [← okAt_app l d j hj]; exact h1 j (by omega), h3.1, h3.2.1, ?_, h2⟩
    by_cases hl : l = []
    · exact Or.inl hl
    · have hp := List.length_pos_iff.mpr hl
      rw [day_app l d _ (by omega)] at h3
      exact Or.inr (h3.2.2.resolve_left (by omega))
  · rintro ⟨h1, h2, h3, h4, h5⟩
    refine ⟨fun j hj => ?_, h5⟩
    by_cases hj' : j < l.length
    · rw [okAt_app l d j hj']; exact h1 j hj'
    · obtain rfl : j = l.length := by omega
      rw [okAt_iff, amt_last, day_last]
      refine ⟨h2, h3, ?_⟩
      rcases h4 with rfl | h4
      · exact Or.inl rfl
      · by_cases hl : l.length = 0
        · exact Or.inl hl
        · rw [day_app l d _ (by omega)]
          exact Or.inr h4

section
variable {s a b e : Int} {l : List Drw} {x y dy : Int}

/-- The first part may be drawn. -/
theorem parts_one (h : MayOk s a b e true l dy (x + y)) (hx : 1 ≤ x) (hy : 1 ≤ y) : MayOk s a b e true l dy x := by
  obtain ⟨h1, h2, h3, h4, h5⟩ := (right_app l (dy, x + y)).mp h.right
  refine ⟨h.bnd, (right_app l (dy, x)).mpr ⟨h1, ⟨hx, ?_⟩, h3, h4, h5⟩, h.day, (fun hp => by cases hp), ?_, (fun hp => by cases hp)⟩
  · have := h2.2
    show x ≤ _
    simp only at this
    omega
  · have := h.most
    rw [sumD_app] at this ⊢
    omega
/-- The second part may be drawn behind it. -/
theorem parts_two (h : MayOk s a b e true l dy (x + y)) (hx : 1 ≤ x) (hy : 1 ≤ y) (hl : l.length ≤ 40) : MayOk s a b e true (l ++ [(dy, x)]) dy y := by
  obtain ⟨h1, h2, h3, h4, h5⟩ := (right_app l (dy, x)).mp (parts_one h hx hy).right
  obtain ⟨_, g2, _⟩ := (right_app l (dy, x + y)).mp h.right
  refine ⟨h.bnd, (right_app _ (dy, y)).mpr ⟨?_, ⟨hy, ?_⟩, h3, ?_, by simp; omega⟩, h.day, (fun hp => by cases hp), ?_, (fun hp => by cases hp)⟩
  · exact ((right_iff _).mp (parts_one h hx hy).right).1
  · have := g2.2
    show y ≤ _
    simp only at this
    omega
  · refine Or.inr ?_
    rw [List.length_append, List.length_singleton, Nat.add_sub_cancel, day_last]
    exact Int.le_refl _
  · have := h.most
    rw [sumD_app] at this
    rw [sumD_app, sumD_app]
    omega
/-- What is drawn is as much. -/
theorem parts_sum (l : List Drw) (dy x y : Int) : sumD (l ++ [(dy, x)] ++ [(dy, y)]) = sumD (l ++ [(dy, x + y)]) := by
  rw [sumD_app, sumD_app, sumD_app]
  omega
theorem most_mono {s a a' : Int} (hs : 1 ≤ s) (h : a ≤ a') : most s a ≤ most s a' := by
  have := Int.mul_le_mul_of_nonneg_left (show 1000 + a ≤ 1000 + a' by omega) (show 0 ≤ s by omega)
  unfold most
  omega
theorem least_mono {s b b' : Int} (hs : 1 ≤ s) (h : b ≤ b') : least s b' ≤ least s b := by
  have := Int.mul_le_mul_of_nonneg_left (show 1000 - b' ≤ 1000 - b by omega) (show 0 ≤ s by omega)
  unfold least
  omega
/-- With more tolerance it may be drawn too. -/
theorem parts_more {a' b' : Int} (h : MayOk s a b e true l dy x) (hb : bnd s a' b' e = true) (ha : a ≤ a') : MayOk s a' b' e true l dy x := by
  obtain ⟨⟨hs, _⟩, _⟩ := (bnd_iff _ _ _ _).mp hb
  exact ⟨hb, h.right, h.day, (fun hp => by cases hp), Int.le_trans h.most (most_mono hs ha), (fun hp => by cases hp)⟩
end
end Go.Proofs.Ytbhpghjdclehmaa
