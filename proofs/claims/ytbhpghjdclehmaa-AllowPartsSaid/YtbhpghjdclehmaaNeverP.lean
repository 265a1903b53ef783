/- The plain law of AllowNever: what is drawn of any draws of which just those are drawn that may be. -/
import Derived.Test.YtbhpghjdclehmaaMayW
namespace Go.Proofs.Ytbhpghjdclehmaa
open Go.RowKit

/-- What is had of the first k draws. -/
def hadK (s a b e : Int) (p : Bool) (l : List Drw) : Nat → List Drw
  | 0 => []
  | k + 1 => if mayR s a b e p (hadK s a b e p l k) (day l k) (amt l k) = 0 then hadK s a b e p l k ++ [(day l k, amt l k)] else hadK s a b e p l k

theorem hadK_len (s a b e : Int) (p : Bool) (l : List Drw) : ∀ k, (hadK s a b e p l k).length ≤ k
  | 0 => Nat.le_refl _
  | k + 1 => by
    have := hadK_len s a b e p l k
    unfold hadK
    split <;> simp <;> omega

theorem pick5_zero {b1 b2 b3 b4 b5 : Bool} (h : pick5 b1 b2 b3 b4 b5 = 0) : b1 = false ∧ b2 = false ∧ b3 = false ∧ b4 = false ∧ b5 = false := by
  cases b1 <;> cases b2 <;> cases b3 <;> cases b4 <;> cases b5 <;> simp_all [pick5]

structure MayOk (s a b e : Int) (p : Bool) (l : List Drw) (d1 d2 : Int) : Prop where
  bnd : bnd s a b e = true
  right : right (l ++ [(d1, d2)]) = true
  day : d1 ≤ e
  one : p = false → l = []
  most : sumD (l ++ [(d1, d2)]) ≤ most s a
  least : p = false → least s b ≤ d2

theorem mayR_iff {s a b e : Int} {p : Bool} {l : List Drw} {d1 d2 : Int} : mayR s a b e p l d1 d2 = 0 ↔ MayOk s a b e p l d1 d2 := by
  constructor
  · intro h
    obtain ⟨h1, h2, h3, h4, h5⟩ := pick5_zero h
    simp only [Bool.not_eq_false', Bool.and_eq_true] at h1
    refine ⟨h1.1, h1.2, by simpa using h2, fun hp => ?_, by simpa using h4, fun hp => ?_⟩
    · rw [hp] at h3; simpa using h3
    · rw [hp] at h5; simpa using h5
  · rintro ⟨h1, h2, h3, h4, h5, h6⟩
    unfold mayR
    rw [h1, h2]
    have e2 : decide (e < d1) = false := by simpa using h3
    have e4 : decide (Proofs.Ytbhpghjdclehmaa.most s a < sumD (l ++ [(d1, d2)])) = false := by simpa using h5
    rw [e2, e4]
    cases p with
    | true => rfl
    | false =>
      have e3 : decide (0 < l.length) = false := by simp [h4 rfl]
      have e5 : decide (d2 < Proofs.Ytbhpghjdclehmaa.least s b) = false := by simpa using h6 rfl
      rw [e3, e5]
      rfl

theorem getD_app {α : Type} (l m : List α) (d : α) (k : Nat) (h : k < l.length) : (l ++ m).getD k d = l.getD k d := by
  simp [List.getD_eq_getElem?_getD, List.getElem?_append_left h]

theorem sumK_app (l m : List Drw) : ∀ k, k ≤ l.length → sumK (l ++ m) k = sumK l k
  | 0, _ => rfl
  | k + 1, h => by
    have := sumK_app l m k (by omega)
    simp only [sumK, this, amt]
    rw [getD_app _ _ _ _ (by omega)]
theorem sumD_app (l : List Drw) (d1 d2 : Int) : sumD (l ++ [(d1, d2)]) = sumD l + d2 := by
  unfold sumD
  rw [List.length_append]
  show sumK _ (l.length + 1) = _
  rw [sumK, sumK_app l _ _ (Nat.le_refl _)]
  simp [amt]

/-- What holds of what is had. -/
structure HadOk (s a b e : Int) (p : Bool) (h : List Drw) : Prop where
  right : right h = true
  most : sumD h ≤ most s a
  day : ∀ k, k < h.length → day h k ≤ e
  one : p = false → h.length ≤ 1
  least : p = false → h ≠ [] → least s b ≤ sumD h

theorem hadK_ok {s a b e : Int} {p : Bool} (hb : bnd s a b e = true) (l : List Drw) : ∀ k, HadOk s a b e p (hadK s a b e p l k)
  | 0 => by
    obtain ⟨⟨hs, hs'⟩, ⟨ha, ha'⟩, _⟩ := (bnd_iff s a b e).mp hb
    refine ⟨rfl, ?_, fun k hk => by simp [hadK] at hk, fun _ => by simp [hadK], fun _ h => absurd rfl h⟩
    have h4 := mul_ge s (1000 + a) (by omega) (by omega)
    show 0 ≤ _
    unfold most
    omega
  | k + 1 => by
    have ih := hadK_ok (p := p) hb l k
    unfold hadK
    split
    · rename_i h0
      have ho := mayR_iff.mp h0
      refine ⟨ho.right, ho.most, fun j hj => ?_, fun hp => by rw [ho.one hp]; simp, fun hp _ => ?_⟩
      · simp only [List.length_append, List.length_singleton] at hj
        by_cases hlt : j < (hadK s a b e p l k).length
        · have := ih.day j hlt
          unfold Proofs.Ytbhpghjdclehmaa.day at this ⊢
          rw [getD_app _ _ _ _ hlt]
          exact this
        · obtain rfl : j = (hadK s a b e p l k).length := by omega
          have := ho.day
          unfold Proofs.Ytbhpghjdclehmaa.day at this ⊢
          simpa using this
      · have := ho.least hp
        rw [ho.one hp]
        show _ ≤ sumD ([] ++ [_])
        rw [sumD_app]
        show _ ≤ 0 + _
        omega
    · exact ih
theorem hadK_no {s a b e : Int} {p : Bool} (hb : bnd s a b e = false) (l : List Drw) : ∀ k, hadK s a b e p l k = []
  | 0 => rfl
  | k + 1 => by
    unfold hadK
    rw [if_neg (fun h => by have := (mayR_iff.mp h).bnd; rw [hb] at this; cases this)]
    exact hadK_no hb l k
end Go.Proofs.Ytbhpghjdclehmaa
