/- A region that draws its order, by an invariant on the slots that it writes: the rest of the frame stays. -/
import Derived.Test.YtpkiiegadckloaaDoorInv
namespace Go.Proofs.YtpkiiegadckloaaDoor
open Go.RowKit

/-- What a slot holds. -/
def got (a : Act) (j : Nat) : Value := a.eval (.tmp j)

theorem got_same (a : Act) (j : Nat) (v : Value) (h : j < a.tmps.size) : got (a.put (some j) v) j = v := by
  simp [got, Act.eval, Act.put, Array.getD_eq_getD_getElem?, h]
theorem got_ne (a : Act) (j k : Nat) (v : Value) (h : j ≠ k) : got (a.put (some k) v) j = got a j := by
  simp [got, Act.eval, Act.put, Array.getD_eq_getD_getElem?, Ne.symm h]

/-- The frame a is a0 but for the slots D. -/
structure Near (a0 : Act) (D : List Nat) (a : Act) : Prop where
  defers : a.defers = a0.defers
  size : a.tmps.size = a0.tmps.size
  old : ∀ j, j ∉ D → a.tmps[j]? = a0.tmps[j]?

theorem Near.refl (a0 : Act) (D : List Nat) : Near a0 D a0 := ⟨rfl, rfl, fun _ _ => rfl⟩
theorem Near.got {a0 a : Act} {D : List Nat} (h : Near a0 D a) (j : Nat) (hj : j ∉ D) : YtpkiiegadckloaaDoor.got a j = YtpkiiegadckloaaDoor.got a0 j := by
  simp [YtpkiiegadckloaaDoor.got, Act.eval, Array.getD_eq_getD_getElem?, h.old j hj]
theorem Near.put {a0 a : Act} {D : List Nat} (h : Near a0 D a) (d : Option Tmp) (hd : ∀ k, d = some k → k ∈ D) (v : Value) : Near a0 D (a.put d v) := by
  cases d with
  | none => exact h
  | some k =>
    refine ⟨h.defers, by simp [Act.put, h.size], fun j hj => ?_⟩
    have : j ≠ k := fun e => hj (e ▸ hd k rfl)
    simp only [Act.put]
    rw [← h.old j hj]
    simp [Ne.symm this]

/-- a0 with the slots D as σ has them. -/
def putAll (a0 : Act) (σ : Nat → Value) : List Nat → Act
  | [] => a0
  | d :: D => (putAll a0 σ D).put (some d) (σ d)

theorem putAll_near (a0 : Act) (σ : Nat → Value) : ∀ D : List Nat, (putAll a0 σ D).defers = a0.defers ∧ (putAll a0 σ D).tmps.size = a0.tmps.size ∧
    ∀ j, (putAll a0 σ D).tmps[j]? = if j ∈ D ∧ j < a0.tmps.size then some (σ j) else a0.tmps[j]?
  | [] => ⟨rfl, rfl, fun j => by simp [putAll]⟩
  | d :: D => by
    obtain ⟨h1, h2, h3⟩ := putAll_near a0 σ D
    refine ⟨h1, by simp [putAll, Act.put, h2], fun j => ?_⟩
    simp only [putAll, Act.put, Array.getElem?_setIfInBounds, h2]
    by_cases hj : d = j
    · subst hj
      by_cases hl : d < a0.tmps.size
      · simp [hl]
      · simp [hl]
    · rw [if_neg hj, h3 j]
      have : j ≠ d := fun e => hj e.symm
      simp [this]

/-- The frame written out. -/
theorem Near.eq {a0 a : Act} {D : List Nat} (h : Near a0 D a) : a = putAll a0 (YtpkiiegadckloaaDoor.got a) D := by
  obtain ⟨h1, h2, h3⟩ := putAll_near a0 (YtpkiiegadckloaaDoor.got a) D
  have ht : a.tmps = (putAll a0 (YtpkiiegadckloaaDoor.got a) D).tmps := by
    apply Array.ext_getElem?
    intro j
    rw [h3 j]
    by_cases hj : j ∈ D ∧ j < a0.tmps.size
    · rw [if_pos hj]
      simp [YtpkiiegadckloaaDoor.got, Act.eval, Array.getD_eq_getD_getElem?, h.size, hj.2]
    · rw [if_neg hj]
      by_cases hD : j ∈ D
      · have : ¬ j < a0.tmps.size := fun hh => hj ⟨hD, hh⟩
        rw [Array.getElem?_eq_none (by rw [h.size]; omega), Array.getElem?_eq_none (by omega)]
      · exact h.old j hD
  have hdf : a.defers = (putAll a0 (YtpkiiegadckloaaDoor.got a) D).defers := h.defers.trans h1.symm
  exact congr (congrArg Act.mk ht) hdf

section
variable {P : Program} {ops : Array Oper} {Q : Exit → Act → World → Prop}

/-- Each operation writes one of the slots D, or none. -/
def writesIn (ops : Array Oper) (D : List Nat) : Bool := ops.toList.all fun o => match o.dst with | none => true | some d => D.contains d

theorem region_slots {id : Nat} {a0 : Act} {w0 : World} (D : List Nat) (hm : P.follows .mixedOrders = true) (hE : edgesBack ops = true) (hD : writesIn ops D = true) (I : (Nat → Bool) → Act → World → Prop)
    (h0 : I (fun _ => false) a0 { w0 with drawn := w0.drawn + 1 })
    (hstep : ∀ (i : Nat) (o : Oper), ops[i]? = some o → ∀ (L : Nat → Bool) (a : Act) (w : World), Near a0 D a → I L a w → L i = false → (∀ e ∈ o.after, Region.binds .any e = true → L e.on = true) →
      if Region.wanted o (yielded ops a.tmps) = true then o.wp P a w (fun a' w' => Near a0 D a' ∧ I (also L i) a' w') Q ∨ (o.asks P a w ∧ LetsOut Q) else I (also L i) (a.put o.dst undef) w)
    (hend : ∀ (L : Nat → Bool) (a : Act) (w : World), (∀ i, i < ops.size → L i = true) → Near a0 D a → I L a w → Q .normal a w) : (Code.region id ops true).wp P Q a0 w0 := by
  refine region_inv hm hE (fun L a w => Near a0 D a ∧ I L a w) ⟨Near.refl _ _, h0⟩ ?_ (fun L a w hL hI => hend L a w hL hI.1 hI.2)
  intro i o ho L a w hI hL hdep
  have := hstep i o ho L a w hI.1 hI.2 hL hdep
  split
  · rename_i hw
    rw [if_pos hw] at this
    exact this
  · rename_i hw
    rw [if_neg hw] at this
    refine ⟨hI.1.put _ (fun k hk => ?_) _, this⟩
    have h1 := List.all_eq_true.mp hD o (by
      rw [Array.mem_toList_iff]
      exact Array.mem_of_getElem? ho)
    rw [hk] at h1
    simpa using h1
end
end Go.Proofs.YtpkiiegadckloaaDoor
