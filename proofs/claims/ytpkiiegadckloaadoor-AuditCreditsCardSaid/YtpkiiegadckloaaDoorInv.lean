/- A region that draws its order, by an invariant over which of its operations have been carried out: each operation is looked at once. -/
import Derived.Orders
import Derived.Below
namespace Go.Proofs.YtpkiiegadckloaaDoor
open Go.RowKit

section
variable {P : Program} {ops : Array Oper} {Q : Exit → Act → World → Prop}

/-- Operation i has been carried out too. -/
def also (L : Nat → Bool) (i : Nat) : Nat → Bool := fun j => if j = i then true else L j
theorem also_self (L : Nat → Bool) (i : Nat) : also L i i = true := by simp [also]
theorem also_old {L : Nat → Bool} {i j : Nat} (h : L j = true) : also L i j = true := by simp [also, h]
theorem also_ne (L : Nat → Bool) {i j : Nat} (h : j ≠ i) : also L i j = L j := by simp [also, h]

/-- Which have been carried out. -/
def did (listed : Array Bool) : Nat → Bool := fun j => listed.getD j false

theorem did_set (listed : Array Bool) (i : Nat) (h : i < listed.size) : did (listed.setIfInBounds i true) = also (did listed) i := by
  funext j
  unfold did also
  by_cases hj : j = i
  · subst hj
    simp [Array.getD_eq_getD_getElem?, h]
  · simp [Array.getD_eq_getD_getElem?, hj, Ne.symm hj]

/-- Every edge that binds leads back. -/
def edgesBack (ops : Array Oper) : Bool := (List.range ops.size).all fun i => ((ops[i]?).map (fun o => o.after.all fun e => !Region.binds .any e || decide (e.on < i))).getD true

def left (listed : Array Bool) : Nat := listed.toList.count false

theorem left_set (listed : Array Bool) (i : Nat) (h : listed[i]? = some false) : left (listed.setIfInBounds i true) + 1 = left listed := by
  obtain ⟨l⟩ := listed
  unfold left
  simp only [List.setIfInBounds_toArray, List.getElem?_toArray] at *
  induction l generalizing i with
  | nil => simp at h
  | cons x r ih =>
    cases i with
    | zero => simp at h; subst h; simp
    | succ i =>
      simp only [List.getElem?_cons_succ] at h
      have := ih i h
      simp only [List.set_cons_succ, List.count_cons]
      omega

theorem all_listed (hE : edgesBack ops = true) (listed : Array Bool) (hs : listed.size = ops.size) (hr : Region.ready .any ops listed = []) : ∀ i, i < ops.size → did listed i = true := by
  intro i
  induction i using Nat.strongRecOn with
  | ind i ih =>
    intro hi
    by_cases hd : did listed i = true
    · exact hd
    · exfalso
      have hm : i ∈ Region.ready .any ops listed := by
        unfold Region.ready
        rw [List.mem_filter]
        refine ⟨List.mem_range.mpr hi, ?_⟩
        have h1 : listed.getD i true = false := by
          unfold did at hd
          rw [Array.getD_eq_getD_getElem?, Array.getElem?_eq_getElem (by omega)] at hd ⊢
          simpa using hd
        rw [h1]
        have h2 := List.all_eq_true.mp hE i (List.mem_range.mpr hi)
        rw [Array.getElem?_eq_getElem hi] at h2 ⊢
        simp only [Option.map_some, Option.getD_some, Bool.not_false, Bool.true_and] at h2 ⊢
        rw [Array.all_eq_true'] at h2 ⊢
        intro e he
        have h3 := h2 e he
        simp only [Bool.or_eq_true, Bool.not_eq_true', decide_eq_true_eq] at h3 ⊢
        rcases h3 with h3 | h3
        · exact Or.inl h3
        · exact Or.inr (ih e.on h3 (by omega))
      rw [hr] at hm
      cases hm

/-- THE LAW: an invariant that every operation keeps, whenever those that it waits for have been carried out. -/
theorem region_inv {id : Nat} {a0 : Act} {w0 : World} (hm : P.follows .mixedOrders = true) (hE : edgesBack ops = true) (I : (Nat → Bool) → Act → World → Prop)
    (h0 : I (fun _ => false) a0 { w0 with drawn := w0.drawn + 1 })
    (hstep : ∀ (i : Nat) (o : Oper), ops[i]? = some o → ∀ (L : Nat → Bool) (a : Act) (w : World), I L a w → L i = false → (∀ e ∈ o.after, Region.binds .any e = true → L e.on = true) →
      if Region.wanted o (yielded ops a.tmps) = true then o.wp P a w (I (also L i)) Q ∨ (o.asks P a w ∧ LetsOut Q) else I (also L i) (a.put o.dst undef) w)
    (hend : ∀ (L : Nat → Bool) (a : Act) (w : World), (∀ i, i < ops.size → L i = true) → I L a w → Q .normal a w) : (Code.region id ops true).wp P Q a0 w0 := by
  refine wp_region_any hm ?_
  have main : ∀ (fuel : Nat) (listed : Array Bool) (a : Act) (w : World), listed.size = ops.size → left listed ≤ fuel → I (did listed) a w → wpAny P .any ops Q fuel listed a w := by
    intro fuel
    induction fuel with
    | zero =>
      intro listed a w hs hl hI
      have hno : ∀ i, listed[i]? ≠ some false := fun i hi => by have := left_set listed i hi; omega
      have hr : Region.ready .any ops listed = [] := by
        unfold Region.ready
        rw [List.filter_eq_nil_iff]
        intro i hi
        have hi := List.mem_range.mp hi
        have : listed.getD i true = true := by
          rw [Array.getD_eq_getD_getElem?]
          cases h : listed[i]? with
          | none => rfl
          | some b => cases b with
            | false => exact absurd h (hno i)
            | true => rfl
        simp [this]
      exact ⟨hr, hend _ _ _ (all_listed hE listed hs hr) hI⟩
    | succ fuel ih =>
      intro listed a w hs hl hI
      refine ⟨fun hr => hend _ _ _ (all_listed hE listed hs hr) hI, fun i hi => ?_⟩
      unfold Region.ready at hi
      rw [List.mem_filter] at hi
      obtain ⟨hi, hg⟩ := hi
      have hi := List.mem_range.mp hi
      simp only [Bool.and_eq_true, Bool.not_eq_true', Array.getElem?_eq_getElem hi, Option.map_some, Option.getD_some] at hg
      obtain ⟨hg1, hg2⟩ := hg
      have hf : listed[i]? = some false := by
        rw [Array.getD_eq_getD_getElem?, Array.getElem?_eq_getElem (by omega)] at hg1
        rw [Array.getElem?_eq_getElem (by omega)]
        simpa using hg1
      have hstep' := hstep i ops[i] (Array.getElem?_eq_getElem hi) (did listed) a w hI (by unfold did; rw [Array.getD_eq_getD_getElem?, hf]; rfl) (fun e he hb => by
        rw [Array.all_eq_true'] at hg2
        have := hg2 e he
        simpa [hb, did] using this)
      have hnext : ∀ a' w', I (also (did listed) i) a' w' → wpAny P .any ops Q fuel (listed.setIfInBounds i true) a' w' := fun a' w' hI' =>
        ih _ _ _ (by simpa using hs) (by have := left_set listed i hf; omega) (by rw [did_set listed i (by omega)]; exact hI')
      unfold wpOp
      rw [Array.getElem?_eq_getElem hi]
      simp only
      split
      · rename_i hw; rw [if_pos hw] at hstep'; exact hstep'.imp (Oper.wp_mono hnext) (fun h => h)
      · rename_i hw; rw [if_neg hw] at hstep'; exact hnext _ _ hstep'
  refine main _ _ _ _ (by simp) ?_ ?_
  · unfold left
    exact Nat.le_trans List.count_le_length (by simp)
  · have : did (Array.replicate ops.size false) = fun _ => false := by
      funext j
      unfold did
      rw [Array.getD_eq_getD_getElem?, Array.getElem?_replicate]
      split <;> rfl
    rw [this]
    exact h0
end

/-- An operation without a guard is wanted. -/
theorem if_wanted {o : Oper} {y : Nat → Option Bool} {X Y : Prop} (hg : o.guard = none) (h : X) : if Region.wanted o y = true then X else Y := by
  rw [if_pos (by simp [Region.wanted, hg])]
  exact h

/-- What lies in w's blocks lies there still. -/
theorem grown_of_below {w w' : World} (h : Below w.heap.size w w') : w.grownBy w' none := ⟨h.os, h.tape, h.output, h.size, fun k hk _ => h.block k hk⟩
theorem owns_keep {w w' : World} {base : Nat} {e : TypeId} {size : Nat} {v : Value} {n : Nat} {xs : List Value} (h : w.ownsRow base e size v n xs) (hb : Below w.heap.size w w') : w'.ownsRow base e size v n xs := by
  refine h.kept (grown_of_below hb) ?_
  cases hv : v.ownBlock
  · exact Or.inl rfl
  · exact Or.inr (by simp)
end Go.Proofs.YtpkiiegadckloaaDoor
