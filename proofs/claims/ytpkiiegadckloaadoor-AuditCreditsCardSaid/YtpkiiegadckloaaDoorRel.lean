/- A region that draws its order: its first operations only lay new memory; what each yields is known by a relation; the rest comes behind, in one order. -/
import Derived.Test.YtpkiiegadckloaaDoorReg
namespace Go.Proofs.YtpkiiegadckloaaDoor
open Go.RowKit

section
variable {P : Program} {l : List Oper} {Q : Exit → Act → World → Prop}

/-- The form that is asked. -/
def formR (l : List Oper) (n : Nat) (D : List Nat) (size : Nat) : Bool :=
  decide (n ≤ l.length) && edgesBack l.toArray &&
  ((List.range n).all fun i => match l[i]? with | none => false | some o => o.guard.isNone && (match o.dst with | none => true | some d => D.contains d)) &&
  (D.all fun d => decide (d < size)) &&
  ((List.range n).all fun i => (List.range n).all fun j => decide (i = j) || dstAt l i != dstAt l j || dstAt l i == none) &&
  ((List.range l.length).all fun t => decide (t < n) || if t = n then (List.range n).all fun i => waits l t i else waits l t (t - 1))

abbrev HeadR (l : List Oper) (n : Nat) (D : List Nat) (Rel : Nat → Value → World → Prop) (a0 : Act) (w1 : World) (L : Nat → Bool) (a : Act) (W : World) : Prop :=
  (∀ t, n ≤ t → L t = false) ∧ Near a0 D a ∧ Below w1.heap.size w1 W ∧ (∀ i, i < n → ∀ d, dstAt l i = some d → L i = true → Rel i (got a d) W)

theorem region_rel {id : Nat} {a0 : Act} {w0 : World} (n : Nat) (D : List Nat) (Rel : Nat → Value → World → Prop) (hm : P.follows .mixedOrders = true) (hF : formR l n D a0.tmps.size = true)
    (hmono : ∀ i v W W', Below W.heap.size W W' → Rel i v W → Rel i v W')
    (hhead : ∀ i o, i < n → l[i]? = some o → ∀ (τ : Nat → Value) (W : World), Below w0.heap.size w0.drew W → (∀ e ∈ o.after, Region.binds .any e = true → ∀ d, dstAt l e.on = some d → Rel e.on (τ d) W) →
      ∀ K : Act → World → Prop, (∀ v W', Below W.heap.size W W' → Rel i v W' → K ((putAll a0 τ D).put o.dst v) W') → o.wp P (putAll a0 τ D) W K Q)
    (htail : ∀ (τ : Nat → Value) (W : World), Below w0.heap.size w0.drew W → (∀ i, i < n → ∀ d, dstAt l i = some d → Rel i (τ d) W) → wpList P l.toArray Q (l.drop n) (putAll a0 τ D) W) : (Code.region id l.toArray true).wp P Q a0 w0 := by
  simp only [formR, Bool.and_eq_true, decide_eq_true_eq] at hF
  obtain ⟨⟨⟨⟨⟨hn, hE⟩, hH⟩, hDs⟩, hU⟩, hT⟩ := hF
  have hhd : ∀ i, i < n → ∃ o, l[i]? = some o ∧ o.guard = none ∧ (∀ d, o.dst = some d → d ∈ D) := by
    intro i hi
    have := List.all_eq_true.mp hH i (List.mem_range.mpr hi)
    cases ho : l[i]? with
    | none => rw [ho] at this; cases this
    | some o =>
      rw [ho] at this
      simp only [Bool.and_eq_true, Option.isNone_iff_eq_none] at this
      refine ⟨o, rfl, this.1, fun d hd => ?_⟩
      rw [hd] at this
      simpa using this.2
  have hwait : ∀ t o, n ≤ t → l[t]? = some o → ∀ i, (t = n ∧ i < n ∨ n < t ∧ i = t - 1) → ∃ e ∈ o.after, Region.binds .any e = true ∧ e.on = i := by
    intro t o ht ho i hi
    have htl : t < l.length := (List.getElem?_eq_some_iff.1 ho).1
    have := List.all_eq_true.mp hT t (List.mem_range.mpr htl)
    simp only [Bool.or_eq_true, decide_eq_true_eq] at this
    rcases this with h | h
    · omega
    · have hw : waits l t i = true := by
        rcases hi with ⟨h1, h2⟩ | ⟨h1, h2⟩
        · rw [if_pos h1] at h
          exact List.all_eq_true.mp h i (List.mem_range.mpr h2)
        · rw [if_neg (by omega)] at h
          rw [h2]
          exact h
      obtain ⟨o', ho', h3⟩ := waits_spec hw
      obtain rfl : o = o' := Option.some.inj (ho.symm.trans ho')
      exact h3
  have hDl : ∀ d ∈ D, d < a0.tmps.size := fun d hd => by simpa using List.all_eq_true.mp hDs d hd
  have huni : ∀ i j d, i < n → j < n → dstAt l i = some d → dstAt l j = some d → i = j := by
    intro i j d hi hj h1 h2
    have := List.all_eq_true.mp (List.all_eq_true.mp hU i (List.mem_range.mpr hi)) j (List.mem_range.mpr hj)
    rw [h1, h2] at this
    simpa using this
  refine region_inv hm hE (fun L a W =>
    HeadR l n D Rel a0 w0.drew L a W ∨
    (∃ c, n < c ∧ (∀ i, i < c → L i = true) ∧ (∀ i, c ≤ i → L i = false) ∧ wpList P l.toArray Q (l.drop c) a W)) ?_ ?_ ?_
  · exact Or.inl ⟨(fun _ _ => rfl), Near.refl _ _, Below.refl _ _, (fun _ _ _ _ h => by cases h)⟩
  · intro i o ho L a W hI hLi hdep
    have ho' : l[i]? = some o := by simpa using ho
    have hil : i < l.length := (List.getElem?_eq_some_iff.1 ho').1
    have hall : i = n → ∀ j, j < i → L j = true := fun hni j hj => by
      obtain ⟨e, he, hb, rfl⟩ := hwait i o (by omega) ho' j (Or.inl ⟨hni, by omega⟩)
      exact hdep e he hb
    have hprev : n < i → L (i - 1) = true := fun hni => by
      obtain ⟨e, he, hb, hon⟩ := hwait i o (by omega) ho' (i - 1) (Or.inr ⟨hni, rfl⟩)
      rw [← hon]
      exact hdep e he hb
    have tailstep : ∀ (c : Nat) (X : (Nat → Bool) → Act → World → Prop), c = i → (∀ j, j < c → L j = true) → (∀ j, c ≤ j → L j = false) → n ≤ c → wpList P l.toArray Q (l.drop c) a W →
        if Region.wanted o (yielded l.toArray a.tmps) = true then o.wp P a W (fun a' W' => X (also L i) a' W' ∨
          (∃ c, n < c ∧ (∀ j, j < c → also L i j = true) ∧ (∀ j, c ≤ j → also L i j = false) ∧ wpList P l.toArray Q (l.drop c) a' W')) Q ∨ (o.asks P a W ∧ LetsOut Q)
        else X (also L i) (a.put o.dst undef) W ∨
          (∃ c, n < c ∧ (∀ j, j < c → also L i j = true) ∧ (∀ j, c ≤ j → also L i j = false) ∧ wpList P l.toArray Q (l.drop c) (a.put o.dst undef) W) := by
      intro c X hc hlt hge hnc hw
      subst hc
      rw [List.drop_eq_getElem_cons hil, (List.getElem?_eq_some_iff.1 ho').2] at hw
      have hx : ∀ a' W', wpList P l.toArray Q (l.drop (c + 1)) a' W' → ∃ c', n < c' ∧ (∀ j, j < c' → also L c j = true) ∧ (∀ j, c' ≤ j → also L c j = false) ∧ wpList P l.toArray Q (l.drop c') a' W' := fun a' W' h =>
        ⟨c + 1, by omega, fun j hj => by
          by_cases e : j = c
          · subst e; exact also_self _ _
          · exact also_old (hlt j (by omega)), fun j hj => by rw [also_ne _ (by omega)]; exact hge j (by omega), h⟩
      unfold wpList at hw
      split
      · rename_i hwn
        rw [if_pos hwn] at hw
        exact hw.imp (Oper.wp_mono fun a' W' h => Or.inr (hx a' W' h)) (fun h => h)
      · rename_i hwn
        rw [if_neg hwn] at hw
        exact Or.inr (hx _ _ hw)
    rcases hI with ⟨ht, hN, hB, hv⟩ | ⟨c, hnc, hlt, hge, hw⟩
    · by_cases hin : i < n
      · obtain ⟨o2, ho2, hg, hd⟩ := hhd i hin
        obtain rfl : o = o2 := Option.some.inj (ho'.symm.trans ho2)
        have hτ : ∀ e ∈ o.after, Region.binds .any e = true → ∀ d', dstAt l e.on = some d' → Rel e.on (got a d') W := by
          intro e he hb d' hd'
          have hon : e.on < i := by
            have h1 := List.all_eq_true.mp hE i (List.mem_range.mpr (by simpa using hil))
            rw [ho] at h1
            simp only [Option.map_some, Option.getD_some] at h1
            rw [Array.all_eq_true'] at h1
            have := h1 e he
            simpa [hb] using this
          exact hv e.on (by omega) d' hd' (hdep e he hb)
        have hae := hN.eq
        refine if_wanted hg (Or.inl ?_)
        have := hhead i o hin ho' (got a) W hB hτ (fun a' W' => HeadR l n D Rel a0 w0.drew (also L i) a' W' ∨ (∃ c, n < c ∧ (∀ i_1, i_1 < c → also L i i_1 = true) ∧ (∀ i_1, c ≤ i_1 → also L i i_1 = false) ∧ wpList P l.toArray Q (l.drop c) a' W')) (by
          intro v W' hBW hR
          rw [← hae]
          refine Or.inl ⟨fun t htn => by rw [also_ne _ (by omega)]; exact ht t htn, hN.put _ (fun k hk => hd k hk) _, hB.trans (hBW.mono hB.size), fun j hj d' hd' hLj => ?_⟩
          by_cases hji : j = i
          · subst hji
            have h1 : o.dst = some d' := by simpa only [dstAt, ho', Option.bind_some] using hd'
            rw [h1, got_same _ _ _ (by rw [hN.size]; exact hDl d' (hd d' h1))]
            exact hR
          · rw [also_ne _ hji] at hLj
            have hold := hmono j _ W W' hBW (hv j hj d' hd' hLj)
            cases h1 : o.dst with
            | none => exact hold
            | some d =>
              have hne : d' ≠ d := fun e => by
                subst e
                exact hji (huni j i d' hj hin hd' (by simp only [dstAt, ho', Option.bind_some, h1]))
              rw [got_ne _ _ _ _ hne]
              exact hold)
        rw [← hae] at this
        exact this
      · have hi : i = n := by
          by_cases hgt : n < i
          · have := hprev hgt
            rw [ht (i - 1) (by omega)] at this
            cases this
          · omega
        have hall' := hall hi
        refine tailstep n (HeadR l n D Rel a0 w0.drew) hi.symm (fun j hj => hall' j (by omega)) ht (Nat.le_refl _) ?_
        have := htail (got a) W hB (fun j hj d hd => hv j hj d hd (hall' j (by omega)))
        rw [← hN.eq] at this
        exact this
    · have hci : c = i := by
        by_cases hlt' : i < c
        · rw [hlt i hlt'] at hLi; cases hLi
        · by_cases hgt : c < i
          · have := hprev (by omega)
            rw [hge (i - 1) (by omega)] at this
            cases this
          · omega
      exact tailstep c (HeadR l n D Rel a0 w0.drew) hci hlt hge (by omega) hw
  · intro L a W hL hI
    rcases hI with ⟨ht, hN, hB, hv⟩ | ⟨c, hnc, hlt, hge, hw⟩
    · have hnl : n = l.length := by
        by_cases h : n < l.length
        · have := hL n (by simpa using h)
          rw [ht n (Nat.le_refl _)] at this
          cases this
        · omega
      have := htail (got a) W hB (fun j hj d hd => hv j hj d hd (hL j (by simp; omega)))
      rw [List.drop_eq_nil_of_le (by omega), ← hN.eq] at this
      exact this
    · have : l.length ≤ c := by
        by_cases h : c < l.length
        · have := hL c (by simpa using h)
          rw [hge c (Nat.le_refl _)] at this
          cases this
        · omega
      rw [List.drop_eq_nil_of_le this] at hw
      exact hw
end
end Go.Proofs.YtpkiiegadckloaaDoor
