/- A region that draws its order, in general: what its operations yield is known by a relation, the world by a word on which operations have been carried out; the rest comes behind, in one order. -/
import Derived.Test.YtpkiiegadckloaaDoorReg
namespace Go.Proofs.YtpkiiegadckloaaDoor
open Go.RowKit

section
variable {P : Program} {l : List Oper} {Q : Exit → Act → World → Prop}

/-- The form that is asked. -/
def formG (l : List Oper) (n : Nat) (D : List Nat) (size : Nat) : Bool :=
  decide (n ≤ l.length) && edgesBack l.toArray &&
  ((List.range n).all fun i => match l[i]? with | none => false | some o => o.guard.isNone && (match o.dst with | none => true | some d => D.contains d)) &&
  (D.all fun d => decide (d < size)) &&
  ((List.range n).all fun i => (List.range n).all fun j => decide (i = j) || dstAt l i != dstAt l j || dstAt l i == none) &&
  ((List.range l.length).all fun t => decide (t < n) || if t = n then (List.range n).all fun i => (List.range (n + 1)).any fun j => decide (i < j) && waits l j i else waits l t (t - 1))

abbrev HeadG (l : List Oper) (n : Nat) (D : List Nat) (V : Nat → Value → World → Prop) (R : (Nat → Bool) → World → Prop) (a0 : Act) (L : Nat → Bool) (a : Act) (W : World) : Prop :=
  (∀ t, n ≤ t → L t = false) ∧ (∀ j o, l[j]? = some o → L j = true → ∀ e ∈ o.after, Region.binds .any e = true → L e.on = true) ∧ Near a0 D a ∧ R L W ∧ (∀ i, i < n → ∀ d, dstAt l i = some d → L i = true → V i (got a d) W)

theorem region_gen {id : Nat} {a0 : Act} {w0 : World} (n : Nat) (D C : List Nat) (V : Nat → Value → World → Prop) (R : (Nat → Bool) → World → Prop) (hm : P.follows .mixedOrders = true) (hF : formG l n D a0.tmps.size = true)
    (hR0 : R (fun _ => false) w0.drew)
    (hRc : ∀ i, i < n → i ∉ C → ∀ L W, R L W → R (also L i) W)
    (hhead : ∀ i o, i < n → i ∉ C → l[i]? = some o → ∀ (τ : Nat → Value) (W : World) (L : Nat → Bool), R L W → (∀ e ∈ o.after, Region.binds .any e = true → L e.on = true) → (∀ e ∈ o.after, Region.binds .any e = true → ∀ d, dstAt l e.on = some d → V e.on (τ d) W) →
      ∀ K : Act → World → Prop, (∀ v, V i v W → K ((putAll a0 τ D).put o.dst v) W) → o.wp P (putAll a0 τ D) W K Q)
    (hchg : ∀ i o, i < n → i ∈ C → l[i]? = some o → ∀ (τ : Nat → Value) (W : World) (L : Nat → Bool), R L W → L i = false → (∀ e ∈ o.after, Region.binds .any e = true → L e.on = true) → (∀ e ∈ o.after, Region.binds .any e = true → ∀ d, dstAt l e.on = some d → V e.on (τ d) W) →
      ∀ K : Act → World → Prop, (∀ v W', R (also L i) W' → (∀ j u, j < n → L j = true → V j u W → V j u W') → V i v W' → K ((putAll a0 τ D).put o.dst v) W') → o.wp P (putAll a0 τ D) W K Q)
    (htail : ∀ (τ : Nat → Value) (W : World) (L : Nat → Bool), (∀ i, i < n → L i = true) → R L W → (∀ i, i < n → ∀ d, dstAt l i = some d → V i (τ d) W) → wpList P l.toArray Q (l.drop n) (putAll a0 τ D) W) : (Code.region id l.toArray true).wp P Q a0 w0 := by
  simp only [formG, Bool.and_eq_true, decide_eq_true_eq] at hF
  obtain ⟨⟨⟨⟨⟨hn, hE⟩, hH⟩, hDs⟩, hU⟩, hT⟩ := hF
  have hhd : ∀ i, i < n → ∃ o, l[i]? = some o ∧ o.guard = none ∧ (∀ d, o.dst = some d → d ∈ D) := by
    intro i hi
    have := List.all_eq_true.mp hH i (List.mem_range.mpr hi)
    cases ho : l[i]? with
    | none => rw [ho] at this; cases this
    | some o =>
      rw [ho] at this
      simp only [Bool.and_eq_true, Option.isNone_iff_eq_none] at this
      refine ⟨o, rfl, this.1, fun d hd => ?_⟩
      rw [hd] at this
      simpa using this.2
  have hwait : ∀ t o, n < t → l[t]? = some o → ∃ e ∈ o.after, Region.binds .any e = true ∧ e.on = t - 1 := by
    intro t o ht ho
    have htl : t < l.length := (List.getElem?_eq_some_iff.1 ho).1
    have := List.all_eq_true.mp hT t (List.mem_range.mpr htl)
    simp only [Bool.or_eq_true, decide_eq_true_eq] at this
    rcases this with h | h
    · omega
    · rw [if_neg (by omega)] at h
      obtain ⟨o', ho', h3⟩ := waits_spec h
      obtain rfl : o = o' := Option.some.inj (ho.symm.trans ho')
      exact h3
  have hsink : n < l.length → ∀ i, i < n → ∃ j, i < j ∧ j ≤ n ∧ waits l j i = true := by
    intro hnl i hi
    have := List.all_eq_true.mp hT n (List.mem_range.mpr hnl)
    simp only [Bool.or_eq_true, decide_eq_true_eq] at this
    rcases this with h | h
    · omega
    · rw [if_pos trivial] at h
      obtain ⟨j, hj, hx⟩ := List.any_eq_true.1 (List.all_eq_true.mp h i (List.mem_range.mpr hi))
      simp only [Bool.and_eq_true, decide_eq_true_eq] at hx
      exact ⟨j, hx.1, by have := List.mem_range.1 hj; omega, hx.2⟩
  have hDl : ∀ d ∈ D, d < a0.tmps.size := fun d hd => by simpa using List.all_eq_true.mp hDs d hd
  have huni : ∀ i j d, i < n → j < n → dstAt l i = some d → dstAt l j = some d → i = j := by
    intro i j d hi hj h1 h2
    have := List.all_eq_true.mp (List.all_eq_true.mp hU i (List.mem_range.mpr hi)) j (List.mem_range.mpr hj)
    rw [h1, h2] at this
    simpa using this
  refine region_inv hm hE (fun L a W =>
    HeadG l n D V R a0 L a W ∨
    (∃ c, n < c ∧ (∀ i, i < c → L i = true) ∧ (∀ i, c ≤ i → L i = false) ∧ wpList P l.toArray Q (l.drop c) a W)) ?_ ?_ ?_
  · exact Or.inl ⟨(fun _ _ => rfl), (fun _ _ _ h => by cases h), Near.refl _ _, hR0, (fun _ _ _ _ h => by cases h)⟩
  · intro i o ho L a W hI hLi hdep
    have ho' : l[i]? = some o := by simpa using ho
    have hil : i < l.length := (List.getElem?_eq_some_iff.1 ho').1
    have hclo : (∀ j o, l[j]? = some o → L j = true → ∀ e ∈ o.after, Region.binds .any e = true → L e.on = true) → ∀ j o, l[j]? = some o → also L i j = true → ∀ e ∈ o.after, Region.binds .any e = true → also L i e.on = true := by
      intro hcl j o' hj hLj e he hb
      by_cases hji : j = i
      · subst hji
        obtain rfl : o = o' := Option.some.inj (ho'.symm.trans hj)
        exact also_old (hdep e he hb)
      · rw [also_ne _ hji] at hLj
        exact also_old (hcl j o' hj hLj e he hb)
    have hall : (∀ j o, l[j]? = some o → L j = true → ∀ e ∈ o.after, Region.binds .any e = true → L e.on = true) → i = n → ∀ j, j < i → L j = true := by
      intro hcl hin
      have key : ∀ d j, j < n → n - j ≤ d → L j = true := by
        intro d
        induction d with
        | zero => intro j hj hd; omega
        | succ d ih =>
          intro j hj hd
          obtain ⟨k, hjk, hkn, hw⟩ := hsink (by omega) j hj
          obtain ⟨o', ho2, e, he, hb, hon⟩ := waits_spec hw
          by_cases hk : k = n
          · obtain rfl : o = o' := Option.some.inj (ho'.symm.trans (by rw [hin, ← hk]; exact ho2))
            rw [← hon]
            exact hdep e he hb
          · rw [← hon]
            exact hcl k o' ho2 (ih k (by omega) (by omega)) e he hb
      intro j hj
      exact key n j (by omega) (by omega)
    have hprev : n < i → L (i - 1) = true := fun hni => by
      obtain ⟨e, he, hb, hon⟩ := hwait i o hni ho'
      rw [← hon]
      exact hdep e he hb
    have tailstep : ∀ (c : Nat) (X : (Nat → Bool) → Act → World → Prop), c = i → (∀ j, j < c → L j = true) → (∀ j, c ≤ j → L j = false) → n ≤ c → wpList P l.toArray Q (l.drop c) a W →
        if Region.wanted o (yielded l.toArray a.tmps) = true then o.wp P a W (fun a' W' => X (also L i) a' W' ∨
          (∃ c, n < c ∧ (∀ j, j < c → also L i j = true) ∧ (∀ j, c ≤ j → also L i j = false) ∧ wpList P l.toArray Q (l.drop c) a' W')) Q ∨ (o.asks P a W ∧ LetsOut Q)
        else X (also L i) (a.put o.dst undef) W ∨
          (∃ c, n < c ∧ (∀ j, j < c → also L i j = true) ∧ (∀ j, c ≤ j → also L i j = false) ∧ wpList P l.toArray Q (l.drop c) (a.put o.dst undef) W) := by
      intro c X hc hlt hge hnc hw
      subst hc
      rw [List.drop_eq_getElem_cons hil, (List.getElem?_eq_some_iff.1 ho').2] at hw
      have hx : ∀ a' W', wpList P l.toArray Q (l.drop (c + 1)) a' W' → ∃ c', n < c' ∧ (∀ j, j < c' → also L c j = true) ∧ (∀ j, c' ≤ j → also L c j = false) ∧ wpList P l.toArray Q (l.drop c') a' W' := fun a' W' h =>
        ⟨c + 1, by omega, fun j hj => by
          by_cases e : j = c
          · subst e; exact also_self _ _
          · exact also_old (hlt j (by omega)), fun j hj => by rw [also_ne _ (by omega)]; exact hge j (by omega), h⟩
      unfold wpList at hw
      split
      · rename_i hwn
        rw [if_pos hwn] at hw
        exact hw.imp (Oper.wp_mono fun a' W' h => Or.inr (hx a' W' h)) (fun h => h)
      · rename_i hwn
        rw [if_neg hwn] at hw
        exact Or.inr (hx _ _ hw)
    rcases hI with ⟨ht, hcl, hN, hRW, hv⟩ | ⟨c, hnc, hlt, hge, hw⟩
    · by_cases hin : i < n
      · obtain ⟨o2, ho2, hg, hd⟩ := hhd i hin
        obtain rfl : o = o2 := Option.some.inj (ho'.symm.trans ho2)
        have hτ : ∀ e ∈ o.after, Region.binds .any e = true → ∀ d', dstAt l e.on = some d' → V e.on (got a d') W := by
          intro e he hb d' hd'
          have hon : e.on < i := by
            have h1 := List.all_eq_true.mp hE i (List.mem_range.mpr (by simpa using hil))
            rw [ho] at h1
            simp only [Option.map_some, Option.getD_some] at h1
            rw [Array.all_eq_true'] at h1
            have := h1 e he
            simpa [hb] using this
          exact hv e.on (by omega) d' hd' (hdep e he hb)
        have hae := hN.eq
        have hfin : ∀ v W', R (also L i) W' → (∀ j u, j < n → L j = true → V j u W → V j u W') → V i v W' → HeadG l n D V R a0 (also L i) (a.put o.dst v) W' := by
          intro v W' h1 h2 h3
          refine ⟨fun t htn => by rw [also_ne _ (by omega)]; exact ht t htn, hclo hcl, hN.put _ (fun k hk => hd k hk) _, h1, fun j hj d' hd' hLj => ?_⟩
          by_cases hji : j = i
          · subst hji
            have h4 : o.dst = some d' := by simpa only [dstAt, ho', Option.bind_some] using hd'
            rw [h4, got_same _ _ _ (by rw [hN.size]; exact hDl d' (hd d' h4))]
            exact h3
          · rw [also_ne _ hji] at hLj
            have hold := h2 j _ hj hLj (hv j hj d' hd' hLj)
            cases h5 : o.dst with
            | none => exact hold
            | some d =>
              have hne : d' ≠ d := fun e => by
                subst e
                exact hji (huni j i d' hj hin hd' (by simp only [dstAt, ho', Option.bind_some, h5]))
              rw [got_ne _ _ _ _ hne]
              exact hold
        refine if_wanted hg (Or.inl ?_)
        by_cases hiC : i ∈ C
        · have := hchg i o hin hiC ho' (got a) W L hRW hLi hdep hτ (fun a' W' => HeadG l n D V R a0 (also L i) a' W' ∨
            (∃ c, n < c ∧ (∀ i_1, i_1 < c → also L i i_1 = true) ∧ (∀ i_1, c ≤ i_1 → also L i i_1 = false) ∧ wpList P l.toArray Q (l.drop c) a' W')) (by
              intro v W' h1 h2 h3
              rw [← hae]
              exact Or.inl (hfin v W' h1 h2 h3))
          rw [← hae] at this
          exact this
        · have := hhead i o hin hiC ho' (got a) W L hRW hdep hτ (fun a' W' => HeadG l n D V R a0 (also L i) a' W' ∨
            (∃ c, n < c ∧ (∀ i_1, i_1 < c → also L i i_1 = true) ∧ (∀ i_1, c ≤ i_1 → also L i i_1 = false) ∧ wpList P l.toArray Q (l.drop c) a' W')) (by
              intro v h3
              rw [← hae]
              exact Or.inl (hfin v W (hRc i hin hiC L W hRW) (fun _ _ _ _ h => h) h3))
          rw [← hae] at this
          exact this
      · have hi : i = n := by
          by_cases hgt : n < i
          · have := hprev hgt
            rw [ht (i - 1) (by omega)] at this
            cases this
          · omega
        have hall' := hall hcl hi
        refine tailstep n (HeadG l n D V R a0) hi.symm (fun j hj => hall' j (by omega)) ht (Nat.le_refl _) ?_
        have := htail (got a) W L (fun j hj => hall' j (by omega)) hRW (fun j hj d hd => hv j hj d hd (hall' j (by omega)))
        rw [← hN.eq] at this
        exact this
    · have hci : c = i := by
        by_cases hlt' : i < c
        · rw [hlt i hlt'] at hLi; cases hLi
        · by_cases hgt : c < i
          · have := hprev (by omega)
            rw [hge (i - 1) (by omega)] at this
            cases this
          · omega
      exact tailstep c (HeadG l n D V R a0) hci hlt hge (by omega) hw
  · intro L a W hL hI
    rcases hI with ⟨ht, hcl, hN, hRW, hv⟩ | ⟨c, hnc, hlt, hge, hw⟩
    · have hnl : n = l.length := by
        by_cases h : n < l.length
        · have := hL n (by simpa using h)
          rw [ht n (Nat.le_refl _)] at this
          cases this
        · omega
      have := htail (got a) W L (fun j hj => hL j (by simp; omega)) hRW (fun j hj d hd => hv j hj d hd (hL j (by simp; omega)))
      rw [List.drop_eq_nil_of_le (by omega), ← hN.eq] at this
      exact this
    · have : l.length ≤ c := by
        by_cases h : c < l.length
        · have := hL c (by simpa using h)
          rw [hge c (Nat.le_refl _)] at this
          cases this
        · omega
      rw [List.drop_eq_nil_of_le this] at hw
      exact hw
end
end Go.Proofs.YtpkiiegadckloaaDoor
