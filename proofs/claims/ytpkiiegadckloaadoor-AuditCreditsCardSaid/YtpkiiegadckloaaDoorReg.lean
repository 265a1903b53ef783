/- A region that draws its order: its first operations only read, but for a few, in one order among themselves, which change the world; the rest comes behind, in one order. -/
import Derived.Test.YtpkiiegadckloaaDoorSlots
import Derived.Tactics
namespace Go.Proofs.YtpkiiegadckloaaDoor
open Go.RowKit

section
variable {P : Program} {l : List Oper} {Q : Exit → Act → World → Prop}

def dstAt (l : List Oper) (i : Nat) : Option Nat := (l[i]?).bind (·.dst)
/-- What an operation leaves in its slot. -/
def left1 (σ : Nat → Value) (o : Oper) : Value := σ (o.dst.getD 0)

def waits (l : List Oper) (t i : Nat) : Bool := match l[t]? with | none => false | some o => o.after.any fun e => Region.binds .any e && e.on == i
theorem waits_spec {t i : Nat} (h : waits l t i = true) : ∃ o, l[t]? = some o ∧ ∃ e ∈ o.after, Region.binds .any e = true ∧ e.on = i := by
  unfold waits at h
  cases ho : l[t]? with
  | none => rw [ho] at h; cases h
  | some o =>
    rw [ho] at h
    obtain ⟨e, he, hb⟩ := Array.any_eq_true'.1 h
    simp only [Bool.and_eq_true, beq_iff_eq] at hb
    exact ⟨o, rfl, e, he, hb.1, hb.2⟩

/-- The form that is asked: C: the operations that change the world. -/
def formB (l : List Oper) (n : Nat) (D C : List Nat) (size : Nat) : Bool :=
  decide (n ≤ l.length) && edgesBack l.toArray &&
  ((List.range n).all fun i => match l[i]? with | none => false | some o => o.guard.isNone && (match o.dst with | none => C.contains i | some d => D.contains d)) &&
  (D.all fun d => decide (d < size) && (List.range n).any fun i => dstAt l i == some d) &&
  ((List.range l.length).all fun t => decide (t < n) || if t = n then (List.range n).all fun i => (List.range (n + 1)).any fun j => decide (i < j) && waits l j i else waits l t (t - 1)) &&
  (C.all fun c => decide (c < n)) && decide C.Nodup && ((List.range C.length).all fun k => decide (k = 0) || waits l (C.getD k 0) (C.getD (k - 1) 0))

theorem putAll_congr (a0 : Act) {σ τ : Nat → Value} : ∀ (D : List Nat), (∀ d ∈ D, σ d = τ d) → putAll a0 σ D = putAll a0 τ D
  | [], _ => rfl
  | d :: D, h => by
    simp only [putAll]
    rw [putAll_congr a0 D (fun x hx => h x (List.mem_cons_of_mem _ hx)), h d (List.mem_cons_self ..)]

abbrev HeadI (l : List Oper) (n : Nat) (D C : List Nat) (σ : Nat → Value) (Ws : Nat → World) (a0 : Act) (L : Nat → Bool) (a : Act) (W : World) : Prop :=
  (∀ t, n ≤ t → L t = false) ∧ (∀ j o, l[j]? = some o → L j = true → ∀ e ∈ o.after, Region.binds .any e = true → L e.on = true) ∧ Near a0 D a ∧ (∀ i, i < n → ∀ d, dstAt l i = some d → L i = true → got a d = σ d) ∧
      ∃ m, m ≤ C.length ∧ W = Ws m ∧ (∀ k, k < m → L (C.getD k 0) = true) ∧ (∀ k, m ≤ k → k < C.length → L (C.getD k 0) = false)

theorem region_lays {id : Nat} {a0 : Act} {w0 : World} (n : Nat) (D C : List Nat) (σ : Nat → Value) (R : World → Prop) (Ws : Nat → World) (hm : P.follows .mixedOrders = true) (hF : formB l n D C a0.tmps.size = true)
    (hW0 : Ws 0 = w0.drew) (hR : ∀ m, m ≤ C.length → R (Ws m))
    (hhead : ∀ i o, i < n → i ∉ C → l[i]? = some o → ∀ (τ : Nat → Value) (W : World), R W → (∀ e ∈ o.after, Region.binds .any e = true → ∀ d, dstAt l e.on = some d → τ d = σ d) →
      ∀ K : Act → World → Prop, K ((putAll a0 τ D).put o.dst (left1 σ o)) W → o.wp P (putAll a0 τ D) W K Q)
    (hchg : ∀ k o, k < C.length → l[C.getD k 0]? = some o → ∀ (τ : Nat → Value), R (Ws k) → (∀ e ∈ o.after, Region.binds .any e = true → ∀ d, dstAt l e.on = some d → τ d = σ d) →
      ∀ K : Act → World → Prop, K ((putAll a0 τ D).put o.dst (left1 σ o)) (Ws (k + 1)) → o.wp P (putAll a0 τ D) (Ws k) K Q)
    (htail : wpList P l.toArray Q (l.drop n) (putAll a0 σ D) (Ws C.length)) : (Code.region id l.toArray true).wp P Q a0 w0 := by
  simp only [formB, Bool.and_eq_true, decide_eq_true_eq] at hF
  obtain ⟨⟨⟨⟨⟨⟨⟨hn, hE⟩, hH⟩, hDs⟩, hT⟩, hCn⟩, hCd⟩, hCw⟩ := hF
  have hhd : ∀ i, i < n → ∃ o, l[i]? = some o ∧ o.guard = none ∧ (o.dst = none ∧ i ∈ C ∨ ∃ d, o.dst = some d ∧ d ∈ D) := by
    intro i hi
    have := List.all_eq_true.mp hH i (List.mem_range.mpr hi)
    cases ho : l[i]? with
    | none => rw [ho] at this; cases this
    | some o =>
      rw [ho] at this
      simp only [Bool.and_eq_true, Option.isNone_iff_eq_none] at this
      cases hd : o.dst with
      | none => rw [hd] at this; exact ⟨o, rfl, this.1, Or.inl ⟨hd, by simpa using this.2⟩⟩
      | some d => rw [hd] at this; exact ⟨o, rfl, this.1, Or.inr ⟨d, hd, by simpa using this.2⟩⟩
  have hwait : ∀ t o, n < t → l[t]? = some o → ∃ e ∈ o.after, Region.binds .any e = true ∧ e.on = t - 1 := by
    intro t o ht ho
    have htl : t < l.length := (List.getElem?_eq_some_iff.1 ho).1
    have := List.all_eq_true.mp hT t (List.mem_range.mpr htl)
    simp only [Bool.or_eq_true, decide_eq_true_eq] at this
    rcases this with h | h
    · omega
    · rw [if_neg (by omega)] at h
      obtain ⟨o', ho', h3⟩ := waits_spec h
      obtain rfl : o = o' := Option.some.inj (ho.symm.trans ho')
      exact h3
  have hsink : n < l.length → ∀ i, i < n → ∃ j, i < j ∧ j ≤ n ∧ waits l j i = true := by
    intro hnl i hi
    have := List.all_eq_true.mp hT n (List.mem_range.mpr hnl)
    simp only [Bool.or_eq_true, decide_eq_true_eq] at this
    rcases this with h | h
    · omega
    · rw [if_pos trivial] at h
      obtain ⟨j, hj, hx⟩ := List.any_eq_true.1 (List.all_eq_true.mp h i (List.mem_range.mpr hi))
      simp only [Bool.and_eq_true, decide_eq_true_eq] at hx
      exact ⟨j, hx.1, by have := List.mem_range.1 hj; omega, hx.2⟩
  have hDl : ∀ d ∈ D, d < a0.tmps.size ∧ ∃ i, i < n ∧ dstAt l i = some d := by
    intro d hd
    have := List.all_eq_true.mp hDs d hd
    simp only [Bool.and_eq_true, decide_eq_true_eq] at this
    refine ⟨this.1, ?_⟩
    obtain ⟨i, hi, hx⟩ := List.any_eq_true.1 this.2
    exact ⟨i, List.mem_range.1 hi, by simpa using hx⟩
  have hCget : ∀ c ∈ C, ∃ k, k < C.length ∧ C.getD k 0 = c := by
    intro c hc
    obtain ⟨k, hk, hx⟩ := List.getElem_of_mem hc
    exact ⟨k, hk, by simp [List.getD_eq_getElem?_getD, hk, hx]⟩
  have hCmem : ∀ k, k < C.length → C.getD k 0 ∈ C := by
    intro k hk
    rw [List.getD_eq_getElem?_getD, List.getElem?_eq_getElem hk]
    exact List.getElem_mem hk
  have hCinj : ∀ j k, j < C.length → k < C.length → C.getD j 0 = C.getD k 0 → j = k := by
    intro j k hj hk he
    simp only [List.getD_eq_getElem?_getD, List.getElem?_eq_getElem hj, List.getElem?_eq_getElem hk, Option.getD_some] at he
    exact (List.getElem_inj hCd).1 he
  have hCw' : ∀ k o, k < C.length → 0 < k → l[C.getD k 0]? = some o → ∃ e ∈ o.after, Region.binds .any e = true ∧ e.on = C.getD (k - 1) 0 := by
    intro k o hk h0 ho
    have := List.all_eq_true.mp hCw k (List.mem_range.mpr hk)
    simp only [Bool.or_eq_true, decide_eq_true_eq] at this
    rcases this with h | h
    · omega
    · obtain ⟨o', ho', h3⟩ := waits_spec h
      obtain rfl : o = o' := Option.some.inj (ho.symm.trans ho')
      exact h3
  refine region_inv hm hE (fun L a W =>
    HeadI l n D C σ Ws a0 L a W ∨
    (∃ c, n < c ∧ (∀ i, i < c → L i = true) ∧ (∀ i, c ≤ i → L i = false) ∧ wpList P l.toArray Q (l.drop c) a W)) ?_ ?_ ?_
  · exact Or.inl ⟨(fun _ _ => rfl), (fun _ _ _ h => by cases h), Near.refl _ _, (fun _ _ _ _ h => by cases h), 0, Nat.zero_le _, hW0.symm, (fun _ h => by omega), (fun _ _ _ => rfl)⟩
  · intro i o ho L a W hI hLi hdep
    have ho' : l[i]? = some o := by simpa using ho
    have hil : i < l.length := (List.getElem?_eq_some_iff.1 ho').1
    have hclo : (∀ j o, l[j]? = some o → L j = true → ∀ e ∈ o.after, Region.binds .any e = true → L e.on = true) → ∀ j o, l[j]? = some o → also L i j = true → ∀ e ∈ o.after, Region.binds .any e = true → also L i e.on = true := by
      intro hcl j o' hj hLj e he hb
      by_cases hji : j = i
      · subst hji
        obtain rfl : o = o' := Option.some.inj (ho'.symm.trans hj)
        exact also_old (hdep e he hb)
      · rw [also_ne _ hji] at hLj
        exact also_old (hcl j o' hj hLj e he hb)
    have hall : (∀ j o, l[j]? = some o → L j = true → ∀ e ∈ o.after, Region.binds .any e = true → L e.on = true) → i = n → ∀ j, j < i → L j = true := by
      intro hcl hin
      have key : ∀ d j, j < n → n - j ≤ d → L j = true := by
        intro d
        induction d with
        | zero => intro j hj hd; omega
        | succ d ih =>
          intro j hj hd
          obtain ⟨k, hjk, hkn, hw⟩ := hsink (by omega) j hj
          obtain ⟨o', ho2, e, he, hb, hon⟩ := waits_spec hw
          by_cases hk : k = n
          · obtain rfl : o = o' := Option.some.inj (ho'.symm.trans (by rw [hin, ← hk]; exact ho2))
            rw [← hon]
            exact hdep e he hb
          · rw [← hon]
            exact hcl k o' ho2 (ih k (by omega) (by omega)) e he hb
      intro j hj
      exact key n j (by omega) (by omega)
    have hprev : n < i → L (i - 1) = true := fun hni => by
      obtain ⟨e, he, hb, hon⟩ := hwait i o hni ho'
      rw [← hon]
      exact hdep e he hb
    have tailstep : ∀ (c : Nat) (X : (Nat → Bool) → Act → World → Prop), c = i → (∀ j, j < c → L j = true) → (∀ j, c ≤ j → L j = false) → n ≤ c → wpList P l.toArray Q (l.drop c) a W →
        if Region.wanted o (yielded l.toArray a.tmps) = true then o.wp P a W (fun a' W' => X (also L i) a' W' ∨
          (∃ c, n < c ∧ (∀ j, j < c → also L i j = true) ∧ (∀ j, c ≤ j → also L i j = false) ∧ wpList P l.toArray Q (l.drop c) a' W')) Q ∨ (o.asks P a W ∧ LetsOut Q)
        else X (also L i) (a.put o.dst undef) W ∨
          (∃ c, n < c ∧ (∀ j, j < c → also L i j = true) ∧ (∀ j, c ≤ j → also L i j = false) ∧ wpList P l.toArray Q (l.drop c) (a.put o.dst undef) W) := by
      intro c X hc hlt hge hnc hw
      subst hc
      rw [List.drop_eq_getElem_cons hil, (List.getElem?_eq_some_iff.1 ho').2] at hw
      have hx : ∀ a' W', wpList P l.toArray Q (l.drop (c + 1)) a' W' → ∃ c', n < c' ∧ (∀ j, j < c' → also L c j = true) ∧ (∀ j, c' ≤ j → also L c j = false) ∧ wpList P l.toArray Q (l.drop c') a' W' := fun a' W' h =>
        ⟨c + 1, by omega, fun j hj => by
          by_cases e : j = c
          · subst e; exact also_self _ _
          · exact also_old (hlt j (by omega)), fun j hj => by rw [also_ne _ (by omega)]; exact hge j (by omega), h⟩
      unfold wpList at hw
      split
      · rename_i hwn
        rw [if_pos hwn] at hw
        exact hw.imp (Oper.wp_mono fun a' W' h => Or.inr (hx a' W' h)) (fun h => h)
      · rename_i hwn
        rw [if_neg hwn] at hw
        exact Or.inr (hx _ _ hw)
    rcases hI with ⟨ht, hcl, hN, hv, m, hmC, hW, hm1, hm2⟩ | ⟨c, hnc, hlt, hge, hw⟩
    · by_cases hin : i < n
      · obtain ⟨o2, ho2, hg, hd⟩ := hhd i hin
        obtain rfl : o = o2 := Option.some.inj (ho'.symm.trans ho2)
        have hτ : ∀ e ∈ o.after, Region.binds .any e = true → ∀ d', dstAt l e.on = some d' → got a d' = σ d' := by
          intro e he hb d' hd'
          have hon : e.on < i := by
            have h1 := List.all_eq_true.mp hE i (List.mem_range.mpr (by simpa using hil))
            rw [ho] at h1
            simp only [Option.map_some, Option.getD_some] at h1
            rw [Array.all_eq_true'] at h1
            have := h1 e he
            simpa [hb] using this
          exact hv e.on (by omega) d' hd' (hdep e he hb)
        have hae := hN.eq
        have hfin : (∀ t, n ≤ t → also L i t = false) ∧ (∀ j o, l[j]? = some o → also L i j = true → ∀ e ∈ o.after, Region.binds .any e = true → also L i e.on = true) ∧ Near a0 D (a.put o.dst (left1 σ o)) ∧ (∀ j, j < n → ∀ d, dstAt l j = some d → also L i j = true → got (a.put o.dst (left1 σ o)) d = σ d) := by
          refine ⟨fun t htn => by rw [also_ne _ (by omega)]; exact ht t htn, hclo hcl, hN.put _ (fun k hk => ?_) _, fun j hj d' hd' hLj => ?_⟩
          · rcases hd with ⟨h1, _⟩ | ⟨d, h1, h2⟩
            · rw [h1] at hk; cases hk
            · rw [h1] at hk; cases hk; exact h2
          · rcases hd with ⟨h1, _⟩ | ⟨d, h1, h2⟩
            · rw [h1]
              have hji : j ≠ i := fun e => by
                subst e
                simp only [dstAt, ho', Option.bind_some, h1] at hd'
                cases hd'
              rw [also_ne _ hji] at hLj
              exact hv j hj d' hd' hLj
            · unfold left1
              rw [h1]
              by_cases hdd : d' = d
              · subst hdd
                exact got_same _ _ _ (by rw [hN.size]; exact (hDl d' h2).1)
              · rw [got_ne _ _ _ _ hdd]
                refine hv j hj d' hd' ?_
                by_cases hji : j = i
                · subst hji
                  exfalso
                  simp only [dstAt, ho', Option.bind_some] at hd'
                  exact hdd (Option.some.inj (hd'.symm.trans h1))
                · rwa [also_ne _ hji] at hLj
        refine if_wanted hg (Or.inl ?_)
        by_cases hiC : i ∈ C
        · obtain ⟨k, hk, hki⟩ := hCget i hiC
          have hkm : k = m := by
            by_cases h1 : k < m
            · have := hm1 k h1
              rw [hki, hLi] at this
              cases this
            · by_cases h2 : m < k
              · obtain ⟨e, he, hb, hon⟩ := hCw' k o hk (by omega) (by rw [hki]; exact ho')
                have h3 := hdep e he hb
                rw [hon, hm2 (k - 1) (by omega) (by omega)] at h3
                cases h3
              · omega
          subst hkm
          have := hchg k o hk (by rw [hki]; exact ho') (got a) (hR k (by omega)) hτ (fun a' W' => HeadI l n D C σ Ws a0 (also L i) a' W' ∨
            (∃ c, n < c ∧ (∀ i_1, i_1 < c → also L i i_1 = true) ∧ (∀ i_1, c ≤ i_1 → also L i i_1 = false) ∧ wpList P l.toArray Q (l.drop c) a' W')) (by
              rw [← hae]
              refine Or.inl ⟨hfin.1, hfin.2.1, hfin.2.2.1, hfin.2.2.2, k + 1, hk, rfl, fun j hj => ?_, fun j hj hjl => ?_⟩
              · by_cases e : j = k
                · subst e; rw [hki]; exact also_self _ _
                · exact also_old (hm1 j (by omega))
              · rw [also_ne _ (fun e => by have := hCinj j k hjl hk (e.trans hki.symm); omega)]
                exact hm2 j (by omega) hjl)
          rw [← hae, ← hW] at this
          exact this
        · have := hhead i o hin hiC ho' (got a) W (by rw [hW]; exact hR m hmC) hτ (fun a' W' => HeadI l n D C σ Ws a0 (also L i) a' W' ∨
            (∃ c, n < c ∧ (∀ i_1, i_1 < c → also L i i_1 = true) ∧ (∀ i_1, c ≤ i_1 → also L i i_1 = false) ∧ wpList P l.toArray Q (l.drop c) a' W')) (by
              rw [← hae]
              refine Or.inl ⟨hfin.1, hfin.2.1, hfin.2.2.1, hfin.2.2.2, m, hmC, hW, fun j hj => also_old (hm1 j hj), fun j hj hjl => ?_⟩
              rw [also_ne _ (fun e => hiC (by rw [← e]; exact hCmem j hjl))]
              exact hm2 j hj hjl)
          rw [← hae] at this
          exact this
      · have hi : i = n := by
          by_cases hgt : n < i
          · have := hprev hgt
            rw [ht (i - 1) (by omega)] at this
            cases this
          · omega
        have hall' := hall hcl hi
        refine tailstep n (HeadI l n D C σ Ws a0) hi.symm (fun j hj => hall' j (by omega)) ht (Nat.le_refl _) ?_
        have hmm : m = C.length := by
          by_cases h : m < C.length
          · have h1 := hm2 m (Nat.le_refl _) h
            have h2 := List.all_eq_true.mp hCn _ (hCmem m h)
            rw [hall' _ (by simp only [decide_eq_true_eq] at h2; omega)] at h1
            cases h1
          · omega
        rw [hW, hmm, hN.eq, putAll_congr a0 D (fun d hd => ?_)]
        · exact htail
        · obtain ⟨_, j, hj, hdj⟩ := hDl d hd
          exact hv j hj d hdj (hall' j (by omega))
    · have hci : c = i := by
        by_cases hlt' : i < c
        · rw [hlt i hlt'] at hLi; cases hLi
        · by_cases hgt : c < i
          · have := hprev (by omega)
            rw [hge (i - 1) (by omega)] at this
            cases this
          · omega
      exact tailstep c (HeadI l n D C σ Ws a0) hci hlt hge (by omega) hw
  · intro L a W hL hI
    rcases hI with ⟨ht, hcl, hN, hv, m, hmC, hW, hm1, hm2⟩ | ⟨c, hnc, hlt, hge, hw⟩
    · have hnl : n = l.length := by
        by_cases h : n < l.length
        · have := hL n (by simpa using h)
          rw [ht n (Nat.le_refl _)] at this
          cases this
        · omega
      have hmm : m = C.length := by
        by_cases h : m < C.length
        · have h1 := hm2 m (Nat.le_refl _) h
          have h2 := List.all_eq_true.mp hCn _ (hCmem m h)
          rw [hL _ (by simp only [decide_eq_true_eq] at h2; rw [List.size_toArray]; omega)] at h1
          cases h1
        · omega
      rw [List.drop_eq_nil_of_le (by omega)] at htail
      rw [hW, hmm, hN.eq, putAll_congr a0 D (fun d hd => ?_)]
      · exact htail
      · obtain ⟨_, j, hj, hdj⟩ := hDl d hd
        exact hv j hj d hdj (hL j (by simp; omega))
    · have : l.length ≤ c := by
        by_cases h : c < l.length
        · have := hL c (by simpa using h)
          rw [hge c (Nat.le_refl _)] at this
          cases this
        · omega
      rw [List.drop_eq_nil_of_le this] at hw
      exact hw
end
end Go.Proofs.YtpkiiegadckloaaDoor
