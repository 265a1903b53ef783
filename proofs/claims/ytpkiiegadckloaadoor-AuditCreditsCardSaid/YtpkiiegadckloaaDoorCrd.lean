/- What the two functions Credits tell: plain law. -/
import Derived.Test.YtpkiiegadckloaaDoorPut
set_option linter.unusedSimpArgs false
set_option linter.unusedVariables false
namespace Go.Proofs.YtpkiiegadckloaaDoor
open Go.RowKit

theorem wpList_app1 {ops : Array Oper} {rest : List Oper} {o : Oper} {a : Act} {Q : Exit → Act → World → Prop} (w : World) (hgd : o.guard = none) (s x : Operand) (ho : o.op = .call { callee := .builtin .append, args := #[s, x], argTypes := #[26, 26] })
    (base : Nat) (v0 : Value) (xs : List ByteArray) (t : ByteArray) (hs : a.eval s = v0) (hr : SRow w base v0 xs) (b : Nat) (hx : a.eval x = .slice (some ⟨b, 0, none⟩) 1 1) (hbk : w.heap[b]? = some (.cells #[.string t] 9 (0, 0)))
    (hl : xs.length ≤ 10000) (hb : base ≤ w.heap.size)
    (hK : ∀ A' n' c' w', SRow w' base (.slice A' n' c') (xs ++ [t]) → Below base w w' → wpList Tryd.prog ops Q rest (a.put o.dst (.slice A' n' c')) w') : wpList Tryd.prog ops Q (o :: rest) a w :=
  wpList_plain hgd fun _ hK' => wp_app_strs w s x ho base v0 xs [t] hs hr (some ⟨b, 0, none⟩) 1 1 rfl hx (fun h => by cases h) (fun ad h1 _ j u hu => by
    cases h1
    rw [Addr.add_lit, Nat.zero_add, cell_of_row _ _ j _ _ _ hbk]
    rcases j with _ | j
    · simpa using hu
    · simp at hu) (by simp; omega) hb fun A' n' c' w' h1 h2 _ => hK' _ _ (hK A' n' c' w' h1 ((Chg.of_grown (S := fun k => v0.ownBlock = some k) h2 (fun k hk => hk)).below hb (fun k hk => (hr.lt k hk).1)))

abbrev sTw : ByteArray := ⟨#[32, 116, 119, 105, 99, 101]⟩
abbrev sBo : ByteArray := ⟨#[32, 98, 111, 116, 104]⟩
abbrev wTw : ByteArray := ⟨#[116, 119, 105, 99, 101]⟩
abbrev wBo : ByteArray := ⟨#[98, 111, 116, 104]⟩
def cntC (ps : List Pst) (id : ByteArray) : Nat := ps.countP fun p => decide (p.text = sTake ++ id)
theorem cntC_take (ps : List Pst) (id : ByteArray) (k : Nat) (p : Pst) (h : ps[k]? = some p) : cntC (ps.take (k + 1)) id = cntC (ps.take k) id + if p.text = sTake ++ id then 1 else 0 := by
  unfold cntC
  rw [List.take_add_one, List.countP_append, h]
  by_cases h2 : p.text = sTake ++ id
  · simp [h2]
  · simp [h2]
theorem cntC_le (ps : List Pst) (id : ByteArray) : cntC ps id ≤ ps.length := List.countP_le_length
def idsN (a b : Nat) : List ByteArray := (if 0 < a then [sD1] else []) ++ (if 0 < b then [sD2] else [])
def idsC (ps : List Pst) : List ByteArray := idsN (cntC ps sD1) (cntC ps sD2)
theorem idsN_len (a b : Nat) : (idsN a b).length ≤ 2 := by
  unfold idsN
  split <;> split <;> simp
theorem idsN_mem {a b : Nat} {id : ByteArray} (h : id ∈ idsN a b) : id = sD1 ∨ id = sD2 := by
  unfold idsN at h
  rcases List.mem_append.1 h with h | h
  · split at h
    · simp at h; exact Or.inl h
    · cases h
  · split at h
    · simp at h; exact Or.inr h
    · cases h
theorem less12 : Op.bytesLess sD1.toList sD2.toList = true := by rw [Lib.toList_data, Lib.toList_data]; decide
theorem less21 : Op.bytesLess sD2.toList sD1.toList = false := by rw [Lib.toList_data, Lib.toList_data]; decide
theorem less11 : Op.bytesLess sD1.toList sD1.toList = false := by rw [Lib.toList_data]; decide
theorem ne12 : sD1 ≠ sD2 := by decide
/-- Put among the few. -/
theorem put1 (a b k : Nat) (h : ¬ sD1 ∈ idsN a b) (hk : k ≤ (idsN a b).length) (h1 : ∀ j t, j < k → (idsN a b)[j]? = some t → Op.bytesLess t.toList sD1.toList = true) :
    (idsN a b).take k ++ [sD1] ++ (idsN a b).drop k = idsN (a + 1) b := by
  by_cases ha : 0 < a
  · exact absurd (by unfold idsN; rw [if_pos ha]; simp) h
  · unfold idsN at hk h1 ⊢
    rw [if_neg ha] at hk h1 ⊢
    rw [if_pos (show 0 < a + 1 by omega)]
    by_cases hb : 0 < b
    · rw [if_pos hb] at hk h1 ⊢
      rcases k with _ | k
      · simp
      · have := h1 0 sD2 (by omega) rfl
        rw [less21] at this
        cases this
    · rw [if_neg hb] at hk h1 ⊢
      simp at hk
      subst hk
      simp
theorem put2 (a b k : Nat) (h : ¬ sD2 ∈ idsN a b) (hk : k ≤ (idsN a b).length) (h2 : ∀ t, (idsN a b)[k]? = some t → Op.bytesLess t.toList sD2.toList = false) :
    (idsN a b).take k ++ [sD2] ++ (idsN a b).drop k = idsN a (b + 1) := by
  by_cases hb : 0 < b
  · exact absurd (by unfold idsN; rw [if_pos hb]; simp) h
  · unfold idsN at hk h2 ⊢
    rw [if_neg hb] at hk h2 ⊢
    rw [if_pos (show 0 < b + 1 by omega)]
    by_cases ha : 0 < a
    · rw [if_pos ha] at hk h2 ⊢
      rcases k with _ | k
      · have := h2 sD1 rfl
        rw [less12] at this
        cases this
      · have : k = 0 := by simp at hk; omega
        subst this
        simp
    · rw [if_neg ha] at hk h2 ⊢
      simp at hk
      subst hk
      simp
theorem idsN1 {a b : Nat} (h : sD1 ∈ idsN a b) : idsN (a + 1) b = idsN a b := by
  have : 0 < a := by
    unfold idsN at h
    rcases List.mem_append.1 h with h | h
    · split at h
      · assumption
      · cases h
    · split at h
      · simp at h
      · cases h
  unfold idsN
  rw [if_pos this, if_pos (by omega)]
theorem idsN2 {a b : Nat} (h : sD2 ∈ idsN a b) : idsN a (b + 1) = idsN a b := by
  have : 0 < b := by
    unfold idsN at h
    rcases List.mem_append.1 h with h | h
    · split at h
      · simp at h
      · cases h
    · split at h
      · assumption
      · cases h
  unfold idsN
  rw [if_pos this, if_pos (show 0 < b + 1 by omega)]

def lnT (nm id : ByteArray) : ByteArray := nm ++ sSp ++ id ++ sTw
def lnB (nm id : ByteArray) : ByteArray := nm ++ sSp ++ id ++ sBo
def crT (nm : ByteArray) (ps : List Pst) (id : ByteArray) : List ByteArray := if 1 < cntC ps id then [lnT nm id] else []
open Classical in
noncomputable def crB (nm : ByteArray) (H : List ByteArray) (id : ByteArray) : List ByteArray := if id ∈ H then [lnB nm id] else []
noncomputable def crL (nm : ByteArray) (ps : List Pst) (H l : List ByteArray) : List ByteArray := l.flatMap fun id => crT nm ps id ++ crB nm H id
theorem crL_take (nm : ByteArray) (ps : List Pst) (H l : List ByteArray) (k : Nat) (id : ByteArray) (h : l[k]? = some id) : crL nm ps H (l.take (k + 1)) = crL nm ps H (l.take k) ++ crT nm ps id ++ crB nm H id := by
  unfold crL
  rw [List.take_add_one, List.flatMap_append, h]
  simp
theorem crL_len (nm : ByteArray) (ps : List Pst) (H l : List ByteArray) : (crL nm ps H l).length ≤ 2 * l.length := by
  induction l with
  | nil => simp [crL]
  | cons a r ih =>
    have : crL nm ps H (a :: r) = crT nm ps a ++ crB nm H a ++ crL nm ps H r := by simp [crL]
    rw [this]
    have h1 : (crT nm ps a).length ≤ 1 := by unfold crT; split <;> simp
    have h2 : (crB nm H a).length ≤ 1 := by unfold crB; split <;> simp
    simp only [List.length_append, List.length_cons]
    omega
/-- The holds of one name, told one by one. -/
def hitB (nm id : ByteArray) (H : List ByteArray) : List ByteArray := H.flatMap fun h => if h = id then [lnB nm id] else []
theorem hitB_take (nm id : ByteArray) (H : List ByteArray) (k : Nat) (h : ByteArray) (hh : H[k]? = some h) : hitB nm id (H.take (k + 1)) = hitB nm id (H.take k) ++ if h = id then [lnB nm id] else [] := by
  unfold hitB
  rw [List.take_add_one, List.flatMap_append, hh]
  simp
theorem hitB_len (nm id : ByteArray) (H : List ByteArray) : (hitB nm id H).length ≤ H.length := by
  induction H with
  | nil => simp [hitB]
  | cons a r ih =>
    have e : hitB nm id (a :: r) = (if a = id then [lnB nm id] else []) ++ hitB nm id r := by simp [hitB]
    rw [e, List.length_append, List.length_cons]
    split <;> simp <;> omega
theorem hitB_no (nm id : ByteArray) : ∀ (H : List ByteArray), ¬ id ∈ H → hitB nm id H = []
  | [], _ => rfl
  | a :: r, h => by
    have h1 : id ≠ a ∧ ¬ id ∈ r := by simpa using h
    have : hitB nm id (a :: r) = (if a = id then [lnB nm id] else []) ++ hitB nm id r := by simp [hitB]
    rw [this, if_neg (fun e => h1.1 e.symm), hitB_no nm id r h1.2]
    rfl
theorem hitB_eq (nm id : ByteArray) : ∀ (H : List ByteArray), H.Nodup → hitB nm id H = crB nm H id
  | [], _ => by unfold crB hitB; simp
  | a :: r, hn => by
    have hn' := List.nodup_cons.1 hn
    have e : hitB nm id (a :: r) = (if a = id then [lnB nm id] else []) ++ hitB nm id r := by simp [hitB]
    rw [e]
    by_cases h : a = id
    · subst h
      rw [if_pos rfl, hitB_no nm a r hn'.1]
      unfold crB
      rw [if_pos (List.mem_cons_self ..)]
      rfl
    · rw [if_neg h, hitB_eq nm id r hn'.2]
      unfold crB
      have : id ∈ a :: r ↔ id ∈ r := by
        rw [List.mem_cons]
        exact ⟨fun h' => h'.resolve_left (fun e => h e.symm), Or.inr⟩
      by_cases hm : id ∈ r
      · rw [if_pos hm, if_pos (this.2 hm)]; rfl
      · rw [if_neg hm, if_neg (fun h' => hm (this.1 h'))]; rfl
theorem crB_perm (nm id : ByteArray) {H H' : List ByteArray} (h : H.Perm H') : crB nm H id = crB nm H' id := by
  unfold crB
  by_cases hm : id ∈ H
  · rw [if_pos hm, if_pos (h.mem_iff.1 hm)]
  · rw [if_neg hm, if_neg (fun h' => hm (h.mem_iff.2 h'))]
theorem crL_perm (nm : ByteArray) (ps : List Pst) {H H' : List ByteArray} (h : H.Perm H') (l : List ByteArray) : crL nm ps H l = crL nm ps H' l := by
  unfold crL
  congr 1
  funext id
  rw [crB_perm nm id h]
/-- The words of a line. -/
theorem joinT (nm id : ByteArray) : joinW [nm, id, wTw] = lnT nm id := by
  unfold joinW lnT
  apply ByteArray.ext
  apply Array.ext'
  simp [Lib.join, ByteArray.data_append]
theorem joinB (nm id : ByteArray) : joinW [nm, id, wBo] = lnB nm id := by
  unfold joinW lnB
  apply ByteArray.ext
  apply Array.ext'
  simp [Lib.join, ByteArray.data_append]
/-- A text of a take. -/
theorem text_cases {ps : List Pst} (h : PsOK ps) {p : Pst} (hp : p ∈ ps) : p.text = sTake ++ sD1 ∨ p.text = sTake ++ sD2 ∨ p.text = sTake ++ sOther ∨ p.text = sTake ++ sCredit := by
  obtain ⟨⟨id, hu, ht⟩, -⟩ := h p hp
  rcases hu with rfl | rfl | rfl | rfl
  · exact Or.inl ht
  · exact Or.inr (Or.inl ht)
  · exact Or.inr (Or.inr (Or.inl ht))
  · exact Or.inr (Or.inr (Or.inr ht))
end Go.Proofs.YtpkiiegadckloaaDoor
