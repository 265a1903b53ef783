/- The three maps of Credits: plain law. -/
import Derived.Test.YtpkiiegadckloaaDoorCrd
set_option linter.unusedSimpArgs false
set_option linter.unusedVariables false
namespace Go.Proofs.YtpkiiegadckloaaDoor
open Go.RowKit

def D12 (id : ByteArray) : Prop := id = sD1 ∨ id = sD2
instance (id : ByteArray) : Decidable (D12 id) := by unfold D12; infer_instance
abbrev sCr : ByteArray := ⟨#[99, 114, 101, 100, 105, 116, 58]⟩
theorem fnd_look {l : List (ByteArray × Value)} {a : ByteArray} {z : Value} : look l a z = (fnd l a).getD z := rfl
theorem take_inj {id j : ByteArray} (hu : U id) (hj : D12 j) : sTake ++ id = sTake ++ j ↔ id = j := by
  rcases hu with rfl | rfl | rfl | rfl <;> rcases hj with rfl | rfl <;> decide
def TkOK (lt : List (ByteArray × Value)) (ps : List Pst) : Prop := ∀ id, fnd lt id = if D12 id ∧ 0 < cntC ps id then some (.int .i64 (cntC ps id)) else none
def IdOK (li : List (ByteArray × Value)) (ps : List Pst) : Prop := ∀ id, fnd li id = if D12 id ∧ 0 < cntC ps id then some (.bool true) else none
open Classical in
def HdOK (lh : List (ByteArray × Value)) (H : List ByteArray) : Prop := ∀ id, fnd lh id = if id ∈ H then some (.bool true) else none
theorem TkOK.nil : TkOK [] [] := fun id => by rw [if_neg (by simp [cntC])]; rfl
theorem IdOK.nil : IdOK [] [] := fun id => by rw [if_neg (by simp [cntC])]; rfl
theorem HdOK.nil : HdOK [] [] := fun id => by rw [if_neg (by simp)]; rfl
theorem TkOK.look {lt : List (ByteArray × Value)} {ps : List Pst} (h : TkOK lt ps) {id : ByteArray} (hd : D12 id) : look lt id (.int .i64 0) = .int .i64 (cntC ps id) := by
  rw [fnd_look, h id]
  by_cases h0 : 0 < cntC ps id
  · rw [if_pos ⟨hd, h0⟩]; rfl
  · rw [if_neg (fun e => h0 e.2), show cntC ps id = 0 by omega]; rfl
section
variable {ps : List Pst} {k : Nat} {p : Pst} {id : ByteArray}
theorem cnt_same (hp : ps[k]? = some p) (hu : U id) (ht : p.text = sTake ++ id) {j : ByteArray} (hj : D12 j) (hne : id ≠ j) : cntC (ps.take (k + 1)) j = cntC (ps.take k) j := by
  rw [cntC_take ps j k p hp, ht, if_neg (fun e => hne ((take_inj hu hj).1 e))]
  rfl
theorem cnt_more (hp : ps[k]? = some p) (ht : p.text = sTake ++ id) : cntC (ps.take (k + 1)) id = cntC (ps.take k) id + 1 := by
  rw [cntC_take ps id k p hp, ht, if_pos rfl]
theorem TkOK.put {lt : List (ByteArray × Value)} (h : TkOK lt (ps.take k)) (hp : ps[k]? = some p) (hu : U id) (hd : D12 id) (ht : p.text = sTake ++ id) : TkOK (put id (.int .i64 ((cntC (ps.take k) id : Nat) + 1)) lt) (ps.take (k + 1)) := by
  intro j
  rw [fnd_put]
  by_cases hj : j = id
  · rw [if_pos hj, hj, if_pos ⟨hd, by rw [cnt_more hp ht]; omega⟩, cnt_more hp ht]
    simp
  · rw [if_neg hj, h j]
    by_cases hj2 : D12 j
    · rw [cnt_same hp hu ht hj2 (fun e => hj e.symm)]
    · rw [if_neg (fun e => hj2 e.1), if_neg (fun e => hj2 e.1)]
theorem IdOK.put {lt : List (ByteArray × Value)} (h : IdOK lt (ps.take k)) (hp : ps[k]? = some p) (hu : U id) (hd : D12 id) (ht : p.text = sTake ++ id) : IdOK (put id (.bool true) lt) (ps.take (k + 1)) := by
  intro j
  rw [fnd_put]
  by_cases hj : j = id
  · rw [if_pos hj, hj, if_pos ⟨hd, by rw [cnt_more hp ht]; omega⟩]
  · rw [if_neg hj, h j]
    by_cases hj2 : D12 j
    · rw [cnt_same hp hu ht hj2 (fun e => hj e.symm)]
    · rw [if_neg (fun e => hj2 e.1), if_neg (fun e => hj2 e.1)]
theorem TkOK.skip {lt : List (ByteArray × Value)} (h : TkOK lt (ps.take k)) (hp : ps[k]? = some p) (hu : U id) (hd : ¬ D12 id) (ht : p.text = sTake ++ id) : TkOK lt (ps.take (k + 1)) := by
  intro j
  rw [h j]
  by_cases hj2 : D12 j
  · rw [cnt_same hp hu ht hj2 (fun e => hd (e ▸ hj2))]
  · rw [if_neg (fun e => hj2 e.1), if_neg (fun e => hj2 e.1)]
theorem IdOK.skip {lt : List (ByteArray × Value)} (h : IdOK lt (ps.take k)) (hp : ps[k]? = some p) (hu : U id) (hd : ¬ D12 id) (ht : p.text = sTake ++ id) : IdOK lt (ps.take (k + 1)) := by
  intro j
  rw [h j]
  by_cases hj2 : D12 j
  · rw [cnt_same hp hu ht hj2 (fun e => hd (e ▸ hj2))]
  · rw [if_neg (fun e => hj2 e.1), if_neg (fun e => hj2 e.1)]
end
theorem HdOK.put {lh : List (ByteArray × Value)} {H : List ByteArray} {k : Nat} {id : ByteArray} (h : HdOK lh (H.take k)) (hp : H[k]? = some id) : HdOK (put id (.bool true) lh) (H.take (k + 1)) := by
  intro j
  have hm : j ∈ H.take (k + 1) ↔ j ∈ H.take k ∨ j = id := by
    rw [List.take_add_one, hp]
    simp
  rw [fnd_put]
  by_cases hj : j = id
  · rw [if_pos hj, if_pos (hm.2 (Or.inr hj))]
  · rw [if_neg hj, h j]
    by_cases hj2 : j ∈ H.take k
    · rw [if_pos hj2, if_pos (hm.2 (Or.inl hj2))]
    · rw [if_neg hj2, if_neg (fun e => (hm.1 e).elim hj2 hj)]
theorem HdOK.yes {lh : List (ByteArray × Value)} {H : List ByteArray} {id : ByteArray} (h : HdOK lh H) (hm : id ∈ H) : look lh id (.bool false) = .bool true := by rw [fnd_look, h id, if_pos hm]; rfl
theorem HdOK.no {lh : List (ByteArray × Value)} {H : List ByteArray} {id : ByteArray} (h : HdOK lh H) (hm : ¬ id ∈ H) : look lh id (.bool false) = .bool false := by rw [fnd_look, h id, if_neg hm]; rfl

theorem idsN_nodup (a b : Nat) : (idsN a b).Nodup := by
  unfold idsN
  split <;> split <;> simp
theorem mem_idsN (a b : Nat) (id : ByteArray) : id ∈ idsN a b ↔ (id = sD1 ∧ 0 < a) ∨ (id = sD2 ∧ 0 < b) := by
  unfold idsN
  by_cases ha : 0 < a <;> by_cases hb : 0 < b <;> simp [ha, hb]
theorem IdOK.perm {li : List (ByteArray × Value)} {ps : List Pst} (h : IdOK li ps) (hn : (li.map (·.1)).Nodup) : (li.map (·.1)).Perm (idsC ps) := by
  refine (List.perm_ext_iff_of_nodup hn (idsN_nodup _ _)).2 (fun id => ?_)
  rw [mem_idsN]
  have h1 := h id
  constructor
  · intro hm
    by_cases hc : D12 id ∧ 0 < cntC ps id
    · rcases hc with ⟨rfl | rfl, hc⟩
      · exact Or.inl ⟨rfl, hc⟩
      · exact Or.inr ⟨rfl, hc⟩
    · rw [if_neg hc] at h1
      exact absurd hm (fnd_none.1 h1)
  · intro hm
    have hc : D12 id ∧ 0 < cntC ps id := by
      rcases hm with ⟨rfl, hc⟩ | ⟨rfl, hc⟩
      · exact ⟨Or.inl rfl, hc⟩
      · exact ⟨Or.inr rfl, hc⟩
    rw [if_pos hc] at h1
    exact List.mem_map.2 ⟨_, fnd_mem h1, rfl⟩
theorem risen_ids {ls : List ByteArray} {a b : Nat} (hp : ls.Perm (idsN a b)) (hr : Risen ls) : ls = idsN a b := by
  unfold idsN at hp ⊢
  by_cases ha : 0 < a <;> by_cases hb : 0 < b
  · rw [if_pos ha, if_pos hb] at hp ⊢
    have hlen := hp.length_eq
    match ls, hp, hr, hlen with
    | [x, y], hp, hr, _ =>
      have hx : x ∈ [sD1] ++ [sD2] := hp.mem_iff.1 (by simp)
      have hy : y ∈ [sD1] ++ [sD2] := hp.mem_iff.1 (by simp)
      have hnd : [x, y].Nodup := hp.nodup_iff.2 (by simp)
      simp at hx hy hnd
      rcases hx with rfl | rfl <;> rcases hy with rfl | rfl
      · exact absurd rfl hnd
      · rfl
      · exfalso
        unfold Risen at hr
        simp at hr
        revert hr
        decide
      · exact absurd rfl hnd
  · rw [if_pos ha, if_neg hb] at hp ⊢
    exact List.perm_singleton.1 hp
  · rw [if_neg ha, if_pos hb] at hp ⊢
    exact List.perm_singleton.1 hp
  · rw [if_neg ha, if_neg hb] at hp ⊢
    exact List.perm_nil.1 hp
/-- What the library says of a take's text. -/
theorem cut_take {id : ByteArray} (hu : U id) : (⟨(Lib.trimPrefix (sTake ++ id).data.toList sTake.data.toList).toArray⟩ : ByteArray) = id ∧ Lib.hasPrefix (sTake ++ id).data.toList sTake.data.toList = true := by
  rcases hu with rfl | rfl | rfl | rfl <;> decide
theorem pre_yes {id : ByteArray} (hd : D12 id) : Lib.hasPrefix id.data.toList sCr.data.toList = true := by
  rcases hd with rfl | rfl <;> decide
theorem pre_no {id : ByteArray} (hu : U id) (hd : ¬ D12 id) : Lib.hasPrefix id.data.toList sCr.data.toList = false := by
  rcases hu with rfl | rfl | rfl | rfl
  · exact absurd (Or.inl rfl) hd
  · exact absurd (Or.inr rfl) hd
  · decide
  · decide
end Go.Proofs.YtpkiiegadckloaaDoor
