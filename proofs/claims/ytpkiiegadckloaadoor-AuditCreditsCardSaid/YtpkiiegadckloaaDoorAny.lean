/- An append of texts, whatever their number. -/
import Derived.Test.YtpkiiegadckloaaDoorInn
import Derived.Test.YtpkiiegadckloaaDoorLin
set_option linter.unusedSimpArgs false
set_option linter.unusedVariables false
namespace Go.Proofs.YtpkiiegadckloaaDoor
open Go.RowKit

theorem SRow.le {w : World} {base : Nat} {A : Option Addr} {n c : Nat} {l : List ByteArray} (h : SRow w base (.slice A n c) l) : n = l.length ∧ l.length ≤ c := by
  rcases h.2 with ⟨h1, h0⟩ | ⟨g, cap, cur, h1, _, _, h2, _⟩
  · cases h1; omega
  · cases h1; exact ⟨rfl, h2⟩
theorem SRow.nil (w : World) (base : Nat) : SRow w base (.slice none 0 0) [] := ⟨rfl, Or.inl ⟨rfl, rfl⟩⟩
theorem SRow.bare {w : World} {base b : Nat} (h : w.heap[b]? = some (.cells #[] 9 (0, 0))) (hb : base ≤ b) : SRow w base (.slice (some ⟨b, 0, none⟩) 0 0) [] :=
  ⟨rfl, Or.inr ⟨b, 0, #[], rfl, hb, h, by decide, by decide, rfl, rfl⟩⟩

theorem wp_app_strs {o : Oper} {a : Act} {K : Act → World → Prop} {Q : Exit → Act → World → Prop} (w : World) (s x : Operand) (ho : o.op = .call { callee := .builtin .append, args := #[s, x], argTypes := #[26, 26] })
    (base : Nat) (v0 : Value) (xs ms : List ByteArray) (hs : a.eval s = v0) (hr : SRow w base v0 xs) (A : Option Addr) (m c : Nat) (hm : m = ms.length) (hx : a.eval x = .slice A m c)
    (hA : A = none → m = 0) (hc : ∀ ad, A = some ad → 0 < m → ∀ j t, ms[j]? = some t → w.cell? (ad.add j) = some (.string t)) (hl : xs.length + ms.length ≤ 100000) (hb : base ≤ w.heap.size)
    (hK : ∀ A' n' c' w', SRow w' base (.slice A' n' c') (xs ++ ms) → w.grownBy w' v0.ownBlock → (v0.ownBlock = (Value.slice A' n' c').ownBlock ∨ (Value.slice A' n' c').ownBlock = some w.heap.size) → K (a.put o.dst (.slice A' n' c')) w') : o.wp Tryd.prog a w K Q := by
  obtain ⟨i0, hi0, hz0, hz1, hz2⟩ := info_parts info9
  obtain ⟨A0, c0, rfl⟩ := SRow.slice hr
  by_cases h0 : m = 0
  · subst h0
    have hms : ms = [] := List.eq_nil_of_length_eq_zero hm.symm
    subst hms
    have hle := (SRow.le hr).2
    have hsrc : Src Tryd.prog i0.size 26 (.slice A 0 c) 0 [] w := by
      cases A with
      | none => exact Src.ofNil w Tryd.underlying26 c
      | some ad => exact Src.ofSlice w Tryd.underlying26 ad 0 c [] (by simp) (fun j u h => by simp at h) (fun u h => by simp at h)
    have hrun := run_append_nothing (P := Tryd.prog) w 26 26 o.type 9 i0 Tryd.underlying26 hi0 A0 xs.length c0 hle _ hsrc
    unfold Oper.wp execOp
    simp only [ho, resolve, invoke, builtin, Sem.run_bind, Sem.run_pure, Result.andThen_ok, List.map_toArray, List.map_cons, List.map_nil, hs, hx, hrun]
    exact hK A0 xs.length c0 w (by rw [List.append_nil]; exact hr) (World.grownBy.refl _ _) (Or.inl rfl)
  · cases A with
    | none => exact absurd (hA rfl) h0
    | some ad =>
      refine wp_append_lies w s x 26 ho base 9 i0 _ 1 16 Tryd.underlying26 hi0 hz0 hz1 hz2 rfl (by omega) _ xs.length (xs.map es) hs hr ad m c (ms.map es) hx (by simp [hm]) (fun j u hu => ?_) (fun u hu => ?_) (by omega) (by unfold maxLen; omega) (by omega) hb _ rfl ?_
      · rw [List.getElem?_map] at hu
        obtain ⟨t, ht, rfl⟩ := Option.map_eq_some_iff.1 hu
        exact hc ad rfl (by omega) j t ht
      · obtain ⟨t, _, rfl⟩ := List.mem_map.1 hu
        rfl
      · intro g cap w' h1 h2 h3 h4
        refine hK _ _ _ w' ?_ h2 (h3.imp id (fun h => by rw [h]; rfl))
        unfold SRow
        rw [List.map_append, List.length_append, ← hm]
        exact h1
end Go.Proofs.YtpkiiegadckloaaDoor
