/- The reference's numerals below 100. -/
import Derived.Test.YtpkiiegadckloaaDoorIto
import Derived.Test.YtpkiiegadckloaaDoorMov
import Derived.Laws.IdiomStrings
set_option linter.unusedSimpArgs false
set_option linter.unusedVariables false
namespace Go.Proofs.YtpkiiegadckloaaDoor
open Go.RowKit

theorem conv1 (w : World) (b : Nat) (n : Int) (d : Nat) (hd : d < 10) (hn : n = 48 + (d : Int)) (hb : w.heap[b]? = some (.cells #[.int .u8 n] 5 (0, 0))) :
    (convert 103 9 (.slice (some ⟨b, 0, none⟩) 1 1)).run Tryd.prog w = .ok (.string ⟨#[UInt8.ofNat (48 + d)]⟩) w := by
  have := run_convert_bytes_back (P := Tryd.prog) w 103 9 5 ⟨b, 0, none⟩ 1 [UInt8.ofNat (48 + d)] Tryd.underlying103 Tryd.underlying5 Tryd.underlying9 (fun j hj => by
    have hj : j = 0 := by simpa using hj
    subst hj
    rw [Addr.add_mid, Nat.zero_add, cell_of_row w b 0 _ _ _ hb, hn]
    simp
    omega)
  simpa using this

set_option maxRecDepth 100000 in
theorem dig1 (i : Nat) (hi : i ≤ 9) (w : World) : Calls Tryd.prog 27 #[.int .i64 i] w fun x w' => x = .returned (.string ⟨(Lib.decDigits i).toArray⟩) ∧ Below w.heap.size w w' := by
  have h1 : ¬ 9 < (i : Int) := by omega
  have hd : Lib.decDigits i = [UInt8.ofNat (48 + i)] := by unfold Lib.decDigits; rw [dif_pos (by omega)]
  have hcv := conv1 (w.alloc (.cells #[.int .u8 (48 + (i : Int) % 10)] 5)) w.heap.size (48 + (i : Int) % 10) i (by omega) (by omega) (heap_alloc_new _ _)
  rw [hd]
  clear hd
  obtain ⟨x, hx⟩ : ∃ x, UInt8.ofNat (48 + i) = x := ⟨_, rfl⟩
  rw [hx] at hcv ⊢
  clear hx
  go_enter Tryd.func27, Tryd.ntmps27
  go_wp2
  refine wp_loop_rounds 1 ?_
  rw [rounds_succ]
  go_wp2
  go_returns
  exact ⟨rfl, below_new _ _⟩

set_option maxRecDepth 100000 in
theorem dig2 (i : Nat) (hi : 10 ≤ i) (hi2 : i < 100) (w : World) : Calls Tryd.prog 27 #[.int .i64 i] w fun x w' => x = .returned (.string ⟨(Lib.decDigits i).toArray⟩) ∧ Below w.heap.size w w' := by
  have h1 : 9 < (i : Int) := by omega
  have h2 : ¬ 9 < (i : Int) / 10 := by omega
  have hd : Lib.decDigits i = [UInt8.ofNat (48 + i / 10), UInt8.ofNat (48 + i % 10)] := by
    unfold Lib.decDigits
    rw [dif_neg (by omega)]
    unfold Lib.decDigits
    rw [dif_pos (by omega)]
    rfl
  obtain ⟨w1, hw1⟩ : ∃ w1, w1 = w.alloc (.cells #[.int .u8 (48 + (i : Int) % 10)] 5) := ⟨_, rfl⟩
  have hcv := conv1 w1 w.heap.size (48 + (i : Int) % 10) (i % 10) (by omega) (by omega) (hw1 ▸ heap_alloc_new _ _)
  have hcv2 := conv1 (w1.alloc (.cells #[.int .u8 (48 + (i : Int) / 10 % 10)] 5)) w1.heap.size (48 + (i : Int) / 10 % 10) (i / 10) (by omega) (by omega) (heap_alloc_new _ _)
  rw [hd]
  clear hd
  obtain ⟨x, hx⟩ : ∃ x, UInt8.ofNat (48 + i % 10) = x := ⟨_, rfl⟩
  obtain ⟨y, hy⟩ : ∃ y, UInt8.ofNat (48 + i / 10) = y := ⟨_, rfl⟩
  rw [hx] at hcv ⊢
  rw [hy] at hcv2 ⊢
  have hq : (i : Int).tdiv 10 = (i : Int) / 10 := Int.tdiv_eq_ediv_of_nonneg (by omega)
  have HW := Lib.hid hw1
  have HC2 := Lib.hid hcv2
  rw [hw1] at hcv
  clear hx hy hw1 hcv2
  go_enter Tryd.func27, Tryd.ntmps27
  go_wp2_with fail
  refine wp_loop_rounds 2 ?_
  rw [rounds_succ]
  rw [← HW.out]
  clear hcv
  have hcv2 := HC2.out
  go_wp2
  rw [rounds_succ]
  go_wp2
  go_returns
  have hb1 : Below w.heap.size w w1 := HW.out ▸ below_new w _
  refine ⟨?_, bel2 hb1 (below_new _ _)⟩
  show Ending.returned (.string (⟨#[y]⟩ ++ ⟨#[x]⟩)) = _
  rfl

/-- The reference's numerals below 100 are strconv's. -/
theorem Digits_any (i : Nat) (hi : i < 100) (w : World) : Calls Tryd.prog 27 #[.int .i64 i] w fun x w' => x = .returned (.string ⟨(Lib.decDigits i).toArray⟩) ∧ Below w.heap.size w w' := by
  by_cases h : i ≤ 9
  · exact dig1 i h w
  · exact dig2 i (by omega) hi w
end Go.Proofs.YtpkiiegadckloaaDoor
