/- The first error of five looks. -/
import Derived.Test.YtbhpghjdclehmaaMay
import Derived.Laws.EntriesVeiled
namespace Go.Proofs.Ytbhpghjdclehmaa
open Go.RowKit

def pick5 (b1 b2 b3 b4 b5 : Bool) : Int := if b1 then 1 else if b2 then 11 else if b3 then 9 else if b4 then 10 else if b5 then 3 else 0

/-- The five looks of May, as cells. -/
def looks (gc gl gd ga : Nat) : Array Value :=
  #[.int .i64 1, .func (.func 24) #[] #[.pointer (some ⟨gc, 0, none⟩), .pointer (some ⟨ga, 0, none⟩)], .int .i64 11, .func (.func 26) #[] #[.pointer (some ⟨gd, 0, none⟩), .pointer (some ⟨gc, 0, none⟩)],
      .int .i64 9, .func (.func 27) #[] #[.pointer (some ⟨gc, 0, none⟩), .pointer (some ⟨gl, 0, none⟩)], .int .i64 10, .func (.func 28) #[] #[.pointer (some ⟨ga, 0, none⟩), .pointer (some ⟨gc, 0, none⟩)],
      .int .i64 3, .func (.func 30) #[] #[.pointer (some ⟨gc, 0, none⟩), .pointer (some ⟨gd, 0, none⟩)]]

set_option maxHeartbeats 2000000 in
theorem first_any (gc gl gd ga B : Nat) (b1 b2 b3 b4 b5 : Bool) (w : World)
    (hB : w.heap[B]? = some (.cells (looks gc gl gd ga) 49 (0, 0)))
    (H1 : ∀ w', Below w.heap.size w w' → Calls Try.prog 24 #[.pointer (some ⟨gc, 0, none⟩), .pointer (some ⟨ga, 0, none⟩)] w' fun x w'' => x = .returned (.bool b1) ∧ Below w'.heap.size w' w'')
    (H2 : ∀ w', Below w.heap.size w w' → Calls Try.prog 26 #[.pointer (some ⟨gd, 0, none⟩), .pointer (some ⟨gc, 0, none⟩)] w' fun x w'' => x = .returned (.bool b2) ∧ Below w'.heap.size w' w'')
    (H3 : ∀ w', Below w.heap.size w w' → Calls Try.prog 27 #[.pointer (some ⟨gc, 0, none⟩), .pointer (some ⟨gl, 0, none⟩)] w' fun x w'' => x = .returned (.bool b3) ∧ Below w'.heap.size w' w'')
    (H4 : b1 = false → ∀ w', Below w.heap.size w w' → Calls Try.prog 28 #[.pointer (some ⟨ga, 0, none⟩), .pointer (some ⟨gc, 0, none⟩)] w' fun x w'' => x = .returned (.bool b4) ∧ Below w'.heap.size w' w'')
    (H5 : b1 = false → ∀ w', Below w.heap.size w w' → Calls Try.prog 30 #[.pointer (some ⟨gc, 0, none⟩), .pointer (some ⟨gd, 0, none⟩)] w' fun x w'' => x = .returned (.bool b5) ∧ Below w'.heap.size w' w'') :
    Calls Try.prog 23 #[.slice (some ⟨B, 0, none⟩) 5 5] w fun x w' => x = .returned (.int .i64 (pick5 b1 b2 b3 b4 b5)) ∧ Below w.heap.size w w' := by
  have HB := Lib.hid hB
  have K1 := Lib.hid H1
  have K2 := Lib.hid H2
  have K3 := Lib.hid H3
  have K4 := Lib.hid H4
  have K5 := Lib.hid H5
  clear hB H1 H2 H3 H4 H5
  have W0 := Lib.hid (Below.refl w.heap.size w)
  have hblt : B < w.heap.size := by
    by_cases h : B < w.heap.size
    · exact h
    · have := HB.out; rw [Array.getElem?_eq_none (by omega)] at this; cases this
  have cells : Hid (∀ w', Below w.heap.size w w' → ∀ j u, (looks gc gl gd ga)[j]? = some u → w'.cell? ⟨B, j, none⟩ = some u) := fun w' hb j u hu => by
    rw [hb.cell (p := ⟨B, j, none⟩) hblt, cell_of_row w B j _ _ _ HB.out]; exact hu
  clear hblt
  have d0 := cells.out w W0.out 0 (.int .i64 1) rfl
  have d1 := cells.out w W0.out 1 (.func (.func 24) #[] #[.pointer (some ⟨gc, 0, none⟩), .pointer (some ⟨ga, 0, none⟩)]) rfl
  go_enter Try.func23, Try.ntmps23
  go_wp2
  refine wp_loop_rounds 6 ?_
  rw [rounds_succ]
  go_wp2_with (first | (go_at_call 24; refine (K1.out _ (W0.out.alloc W0.out.size _)).mono ?_; rintro x w1 ⟨rfl, hb⟩; have W1 := Lib.hid ((W0.out.alloc W0.out.size (.cells #[.int .i64 1, .func (.func 24) #[] #[.pointer (some ⟨gc, 0, none⟩), .pointer (some ⟨ga, 0, none⟩)]] 49)).trans (hb.mono (Nat.le_trans W0.out.size (by simp)))); have hsz1 : w.heap.size < w1.heap.size := (by have := hb.size; simp at this; omega); have e1 : w1.cell? ⟨w.heap.size, 0, none⟩ = some (.int .i64 1) := (hb.cell (p := ⟨w.heap.size, 0, none⟩) (by simp)).trans (by go_simp); clear hb))
  · go_ret
    exact ⟨ret_i (by simp_all [pick5]), W1.out⟩
  have f1 : b1 = false := by simp_all
  subst f1
  have HF := Lib.hid (rfl : false = false)
  clear d0 d1
  have d0 := cells.out w1 W1.out 2 (.int .i64 11) rfl
  have d1 := cells.out w1 W1.out 3 (.func (.func 26) #[] #[.pointer (some ⟨gd, 0, none⟩), .pointer (some ⟨gc, 0, none⟩)]) rfl
  rw [rounds_succ]
  go_wp2_with (first | (go_at_call 26; refine (K2.out _ (W1.out.alloc W1.out.size _)).mono ?_; rintro x w2 ⟨rfl, hb⟩; have W2 := Lib.hid ((W1.out.alloc W1.out.size (.cells #[.int .i64 11, .func (.func 26) #[] #[.pointer (some ⟨gd, 0, none⟩), .pointer (some ⟨gc, 0, none⟩)]] 49)).trans (hb.mono (Nat.le_trans W1.out.size (by simp)))); have hsz2 : w1.heap.size < w2.heap.size := (by have := hb.size; simp at this; omega); have e2 : w2.cell? ⟨w1.heap.size, 0, none⟩ = some (.int .i64 11) := (hb.cell (p := ⟨w1.heap.size, 0, none⟩) (by simp)).trans (by go_simp); clear hb))
  · go_ret
    exact ⟨ret_i (by simp_all [pick5]), W2.out⟩
  have f2 : b2 = false := by simp_all
  subst f2
  clear d0 d1
  have d0 := cells.out w2 W2.out 4 (.int .i64 9) rfl
  have d1 := cells.out w2 W2.out 5 (.func (.func 27) #[] #[.pointer (some ⟨gc, 0, none⟩), .pointer (some ⟨gl, 0, none⟩)]) rfl
  rw [rounds_succ]
  go_wp2_with (first | (go_at_call 27; refine (K3.out _ (W2.out.alloc W2.out.size _)).mono ?_; rintro x w3 ⟨rfl, hb⟩; have W3 := Lib.hid ((W2.out.alloc W2.out.size (.cells #[.int .i64 9, .func (.func 27) #[] #[.pointer (some ⟨gc, 0, none⟩), .pointer (some ⟨gl, 0, none⟩)]] 49)).trans (hb.mono (Nat.le_trans W2.out.size (by simp)))); have hsz3 : w2.heap.size < w3.heap.size := (by have := hb.size; simp at this; omega); have e3 : w3.cell? ⟨w2.heap.size, 0, none⟩ = some (.int .i64 9) := (hb.cell (p := ⟨w2.heap.size, 0, none⟩) (by simp)).trans (by go_simp); clear hb))
  · go_ret
    exact ⟨ret_i (by simp_all [pick5]), W3.out⟩
  have f3 : b3 = false := by simp_all
  subst f3
  clear d0 d1
  have d0 := cells.out w3 W3.out 6 (.int .i64 10) rfl
  have d1 := cells.out w3 W3.out 7 (.func (.func 28) #[] #[.pointer (some ⟨ga, 0, none⟩), .pointer (some ⟨gc, 0, none⟩)]) rfl
  rw [rounds_succ]
  go_wp2_with (first | (go_at_call 28; refine (K4.out HF.out _ (W3.out.alloc W3.out.size _)).mono ?_; rintro x w4 ⟨rfl, hb⟩; have W4 := Lib.hid ((W3.out.alloc W3.out.size (.cells #[.int .i64 10, .func (.func 28) #[] #[.pointer (some ⟨ga, 0, none⟩), .pointer (some ⟨gc, 0, none⟩)]] 49)).trans (hb.mono (Nat.le_trans W3.out.size (by simp)))); have hsz4 : w3.heap.size < w4.heap.size := (by have := hb.size; simp at this; omega); have e4 : w4.cell? ⟨w3.heap.size, 0, none⟩ = some (.int .i64 10) := (hb.cell (p := ⟨w3.heap.size, 0, none⟩) (by simp)).trans (by go_simp); clear hb))
  · go_ret
    exact ⟨ret_i (by simp_all [pick5]), W4.out⟩
  have f4 : b4 = false := by simp_all
  subst f4
  clear d0 d1
  have d0 := cells.out w4 W4.out 8 (.int .i64 3) rfl
  have d1 := cells.out w4 W4.out 9 (.func (.func 30) #[] #[.pointer (some ⟨gc, 0, none⟩), .pointer (some ⟨gd, 0, none⟩)]) rfl
  rw [rounds_succ]
  go_wp2_with (first | (go_at_call 30; refine (K5.out HF.out _ (W4.out.alloc W4.out.size _)).mono ?_; rintro x w5 ⟨rfl, hb⟩; have W5 := Lib.hid ((W4.out.alloc W4.out.size (.cells #[.int .i64 3, .func (.func 30) #[] #[.pointer (some ⟨gc, 0, none⟩), .pointer (some ⟨gd, 0, none⟩)]] 49)).trans (hb.mono (Nat.le_trans W4.out.size (by simp)))); have hsz5 : w4.heap.size < w5.heap.size := (by have := hb.size; simp at this; omega); have e5 : w5.cell? ⟨w4.heap.size, 0, none⟩ = some (.int .i64 3) := (hb.cell (p := ⟨w4.heap.size, 0, none⟩) (by simp)).trans (by go_simp); clear hb))
  · go_ret
    exact ⟨ret_i (by simp_all [pick5]), W5.out⟩
  have f5 : b5 = false := by simp_all
  subst f5
  clear d0 d1
  rw [rounds_succ]
  go_wp2
  go_ret
  exact ⟨rfl, W5.out⟩
end Go.Proofs.Ytbhpghjdclehmaa
