/- The walks of the statements' own helpers (the example, the credit of given bounds) and of the tolerance. -/
import Derived.Test.YtbhpghjdclehmaaCred
namespace Go.Proofs.Ytbhpghjdclehmaa
open Go.RowKit

theorem lawBounds_any (s a b e : Int) (p : Bool) (w : World) :
    Calls Try.prog 8 #[.int .i64 s, .int .i64 a, .int .i64 b, .int .i64 e, .bool p] w fun x w' => x = .returned (.agg (crd s a b e p)) ∧ Below w.heap.size w w' := by
  go_enter Try.func8, Try.ntmps8
  go_wp2
  exact bodyPost_ret (results_cell_row (fn := Try.f8) (p := 10) rfl _ _ w.heap.size 27 (crd s a b e p) (0, 0) _ rfl (heap_alloc_new _ _) Try.underlying27 rfl (crd_size ..)) rfl ⟨rfl, below_new _ _⟩

theorem crd_n (s a b e : Int) (p : Bool) : (crd s a b e p).size = 18 := rfl
/-- A credit stored into a new variable. -/
theorem store_crd (s a b e : Int) (p : Bool) (w : World) :
    Sem.run Try.prog (storeCells ⟨w.heap.size, 0, none⟩ (crd s a b e p).toList) (w.alloc (.cells #[.string ⟨#[]⟩, .string ⟨#[]⟩, .string ⟨#[]⟩, .string ⟨#[]⟩, .string ⟨#[]⟩, .string ⟨#[]⟩, .string ⟨#[]⟩, .string ⟨#[]⟩, .int .i64 0, .int .i64 0, .int .i64 0, .int .i64 0, .int .i64 0, .int .i64 0, .int .i64 0, .bool false, .bool false, .slice none 0 0] 27)) = .ok () (w.alloc (.cells (crd s a b e p) 27)) := by
  unfold crd
  go_simp

theorem awake_any (w : World) : Calls Try.prog 7 #[] w fun x w' => x = .returned (.bool true) ∧ Below w.heap.size w w' := by
  have hM := fun w => Most_yes 1000 50 100 0 false w rfl
  have hL := fun w => Least_yes 1000 50 100 0 false w rfl
  rw [show most 1000 50 = 1050 from rfl] at hM
  rw [show least 1000 100 = 900 from rfl] at hL
  have HM := Lib.hid hM
  have HL := Lib.hid hL
  clear hM hL
  go_enter Try.func7, Try.ntmps7
  go_wp2_with (first
    | (refine wpList_load_row rfl 27 (.tmp 1) rfl w.heap.size rfl 27 (crd 1000 50 100 0 false) (0, 0) _ (by first | exact heap_alloc_new _ _ | exact hg1) Try.underlying27 rfl (crd_size ..) ?_)
    | (go_at_call 9; refine (HM.out _).mono ?_; rintro x w1 ⟨rfl, hb1⟩; have hg1 : w1.heap[w.heap.size]? = some (.cells (crd 1000 50 100 0 false) 27) := (hb1.block _ (by simp)).trans (heap_alloc_new _ _))
    | (go_at_call 10; refine (HL.out _).mono ?_; rintro x w2 ⟨rfl, hb2⟩))
  go_ret
  exact ⟨rfl, (below_new _ _).trans ((hb1.mono (by simp)).trans (hb2.mono (by have := hb1.size; simp at this; omega)))⟩

theorem hgr {w w2 : World} {A : Array Value} {n : Nat} (hg : w.heap[n]? = some (.cells A 27 (0, 0))) (hb : Below w.heap.size w w2) : w2.heap[n]? = some (.cells A 27 (0, 0)) := by
  have hlt : n < w.heap.size := by
    by_cases h : n < w.heap.size
    · exact h
    · rw [Array.getElem?_eq_none (by omega)] at hg; cases hg
  exact (hb.block n hlt).trans hg

theorem bel {B : Nat} {w w1 w2 : World} (h : Below B w w1) (h2 : Below w1.heap.size w1 w2) (hB : B ≤ w1.heap.size) : Below B w w2 := h.trans (h2.mono hB)
theorem bels {w w1 w2 : World} (h : Below w.heap.size w w1) (h2 : Below w1.heap.size w1 w2) : Below w.heap.size w w2 := h.trans (h2.mono h.size)
end Go.Proofs.Ytbhpghjdclehmaa
