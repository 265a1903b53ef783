/- The walk of AllowParts where the statement says nothing. -/
import Derived.Test.YtbhpghjdclehmaaPartsP
import Derived.Test.YtbhpghjdclehmaaApp
import Derived.Test.YtbhpghjdclehmaaNever
namespace Go.Proofs.Ytbhpghjdclehmaa
open Go.RowKit

attribute [local go_sem] crd_n store_crd

/-- The guard: what the statement speaks of. -/
def partsG (s a b e : Int) (n : Nat) (x y m : Int) : Prop := n ≤ 40 ∧ bnd s a b e = true ∧ 1 ≤ x ∧ 1 ≤ y ∧ x ≤ 549755813888 ∧ y ≤ 549755813888 ∧ 0 ≤ m ∧ m ≤ 1000

set_option maxRecDepth 100000 in
set_option maxHeartbeats 2000000 in
theorem parts_out (s a b e : Int) (A : Option Addr) (n c : Nat) (x y dy m : Int) (w : World) (hg : ¬ partsG s a b e n x y m) :
    Calls Try.prog 5 #[.int .i64 s, .int .i64 a, .int .i64 b, .int .i64 e, .slice A n c, .int .i64 x, .int .i64 y, .int .i64 dy, .int .i64 m] w fun r w' => r = .returned (.bool true) ∧ Below w.heap.size w w' := by
  by_cases h1 : n ≤ 40
  · have h1d : decide ((40 : Int) < (n : Int)) = false := by simp; omega
    cases hb : bnd s a b e
    · have HB := Lib.hid hb
      clear hb hg
      go_enter Try.func5, Try.ntmps5
      go_wp2_with (first
        | (refine wpList_load_rowG rfl 27 (.tmp 19) rfl w2.heap.size rfl 27 (crd s a b e true) (0, 0) _ (by first | exact heap_alloc_new _ _ | assumption) Try.underlying27 rfl (crd_size ..) ?_)
        | (go_at_call 7; refine (awake_any _).mono ?_; rintro r w1 ⟨rfl, hb1⟩)
        | (go_at_call 8; refine (lawBounds_any _ _ _ _ _ _).mono ?_; rintro r w2 ⟨rfl, hb2⟩)
        | (go_at_call 11; refine (Bounds_any _ _ _ _ _ _).mono ?_; rw [HB.out]; rintro r w3 ⟨rfl, hb3⟩))
      go_ret
      exact ⟨rfl, bels (bels (bels hb1 hb2) (below_new _ _)) hb3⟩
    · have HB := Lib.hid hb
      have HG := Lib.hid hg
      clear hg hb
      by_cases h3 : 1 ≤ x
      · by_cases h4 : 1 ≤ y
        · by_cases h5 : x ≤ 549755813888
          · by_cases h6 : y ≤ 549755813888
            · by_cases h7 : 0 ≤ m
              · have h8 : ¬ m ≤ 1000 := fun h8 => HG.out ⟨h1, HB.out, h3, h4, h5, h6, h7, h8⟩
                go_enter Try.func5, Try.ntmps5
                go_wp2_with (first
                  | (refine wpList_load_rowG rfl 27 (.tmp 19) rfl w2.heap.size rfl 27 (crd s a b e true) (0, 0) _ (by first | exact heap_alloc_new _ _ | assumption) Try.underlying27 rfl (crd_size ..) ?_)
                  | (go_at_call 7; refine (awake_any _).mono ?_; rintro r w1 ⟨rfl, hb1⟩)
                  | (go_at_call 8; refine (lawBounds_any _ _ _ _ _ _).mono ?_; rintro r w2 ⟨rfl, hb2⟩)
                  | (go_at_call 11; refine (Bounds_any _ _ _ _ _ _).mono ?_; rw [HB.out]; rintro r w3 ⟨rfl, hb3⟩))
                go_ret
                exact ⟨rfl, bels (bels (bels hb1 hb2) (below_new _ _)) hb3⟩
              · go_enter Try.func5, Try.ntmps5
                go_wp2_with (first
                  | (refine wpList_load_rowG rfl 27 (.tmp 19) rfl w2.heap.size rfl 27 (crd s a b e true) (0, 0) _ (by first | exact heap_alloc_new _ _ | assumption) Try.underlying27 rfl (crd_size ..) ?_)
                  | (go_at_call 7; refine (awake_any _).mono ?_; rintro r w1 ⟨rfl, hb1⟩)
                  | (go_at_call 8; refine (lawBounds_any _ _ _ _ _ _).mono ?_; rintro r w2 ⟨rfl, hb2⟩)
                  | (go_at_call 11; refine (Bounds_any _ _ _ _ _ _).mono ?_; rw [HB.out]; rintro r w3 ⟨rfl, hb3⟩))
                go_ret
                exact ⟨rfl, bels (bels (bels hb1 hb2) (below_new _ _)) hb3⟩
            · go_enter Try.func5, Try.ntmps5
              go_wp2_with (first
                | (refine wpList_load_rowG rfl 27 (.tmp 19) rfl w2.heap.size rfl 27 (crd s a b e true) (0, 0) _ (by first | exact heap_alloc_new _ _ | assumption) Try.underlying27 rfl (crd_size ..) ?_)
                | (go_at_call 7; refine (awake_any _).mono ?_; rintro r w1 ⟨rfl, hb1⟩)
                | (go_at_call 8; refine (lawBounds_any _ _ _ _ _ _).mono ?_; rintro r w2 ⟨rfl, hb2⟩)
                | (go_at_call 11; refine (Bounds_any _ _ _ _ _ _).mono ?_; rw [HB.out]; rintro r w3 ⟨rfl, hb3⟩))
              go_ret
              exact ⟨rfl, bels (bels (bels hb1 hb2) (below_new _ _)) hb3⟩
          · go_enter Try.func5, Try.ntmps5
            go_wp2_with (first
              | (refine wpList_load_rowG rfl 27 (.tmp 19) rfl w2.heap.size rfl 27 (crd s a b e true) (0, 0) _ (by first | exact heap_alloc_new _ _ | assumption) Try.underlying27 rfl (crd_size ..) ?_)
              | (go_at_call 7; refine (awake_any _).mono ?_; rintro r w1 ⟨rfl, hb1⟩)
              | (go_at_call 8; refine (lawBounds_any _ _ _ _ _ _).mono ?_; rintro r w2 ⟨rfl, hb2⟩)
              | (go_at_call 11; refine (Bounds_any _ _ _ _ _ _).mono ?_; rw [HB.out]; rintro r w3 ⟨rfl, hb3⟩))
            go_ret
            exact ⟨rfl, bels (bels (bels hb1 hb2) (below_new _ _)) hb3⟩
        · go_enter Try.func5, Try.ntmps5
          go_wp2_with (first
            | (refine wpList_load_rowG rfl 27 (.tmp 19) rfl w2.heap.size rfl 27 (crd s a b e true) (0, 0) _ (by first | exact heap_alloc_new _ _ | assumption) Try.underlying27 rfl (crd_size ..) ?_)
            | (go_at_call 7; refine (awake_any _).mono ?_; rintro r w1 ⟨rfl, hb1⟩)
            | (go_at_call 8; refine (lawBounds_any _ _ _ _ _ _).mono ?_; rintro r w2 ⟨rfl, hb2⟩)
            | (go_at_call 11; refine (Bounds_any _ _ _ _ _ _).mono ?_; rw [HB.out]; rintro r w3 ⟨rfl, hb3⟩))
          go_ret
          exact ⟨rfl, bels (bels (bels hb1 hb2) (below_new _ _)) hb3⟩
      · go_enter Try.func5, Try.ntmps5
        go_wp2_with (first
          | (refine wpList_load_rowG rfl 27 (.tmp 19) rfl w2.heap.size rfl 27 (crd s a b e true) (0, 0) _ (by first | exact heap_alloc_new _ _ | assumption) Try.underlying27 rfl (crd_size ..) ?_)
          | (go_at_call 7; refine (awake_any _).mono ?_; rintro r w1 ⟨rfl, hb1⟩)
          | (go_at_call 8; refine (lawBounds_any _ _ _ _ _ _).mono ?_; rintro r w2 ⟨rfl, hb2⟩)
          | (go_at_call 11; refine (Bounds_any _ _ _ _ _ _).mono ?_; rw [HB.out]; rintro r w3 ⟨rfl, hb3⟩))
        go_ret
        exact ⟨rfl, bels (bels (bels hb1 hb2) (below_new _ _)) hb3⟩
  · clear hg
    go_enter Try.func5, Try.ntmps5
    go_wp2_with (first
      | (go_at_call 7; refine (awake_any _).mono ?_; rintro r w1 ⟨rfl, hb1⟩)
      | (go_at_call 8; refine (lawBounds_any _ _ _ _ _ _).mono ?_; rintro r w2 ⟨rfl, hb2⟩))
    go_ret
    exact ⟨rfl, bels (bels hb1 hb2) (below_new _ _)⟩
end Go.Proofs.Ytbhpghjdclehmaa
