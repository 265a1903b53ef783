/- The walk of AllowMost. -/
import Derived.Test.YtbhpghjdclehmaaTol
import Derived.Test.YtbhpghjdclehmaaWalks
namespace Go.Proofs.Ytbhpghjdclehmaa
open Go.RowKit

attribute [local go_sem] crd_n store_crd

theorem most_no (s a b e : Int) (w : World) (h : bnd s a b e = false) :
    Calls Try.prog 3 #[.int .i64 s, .int .i64 a, .int .i64 b, .int .i64 e] w fun x w' => x = .returned (.bool true) ∧ Below w.heap.size w w' := by
  go_enter Try.func3, Try.ntmps3
  go_wp2_with (first
    | (refine wpList_load_row rfl 27 (.tmp 9) rfl w2.heap.size rfl 27 (crd s a b e false) (0, 0) _ (by first | exact heap_alloc_new _ _ | assumption) Try.underlying27 rfl (crd_size ..) ?_)
    | (go_at_call 7; refine (awake_any _).mono ?_; rintro x w1 ⟨rfl, hb1⟩)
    | (go_at_call 8; refine (lawBounds_any _ _ _ _ _ _).mono ?_; rintro x w2 ⟨rfl, hb2⟩)
    | (go_at_call 9; refine (Most_no _ _ _ _ _ _ h).mono ?_; rintro x w3 ⟨rfl, hb3⟩; have hg3 := hgr (heap_alloc_new w2 (.cells (crd s a b e false) 27)) hb3)
    | (go_at_call 10; refine (Least_no _ _ _ _ _ _ h).mono ?_; rintro x w4 ⟨rfl, hb4⟩; have hg4 := hgr hg3 hb4)
    | (go_at_call 11; refine (Bounds_any _ _ _ _ _ _).mono ?_; rw [h]; rintro x w5 ⟨rfl, hb5⟩))
  go_ret
  exact ⟨rfl, bels (bels (bels (bels (bels hb1 hb2) (below_new _ _)) hb3) hb4) hb5⟩

theorem most_yes (s a b e : Int) (w : World) (h : bnd s a b e = true) :
    Calls Try.prog 3 #[.int .i64 s, .int .i64 a, .int .i64 b, .int .i64 e] w fun x w' => x = .returned (.bool true) ∧ Below w.heap.size w w' := by
  obtain ⟨⟨hs, hs'⟩, ⟨ha, ha'⟩, ⟨hb, hb'⟩, _⟩ := (bnd_iff s a b e).mp h
  obtain ⟨m1, m2⟩ := most_ge s a hs ha ha'
  obtain ⟨l1, l2⟩ := least_le s b hs hb hb'
  go_enter Try.func3, Try.ntmps3
  go_wp2_with (first
    | (refine wpList_load_row rfl 27 (.tmp 9) rfl w2.heap.size rfl 27 (crd s a b e false) (0, 0) _ (by first | exact heap_alloc_new _ _ | assumption) Try.underlying27 rfl (crd_size ..) ?_)
    | (refine wpList_load_rowG rfl 27 (.tmp 9) rfl w2.heap.size rfl 27 (crd s a b e false) (0, 0) _ (by assumption) Try.underlying27 rfl (crd_size ..) ?_)
    | (go_at_call 7; refine (awake_any _).mono ?_; rintro x w1 ⟨rfl, hb1⟩)
    | (go_at_call 8; refine (lawBounds_any _ _ _ _ _ _).mono ?_; rintro x w2 ⟨rfl, hb2⟩)
    | (go_at_call 9; refine (Most_yes _ _ _ _ _ _ h).mono ?_; rintro x w3 ⟨rfl, hb3⟩; have hg3 := hgr (heap_alloc_new w2 (.cells (crd s a b e false) 27)) hb3)
    | (go_at_call 10; refine (Least_yes _ _ _ _ _ _ h).mono ?_; rintro x w4 ⟨rfl, hb4⟩; have hg4 := hgr hg3 hb4)
    | (go_at_call 11; refine (Bounds_any _ _ _ _ _ _).mono ?_; rw [h]; rintro x w5 ⟨rfl, hb5⟩; have hg5 := hgr hg4 hb5)
    | (go_at_call 12; refine (refMost_any _ _ _ _ _ _ hs hs' ha ha').mono ?_; rintro x w6 ⟨rfl, hb6⟩; have hg6 := hgr hg5 hb6)
    | (go_at_call 13; refine (refLeast_any _ _ _ _ _ _ hs hs' hb hb').mono ?_; rintro x w7 ⟨rfl, hb7⟩))
  go_ret
  exact ⟨rfl, bels (bels (bels (bels (bels (bels (bels hb1 hb2) (below_new _ _)) hb3) hb4) hb5) hb6) hb7⟩

theorem most_walk (s a b e : Int) (w : World) :
    Calls Try.prog 3 #[.int .i64 s, .int .i64 a, .int .i64 b, .int .i64 e] w fun x w' => x = .returned (.bool true) ∧ Below w.heap.size w w' := by
  cases h : bnd s a b e
  · exact most_no s a b e w h
  · exact most_yes s a b e w h
end Go.Proofs.Ytbhpghjdclehmaa
