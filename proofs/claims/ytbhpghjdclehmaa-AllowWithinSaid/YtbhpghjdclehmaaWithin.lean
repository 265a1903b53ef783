/- The walk of AllowWithin. -/
import Derived.Test.YtbhpghjdclehmaaTol
import Derived.Test.YtbhpghjdclehmaaWalks
namespace Go.Proofs.Ytbhpghjdclehmaa
open Go.RowKit

attribute [local go_sem] crd_n store_crd

theorem tol_no (n o a b : Int) (w : World) (h : bnd o a b 0 = false) :
    Calls Try.prog 4 #[.int .i64 n, .int .i64 o, .int .i64 a, .int .i64 b] w fun x w' => x = .returned (.bool true) ∧ Below w.heap.size w w' := by
  have HB := Lib.hid h
  clear h
  obtain ⟨q, hq⟩ : ∃ q, win n o a b = q := ⟨_, rfl⟩
  have HQ := Lib.hid hq
  clear hq
  go_enter Try.func4, Try.ntmps4
  go_wp2_with (first
    | (refine wpList_load_row rfl 27 (.tmp 10) rfl w2.heap.size rfl 27 (crd o a b 0 false) (0, 0) _ (by first | exact heap_alloc_new _ _ | assumption) Try.underlying27 rfl (crd_size ..) ?_)
    | (refine wpList_load_rowG rfl 27 (.tmp 10) rfl w2.heap.size rfl 27 (crd o a b 0 false) (0, 0) _ (by assumption) Try.underlying27 rfl (crd_size ..) ?_)
    | (go_at_call 7; refine (awake_any _).mono ?_; rintro x w1 ⟨rfl, hb1⟩)
    | (go_at_call 14; (with_reducible refine (Within_any n o a b _).mono ?_); rw [HQ.out]; rintro x w' ⟨rfl, rfl⟩)
    | (go_at_call 14; (with_reducible refine (Within_any o o a b _).mono ?_); rw [HS.out]; rintro x w' ⟨rfl, rfl⟩)
    | (go_at_call 15; (with_reducible refine (refWithin_any n o a b _).mono ?_); rw [HQ.out]; rintro x w' ⟨rfl, rfl⟩)
    | (go_at_call 8; refine (lawBounds_any _ _ _ _ _ _).mono ?_; rintro x w2 ⟨rfl, hb2⟩)
    | (go_at_call 11; refine (Bounds_any _ _ _ _ _ _).mono ?_; rw [HB.out]; rintro x w5 ⟨rfl, hb5⟩; have hg5 := hgr (heap_alloc_new w2 (.cells (crd o a b 0 false) 27)) hb5)
    | (go_at_call 13; refine (refLeast_any _ _ _ _ _ _ hs hs' hb hb').mono ?_; rintro x w6 ⟨rfl, hb6⟩; have hg6 := hgr hg5 hb6)
    | (go_at_call 12; refine (refMost_any _ _ _ _ _ _ hs hs' ha ha').mono ?_; rintro x w7 ⟨rfl, hb7⟩))
  all_goals (go_ret; exact ⟨rfl, bels (bels (bels hb1 hb2) (below_new _ _)) hb5⟩)

theorem tol_in (n o a b : Int) (w : World) (h : bnd o a b 0 = true) (hl : least o b ≤ n) (hm : n ≤ most o a) :
    Calls Try.prog 4 #[.int .i64 n, .int .i64 o, .int .i64 a, .int .i64 b] w fun x w' => x = .returned (.bool true) ∧ Below w.heap.size w w' := by
  obtain ⟨⟨hs, hs'⟩, ⟨ha, ha'⟩, ⟨hb, hb'⟩, _⟩ := (bnd_iff o a b 0).mp h
  have HS := Lib.hid (win_self o a b 0 h)
  have HQ := Lib.hid (show win n o a b = true by rw [win_bounds n o a b 0 h]; simp [hl, hm])
  have HB := Lib.hid h
  clear h
  go_enter Try.func4, Try.ntmps4
  go_wp2_with (first
    | (refine wpList_load_row rfl 27 (.tmp 10) rfl w2.heap.size rfl 27 (crd o a b 0 false) (0, 0) _ (by first | exact heap_alloc_new _ _ | assumption) Try.underlying27 rfl (crd_size ..) ?_)
    | (refine wpList_load_rowG rfl 27 (.tmp 10) rfl w2.heap.size rfl 27 (crd o a b 0 false) (0, 0) _ (by assumption) Try.underlying27 rfl (crd_size ..) ?_)
    | (go_at_call 7; refine (awake_any _).mono ?_; rintro x w1 ⟨rfl, hb1⟩)
    | (go_at_call 14; (with_reducible refine (Within_any n o a b _).mono ?_); rw [HQ.out]; rintro x w' ⟨rfl, rfl⟩)
    | (go_at_call 14; (with_reducible refine (Within_any o o a b _).mono ?_); rw [HS.out]; rintro x w' ⟨rfl, rfl⟩)
    | (go_at_call 15; (with_reducible refine (refWithin_any n o a b _).mono ?_); rw [HQ.out]; rintro x w' ⟨rfl, rfl⟩)
    | (go_at_call 8; refine (lawBounds_any _ _ _ _ _ _).mono ?_; rintro x w2 ⟨rfl, hb2⟩)
    | (go_at_call 11; refine (Bounds_any _ _ _ _ _ _).mono ?_; rw [HB.out]; rintro x w5 ⟨rfl, hb5⟩; have hg5 := hgr (heap_alloc_new w2 (.cells (crd o a b 0 false) 27)) hb5)
    | (go_at_call 13; refine (refLeast_any _ _ _ _ _ _ hs hs' hb hb').mono ?_; rintro x w6 ⟨rfl, hb6⟩; have hg6 := hgr hg5 hb6)
    | (go_at_call 12; refine (refMost_any _ _ _ _ _ _ hs hs' ha ha').mono ?_; rintro x w7 ⟨rfl, hb7⟩))
  go_ret
  exact ⟨rfl, bels (bels (bels (bels (bels hb1 hb2) (below_new _ _)) hb5) hb6) hb7⟩

theorem tol_above (n o a b : Int) (w : World) (h : bnd o a b 0 = true) (hl : least o b ≤ n) (hm : ¬ n ≤ most o a) :
    Calls Try.prog 4 #[.int .i64 n, .int .i64 o, .int .i64 a, .int .i64 b] w fun x w' => x = .returned (.bool true) ∧ Below w.heap.size w w' := by
  obtain ⟨⟨hs, hs'⟩, ⟨ha, ha'⟩, ⟨hb, hb'⟩, _⟩ := (bnd_iff o a b 0).mp h
  have HS := Lib.hid (win_self o a b 0 h)
  have HQ := Lib.hid (show win n o a b = false by rw [win_bounds n o a b 0 h]; simp [hl, hm])
  have HB := Lib.hid h
  clear h
  go_enter Try.func4, Try.ntmps4
  go_wp2_with (first
    | (refine wpList_load_row rfl 27 (.tmp 10) rfl w2.heap.size rfl 27 (crd o a b 0 false) (0, 0) _ (by first | exact heap_alloc_new _ _ | assumption) Try.underlying27 rfl (crd_size ..) ?_)
    | (refine wpList_load_rowG rfl 27 (.tmp 10) rfl w2.heap.size rfl 27 (crd o a b 0 false) (0, 0) _ (by assumption) Try.underlying27 rfl (crd_size ..) ?_)
    | (go_at_call 7; refine (awake_any _).mono ?_; rintro x w1 ⟨rfl, hb1⟩)
    | (go_at_call 14; (with_reducible refine (Within_any n o a b _).mono ?_); rw [HQ.out]; rintro x w' ⟨rfl, rfl⟩)
    | (go_at_call 14; (with_reducible refine (Within_any o o a b _).mono ?_); rw [HS.out]; rintro x w' ⟨rfl, rfl⟩)
    | (go_at_call 15; (with_reducible refine (refWithin_any n o a b _).mono ?_); rw [HQ.out]; rintro x w' ⟨rfl, rfl⟩)
    | (go_at_call 8; refine (lawBounds_any _ _ _ _ _ _).mono ?_; rintro x w2 ⟨rfl, hb2⟩)
    | (go_at_call 11; refine (Bounds_any _ _ _ _ _ _).mono ?_; rw [HB.out]; rintro x w5 ⟨rfl, hb5⟩; have hg5 := hgr (heap_alloc_new w2 (.cells (crd o a b 0 false) 27)) hb5)
    | (go_at_call 13; refine (refLeast_any _ _ _ _ _ _ hs hs' hb hb').mono ?_; rintro x w6 ⟨rfl, hb6⟩; have hg6 := hgr hg5 hb6)
    | (go_at_call 12; refine (refMost_any _ _ _ _ _ _ hs hs' ha ha').mono ?_; rintro x w7 ⟨rfl, hb7⟩))
  go_ret
  exact ⟨ret_b (by simp [hm]), bels (bels (bels (bels (bels hb1 hb2) (below_new _ _)) hb5) hb6) hb7⟩

theorem tol_below (n o a b : Int) (w : World) (h : bnd o a b 0 = true) (hl : ¬ least o b ≤ n) :
    Calls Try.prog 4 #[.int .i64 n, .int .i64 o, .int .i64 a, .int .i64 b] w fun x w' => x = .returned (.bool true) ∧ Below w.heap.size w w' := by
  obtain ⟨⟨hs, hs'⟩, ⟨ha, ha'⟩, ⟨hb, hb'⟩, _⟩ := (bnd_iff o a b 0).mp h
  have HS := Lib.hid (win_self o a b 0 h)
  have HQ := Lib.hid (show win n o a b = false by rw [win_bounds n o a b 0 h]; simp [hl])
  have HB := Lib.hid h
  clear h
  go_enter Try.func4, Try.ntmps4
  go_wp2_with (first
    | (refine wpList_load_row rfl 27 (.tmp 10) rfl w2.heap.size rfl 27 (crd o a b 0 false) (0, 0) _ (by first | exact heap_alloc_new _ _ | assumption) Try.underlying27 rfl (crd_size ..) ?_)
    | (refine wpList_load_rowG rfl 27 (.tmp 10) rfl w2.heap.size rfl 27 (crd o a b 0 false) (0, 0) _ (by assumption) Try.underlying27 rfl (crd_size ..) ?_)
    | (go_at_call 7; refine (awake_any _).mono ?_; rintro x w1 ⟨rfl, hb1⟩)
    | (go_at_call 14; (with_reducible refine (Within_any n o a b _).mono ?_); rw [HQ.out]; rintro x w' ⟨rfl, rfl⟩)
    | (go_at_call 14; (with_reducible refine (Within_any o o a b _).mono ?_); rw [HS.out]; rintro x w' ⟨rfl, rfl⟩)
    | (go_at_call 15; (with_reducible refine (refWithin_any n o a b _).mono ?_); rw [HQ.out]; rintro x w' ⟨rfl, rfl⟩)
    | (go_at_call 8; refine (lawBounds_any _ _ _ _ _ _).mono ?_; rintro x w2 ⟨rfl, hb2⟩)
    | (go_at_call 11; refine (Bounds_any _ _ _ _ _ _).mono ?_; rw [HB.out]; rintro x w5 ⟨rfl, hb5⟩; have hg5 := hgr (heap_alloc_new w2 (.cells (crd o a b 0 false) 27)) hb5)
    | (go_at_call 13; refine (refLeast_any _ _ _ _ _ _ hs hs' hb hb').mono ?_; rintro x w6 ⟨rfl, hb6⟩; have hg6 := hgr hg5 hb6)
    | (go_at_call 12; refine (refMost_any _ _ _ _ _ _ hs hs' ha ha').mono ?_; rintro x w7 ⟨rfl, hb7⟩))
  go_ret
  exact ⟨rfl, bels (bels (bels (bels hb1 hb2) (below_new _ _)) hb5) hb6⟩

theorem within_walk (n o a b : Int) (w : World) :
    Calls Try.prog 4 #[.int .i64 n, .int .i64 o, .int .i64 a, .int .i64 b] w fun x w' => x = .returned (.bool true) ∧ Below w.heap.size w w' := by
  cases h : bnd o a b 0
  · exact tol_no n o a b w h
  · by_cases hl : least o b ≤ n
    · by_cases hm : n ≤ most o a
      · exact tol_in n o a b w h hl hm
      · exact tol_above n o a b w h hl hm
    · exact tol_below n o a b w h hl
end Go.Proofs.Ytbhpghjdclehmaa
