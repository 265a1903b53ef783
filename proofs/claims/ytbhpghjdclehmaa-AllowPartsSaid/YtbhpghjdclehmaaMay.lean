/- May one be drawn behind others? The walks of the looks (but the fourth), of the first error. -/
import Derived.Test.YtbhpghjdclehmaaQuiet
namespace Go.Proofs.Ytbhpghjdclehmaa
open Go.RowKit

/-- What the looks see: the credit in the variable at block g, the draws in the variable at block m. -/
theorem look1 (s a b e : Int) (p : Bool) (A : Option Addr) (c : Nat) (l : List Drw) (g m : Nat) (w : World) (hl : l.length ≤ maxLen)
    (hg : w.heap[g]? = some (.cells (crd s a b e p) 27 (0, 0))) (hm : w.cell? ⟨m, 0, none⟩ = some (.slice A l.length c)) (hd : DS w A l) :
    Calls Try.prog 24 #[.pointer (some ⟨g, 0, none⟩), .pointer (some ⟨m, 0, none⟩)] w fun x w' => x = .returned (.bool (!(bnd s a b e && right l))) ∧ Below w.heap.size w w' := by
  have HG := Lib.hid hg
  have HD := Lib.hid hd
  have HL := Lib.hid hl
  have HM := Lib.hid hm
  clear hg hd hl hm
  cases h1 : bnd s a b e
  · have H1 := Lib.hid h1
    clear h1
    go_enter Try.func24, Try.ntmps24
    go_wp2_with (first
      | (refine wpList_load_row rfl 27 (.tmp 0) rfl g rfl 27 (crd s a b e p) (0, 0) _ HG.out Try.underlying27 rfl (crd_size ..) ?_)
      | (go_at_call 19; refine (bounds_any _ _ _ _ _ _).mono ?_; rw [H1.out]; rintro x w1 ⟨rfl, hb1⟩))
    go_ret
    exact ⟨rfl, hb1⟩
  · have H1 := Lib.hid h1
    clear h1
    obtain ⟨r, hr⟩ : ∃ r, right l = r := ⟨_, rfl⟩
    rw [hr]
    have HR := Lib.hid hr
    clear hr
    go_enter Try.func24, Try.ntmps24
    go_wp2_with (first
      | (refine wpList_load_row rfl 27 (.tmp 0) rfl g rfl 27 (crd s a b e p) (0, 0) _ HG.out Try.underlying27 rfl (crd_size ..) ?_)
      | (go_at_call 19; refine (bounds_any _ _ _ _ _ _).mono ?_; rw [H1.out]; rintro x w1 ⟨rfl, hb1⟩; have hm1 := (hb1.cell (block_lt_of_cell HM.out)).trans HM.out)
      | (go_at_call 25; refine (right_any A c l _ HL.out (HD.out.keep hb1)).mono ?_; rw [HR.out]; rintro x w2 ⟨rfl, hb2⟩))
    go_ret
    exact ⟨rfl, bels hb1 hb2⟩

/-- Is the day above the expiry? -/
theorem look2 (s a b e : Int) (p : Bool) (dd : Int) (g m : Nat) (w : World)
    (hg : w.heap[g]? = some (.cells (crd s a b e p) 27 (0, 0))) (hm : w.cell? ⟨m, 0, none⟩ = some (.int .i64 dd)) :
    Calls Try.prog 26 #[.pointer (some ⟨m, 0, none⟩), .pointer (some ⟨g, 0, none⟩)] w fun x w' => x = .returned (.bool (decide (e < dd))) ∧ Below w.heap.size w w' := by
  have c1 : w.cell? ⟨g, 12, none⟩ = some (.int .i64 e) := cell_of_row w g 12 _ _ _ hg
  have HG := Lib.hid hg
  clear hg
  go_enter Try.func26, Try.ntmps26
  go_wp2
  go_ret
  exact ⟨rfl, Below.refl _ _⟩

/-- Isn't it partial, and have there been draws? -/
theorem look3 (s a b e : Int) (p : Bool) (A : Option Addr) (n c : Nat) (g m : Nat) (w : World)
    (hg : w.heap[g]? = some (.cells (crd s a b e p) 27 (0, 0))) (hm : w.cell? ⟨m, 0, none⟩ = some (.slice A n c)) :
    Calls Try.prog 27 #[.pointer (some ⟨g, 0, none⟩), .pointer (some ⟨m, 0, none⟩)] w fun x w' => x = .returned (.bool (!p && decide (0 < n))) ∧ Below w.heap.size w w' := by
  have c1 : w.cell? ⟨g, 15, none⟩ = some (.bool p) := cell_of_row w g 15 _ _ _ hg
  have HG := Lib.hid hg
  clear hg
  cases p
  all_goals
    go_enter Try.func27, Try.ntmps27
    go_wp2
    go_ret
    exact ⟨rfl, Below.refl _ _⟩

/-- Isn't it partial, and is the amount below the least? -/
theorem look5 (s a b e : Int) (p : Bool) (da : Int) (g m : Nat) (w : World) (hb : bnd s a b e = true)
    (hg : w.heap[g]? = some (.cells (crd s a b e p) 27 (0, 0))) (hm : w.cell? ⟨m, 1, none⟩ = some (.int .i64 da)) :
    Calls Try.prog 30 #[.pointer (some ⟨g, 0, none⟩), .pointer (some ⟨m, 0, none⟩)] w fun x w' => x = .returned (.bool (!p && decide (da < least s b))) ∧ Below w.heap.size w w' := by
  obtain ⟨⟨hs, hs'⟩, -, ⟨hb1, hb2⟩, -⟩ := (bnd_iff s a b e).mp hb
  have c1 : w.cell? ⟨g, 15, none⟩ = some (.bool p) := cell_of_row w g 15 _ _ _ hg
  have HG := Lib.hid hg
  have HM := Lib.hid hm
  have HC := Lib.hid c1
  clear hg hb hm c1
  cases p
  · go_enter Try.func30, Try.ntmps30
    go_wp2
    refine region_below (by kernel_rfl) (by kernel_rfl) ?_
    quiet_step ((intro _; rfl))
    refine wq_load rfl 4 (.tmp 3) rfl _ rfl _ (loads_one HC.out Try.underlying4 rfl) ?_
    quiet_step ((intro _; rfl))
    quiet_step ((intro _; rfl))
    quiet_step ((intro _; rfl))
    refine wq_load rfl 2 (.tmp 7) rfl _ rfl _ (loads_one HM.out Try.underlying2 rfl) ?_
    refine wq_load rfl 27 (.tmp 0) rfl _ rfl _ (loads_row HG.out Try.underlying27 rfl (crd_size ..)) ?_
    quiet_step ((intro hC; go_at_call 21; exact calls_below hC (least_any _ _ _ _ _ _ hs hs' hb1 hb2)))
    quiet_step ((intro _; rfl))
    quiet_step ((intro _; rfl))
    quiet_step ((intro _; rfl))
    refine wpQuiet_nil ?_
    intro w' hb'
    go_wp2
    go_ret
    exact ⟨rfl, hb'⟩
  · go_enter Try.func30, Try.ntmps30
    go_wp2
    refine region_below (by kernel_rfl) (by kernel_rfl) ?_
    quiet_step ((intro _; rfl))
    refine wq_load rfl 4 (.tmp 3) rfl _ rfl _ (loads_one HC.out Try.underlying4 rfl) ?_
    quiet_step ((intro _; rfl))
    quiet_step ((intro _; rfl))
    quiet_step ((intro _; rfl))
    quiet_step ((intro _; rfl))
    quiet_step ((intro _; rfl))
    quiet_step ((intro _; rfl))
    quiet_step ((intro _; rfl))
    quiet_step ((intro _; rfl))
    quiet_step ((intro _; rfl))
    refine wpQuiet_nil ?_
    intro w' hb'
    go_wp2
    go_ret
    exact ⟨rfl, hb'⟩
end Go.Proofs.Ytbhpghjdclehmaa
