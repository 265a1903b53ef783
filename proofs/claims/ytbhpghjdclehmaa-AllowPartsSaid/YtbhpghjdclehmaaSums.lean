/- The walks of what is drawn and what is left. -/
import Derived.Test.YtbhpghjdclehmaaDraws
import Derived.Test.YtbhpghjdclehmaaWalks
namespace Go.Proofs.Ytbhpghjdclehmaa
open Go.RowKit

/-- The sum of the first k draws. -/
def sumK (l : List Drw) : Nat → Int
  | 0 => 0
  | k + 1 => sumK l k + amt l k
def sumD (l : List Drw) : Int := sumK l l.length

theorem right_iff (l : List Drw) : right l = true ↔ (∀ j, j < l.length → okAt l j = true) ∧ l.length ≤ 4096 := by
  simp [right, okAll]
theorem okAt_amt {l : List Drw} {k : Nat} (h : okAt l k = true) : 1 ≤ amt l k ∧ amt l k ≤ 1099511627776 := by
  simp only [okAt, Bool.and_eq_true] at h
  simpa [wi] using h.1
theorem sumK_bd (l : List Drw) : ∀ k, (∀ j, j < k → okAt l j = true) → 0 ≤ sumK l k ∧ sumK l k ≤ 1099511627776 * k
  | 0, _ => by simp [sumK]
  | k + 1, h => by
    have h1 := sumK_bd l k (fun j hj => h j (by omega))
    have h2 := okAt_amt (h k (by omega))
    simp only [sumK]
    omega
theorem sumD_bd (l : List Drw) (h : right l = true) : 0 ≤ sumD l ∧ sumD l ≤ 4503599627370496 := by
  obtain ⟨h1, h2⟩ := (right_iff l).mp h
  have := sumK_bd l l.length h1
  unfold sumD
  omega

theorem sum_any (A : Option Addr) (c : Nat) (l : List Drw) (w : World) (h : right l = true) (hd : DS w A l) :
    Calls Try.prog 29 #[.slice A l.length c] w fun x w' => x = .returned (.int .i64 (sumD l)) ∧ Below w.heap.size w w' := by
  obtain ⟨hok, hl⟩ := (right_iff l).mp h
  rcases hd with rfl | ⟨b, off, rfl, hlt, hc⟩
  · go_enter Try.func29, Try.ntmps29
    go_wp2
    go_rounds 1
    all_goals (go_ret; exact ⟨rfl, Below.refl _ _⟩)
  · obtain ⟨n, hn⟩ : ∃ n, l.length = n := ⟨_, rfl⟩
    have hr : sumD l = sumK l n := by rw [← hn]; rfl
    rw [hr]
    rw [hn] at hl hc hok ⊢
    have HC := Lib.hid hc
    have HOK := Lib.hid hok
    clear hr hn hc h hok
    go_enter Try.func29, Try.ntmps29
    go_wp2
    go_loopw [3, 8] (fun t i wr => ∃ k : Nat, k ≤ n ∧ i = .int .i64 k ∧ t = .int .i64 (sumK l k) ∧ Below w.heap.size w wr) (fun _ i _ => n - (intOf i).toNat)
    case atStart => exact ⟨0, Nat.zero_le _, rfl, rfl, Below.refl _ _⟩
    case round =>
      obtain ⟨k, hk, rfl, rfl, hb⟩ := hrel
      have HB := Lib.hid hb
      have hsz := hb.size
      clear hb
      by_cases hlt2 : k < n
      · obtain ⟨h1, h2⟩ := HC.out k hlt2
        have c1 : wr.cell? ⟨b, off + k * 2, none⟩ = some (.int .i64 (day l k)) := (HB.out.cell (p := ⟨b, off + k * 2, none⟩) hlt).trans h1
        have c2 : wr.cell? ⟨b, off + k * 2 + 1, none⟩ = some (.int .i64 (amt l k)) := (HB.out.cell (p := ⟨b, off + k * 2 + 1, none⟩) hlt).trans h2
        clear h1 h2
        obtain ⟨s1, s2⟩ := sumK_bd l k (fun j hj => HOK.out j (by omega))
        obtain ⟨s3, s4⟩ := okAt_amt (HOK.out k hlt2)
        have hbl : Below w.heap.size w (wr.alloc (.cells #[.int .i64 (day l k), .int .i64 (amt l k)] 38)) := HB.out.alloc hsz _
        have HBL := Lib.hid hbl
        clear hbl
        go_wp2
        go_roundw
        case rel => exact ⟨k + 1, by omega, by go_num, rfl, HBL.out⟩
        case measure => simp [intOf]; omega
      · obtain rfl : k = n := by omega
        go_wp2
        go_ret
        exact ⟨rfl, HB.out⟩

theorem Drawn_yes (A : Option Addr) (c : Nat) (l : List Drw) (w : World) (h : right l = true) (hl : l.length ≤ maxLen) (hd : DS w A l) :
    Calls Try.prog 18 #[.slice A l.length c] w fun x w' => x = .returned (.tuple #[.int .i64 (sumD l), .bool true]) ∧ Below w.heap.size w w' := by
  have HH := Lib.hid h
  have HD := Lib.hid hd
  have HL := Lib.hid hl
  clear h hd hl
  go_enter Try.func18, Try.ntmps18
  go_wp2_with (first
    | (go_at_call 25; refine (right_any A c l _ HL.out HD.out).mono ?_; rw [HH.out]; rintro x w1 ⟨rfl, hb1⟩)
    | (go_at_call 29; refine (sum_any A c l _ HH.out (HD.out.keep hb1)).mono ?_; rintro x w2 ⟨rfl, hb2⟩))
  go_ret2
  exact ⟨rfl, bels hb1 hb2⟩

theorem Drawn_no (A : Option Addr) (c : Nat) (l : List Drw) (w : World) (h : right l = false) (hl : l.length ≤ maxLen) (hd : DS w A l) :
    Calls Try.prog 18 #[.slice A l.length c] w fun x w' => x = .returned (.tuple #[.int .i64 0, .bool false]) ∧ Below w.heap.size w w' := by
  have HH := Lib.hid h
  have HD := Lib.hid hd
  have HL := Lib.hid hl
  clear h hd hl
  go_enter Try.func18, Try.ntmps18
  go_wp2_with (first
    | (go_at_call 25; refine (right_any A c l _ HL.out HD.out).mono ?_; rw [HH.out]; rintro x w1 ⟨rfl, hb1⟩))
  go_ret2
  exact ⟨rfl, hb1⟩

theorem Left_yes (s a b e : Int) (p : Bool) (A : Option Addr) (c : Nat) (l : List Drw) (w : World) (hb : bnd s a b e = true) (h : right l = true) (hl : l.length ≤ maxLen) (hd : DS w A l) :
    Calls Try.prog 17 #[.agg (crd s a b e p), .slice A l.length c] w fun x w' => x = .returned (.tuple #[.int .i64 (max (most s a - sumD l) 0), .int .i64 0]) ∧ Below w.heap.size w w' := by
  obtain ⟨⟨hs, hs'⟩, ⟨ha, ha'⟩, _⟩ := (bnd_iff s a b e).mp hb
  obtain ⟨d1, d2⟩ := sumD_bd l h
  have m1 : 0 ≤ most s a ∧ most s a ≤ 2 * s := by
    have h3 := Int.mul_le_mul_of_nonneg_left (show 1000 + a ≤ 2000 by omega) (show 0 ≤ s by omega)
    have h4 := mul_ge s (1000 + a) (by omega) (by omega)
    unfold most
    omega
  obtain ⟨m1, m2⟩ := m1
  have HH := Lib.hid h
  have HB := Lib.hid hb
  have HD := Lib.hid hd
  have HL := Lib.hid hl
  clear h hd hl hb
  go_enter Try.func17, Try.ntmps17
  go_wp2_with (first
    | (refine wpList_load_row rfl 27 (.tmp 2) rfl w.heap.size rfl 27 (crd s a b e p) (0, 0) _ (by first | exact heap_alloc_new _ _ | assumption) Try.underlying27 rfl (crd_size ..) ?_)
    | (go_at_call 19; refine (bounds_any _ _ _ _ _ _).mono ?_; rw [HB.out]; rintro x w1 ⟨rfl, hb1⟩; have hg1 := hgr (heap_alloc_new w (.cells (crd s a b e p) 27)) hb1)
    | (go_at_call 25; refine (right_any A c l _ HL.out ((HD.out.keep (below_new _ _)).keep hb1)).mono ?_; rw [HH.out]; rintro x w2 ⟨rfl, hb2⟩; have hg2 := hgr hg1 hb2)
    | (go_at_call 20; refine (most_any _ _ _ _ _ _ hs hs' ha ha').mono ?_; rintro x w3 ⟨rfl, hb3⟩)
    | (go_at_call 29; refine (sum_any A c l _ HH.out ((((HD.out.keep (below_new _ _)).keep hb1).keep hb2).keep hb3)).mono ?_; rintro x w4 ⟨rfl, hb4⟩))
  all_goals (go_ret2; exact ⟨ret_ii (by omega) rfl, bels (bels (bels (bels (below_new _ _) hb1) hb2) hb3) hb4⟩)
end Go.Proofs.Ytbhpghjdclehmaa
