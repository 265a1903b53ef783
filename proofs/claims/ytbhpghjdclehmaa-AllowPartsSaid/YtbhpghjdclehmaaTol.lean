/- The tolerance: the walks of Within, of the program and of the reference. -/
import Derived.Test.YtbhpghjdclehmaaCred
namespace Go.Proofs.Ytbhpghjdclehmaa
open Go.RowKit

/-- Does n lie within the tolerance? -/
def win (n o a b : Int) : Bool :=
  decide (0 ≤ n) && (wi o 0 1099511627776 && (wi a 0 1000 && (wi b 0 1000 && (decide (o * (1000 - b) ≤ 1000 * n) && decide (1000 * n ≤ o * (1000 + a))))))

theorem wi_iff (n l m : Int) : wi n l m = true ↔ l ≤ n ∧ n ≤ m := by simp [wi]
theorem wi_not (n l m : Int) : wi n l m = false ↔ ¬ (l ≤ n ∧ n ≤ m) := by rw [← Bool.not_eq_true, wi_iff]
theorem win_iff (n o a b : Int) : win n o a b = true ↔ 0 ≤ n ∧ (0 ≤ o ∧ o ≤ 1099511627776) ∧ (0 ≤ a ∧ a ≤ 1000) ∧ (0 ≤ b ∧ b ≤ 1000) ∧ o * (1000 - b) ≤ 1000 * n ∧ 1000 * n ≤ o * (1000 + a) := by
  simp [win, wi_iff]
theorem win_no (n o a b : Int) (h : ¬ (0 ≤ n ∧ (0 ≤ o ∧ o ≤ 1099511627776) ∧ (0 ≤ a ∧ a ≤ 1000) ∧ (0 ≤ b ∧ b ≤ 1000))) : win n o a b = false := by
  rw [← Bool.not_eq_true, win_iff]
  exact fun ⟨h1, h2, h3, h4, _⟩ => h ⟨h1, h2, h3, h4⟩
theorem win_in (n o a b : Int) (h : 0 ≤ n ∧ (0 ≤ o ∧ o ≤ 1099511627776) ∧ (0 ≤ a ∧ a ≤ 1000) ∧ (0 ≤ b ∧ b ≤ 1000)) : win n o a b = wi (1000 * n) (o * (1000 - b)) (o * (1000 + a)) := by
  rw [Bool.eq_iff_iff, win_iff, wi_iff]
  exact ⟨fun ⟨_, _, _, _, h⟩ => h, fun k => ⟨h.1, h.2.1, h.2.2.1, h.2.2.2, k⟩⟩
theorem mul_le2 (o a : Int) (ho : 0 ≤ o) (ha : a ≤ 1000) : o * (1000 + a) ≤ o * 2000 := Int.mul_le_mul_of_nonneg_left (by omega) ho

theorem Within_any (n o a b : Int) (w : World) :
    Calls Try.prog 14 #[.int .i64 n, .int .i64 o, .int .i64 a, .int .i64 b] w fun x w' => x = .returned (.bool (win n o a b)) ∧ w = w' := by
  by_cases h : 0 ≤ n ∧ (0 ≤ o ∧ o ≤ 1099511627776) ∧ (0 ≤ a ∧ a ≤ 1000) ∧ 0 ≤ b ∧ b ≤ 1000
  · have hw := win_in n o a b h
    obtain ⟨hn, ⟨ho, ho'⟩, ⟨ha, ha'⟩, hb, hb'⟩ := h
    have h1 := mul_ge o (1000 + a) (by omega) (by omega)
    have h2 := mul_le o (1000 + a) ho' (by omega) (by omega)
    have h3 := mul_ge o (1000 - b) (by omega) (by omega)
    have h4 := mul_le o (1000 - b) ho' (by omega) (by omega)
    have h5 := mul_le2 o a ho ha'
    have wo : wi o 0 1099511627776 = true := by simp [wi, ho, ho']
    have wa : wi a 0 1000 = true := by simp [wi, ha, ha']
    have wb : wi b 0 1000 = true := by simp [wi, hb, hb']
    rw [hw]
    clear hw
    go_enter Try.func14, Try.ntmps14
    go_wp2_with (first | (go_at_call 22; refine (within_any _ _ _ _).mono ?_; rintro x w' ⟨rfl, rfl⟩))
    · go_ret
      exact ⟨rfl, rfl⟩
    · go_ret
      exact ⟨ret_b ((wi_not _ _ _).mpr (by omega)).symm, rfl⟩
  · rw [win_no n o a b h]
    by_cases hn : 0 ≤ n
    · have hn' : decide (n < 0) = false := by simp; omega
      cases wo : wi o 0 1099511627776
      · go_enter Try.func14, Try.ntmps14
        go_wp2_with (first | (go_at_call 22; refine (within_any _ _ _ _).mono ?_; rintro x w' ⟨rfl, rfl⟩))
        all_goals (go_ret; exact ⟨rfl, rfl⟩)
      · cases wa : wi a 0 1000
        · go_enter Try.func14, Try.ntmps14
          go_wp2_with (first | (go_at_call 22; refine (within_any _ _ _ _).mono ?_; rintro x w' ⟨rfl, rfl⟩))
          all_goals (go_ret; exact ⟨rfl, rfl⟩)
        · have wb : wi b 0 1000 = false := by
            rw [wi_iff] at wo wa
            rw [wi_not]
            omega
          go_enter Try.func14, Try.ntmps14
          go_wp2_with (first | (go_at_call 22; refine (within_any _ _ _ _).mono ?_; rintro x w' ⟨rfl, rfl⟩))
          all_goals (go_ret; exact ⟨rfl, rfl⟩)
    · have hn' : decide (n < 0) = true := by simp; omega
      go_enter Try.func14, Try.ntmps14
      go_wp2_with (first | (go_at_call 22; refine (within_any _ _ _ _).mono ?_; rintro x w' ⟨rfl, rfl⟩))
      all_goals (go_ret; exact ⟨rfl, rfl⟩)

theorem refWithin_any (n o a b : Int) (w : World) :
    Calls Try.prog 15 #[.int .i64 n, .int .i64 o, .int .i64 a, .int .i64 b] w fun x w' => x = .returned (.bool (win n o a b)) ∧ w = w' := by
  by_cases h : 0 ≤ n ∧ (0 ≤ o ∧ o ≤ 1099511627776) ∧ (0 ≤ a ∧ a ≤ 1000) ∧ 0 ≤ b ∧ b ≤ 1000
  · have hw := win_in n o a b h
    obtain ⟨hn, ⟨ho, ho'⟩, ⟨ha, ha'⟩, hb, hb'⟩ := h
    have h1 := mul_ge o (1000 + a) (by omega) (by omega)
    have h2 := mul_le o (1000 + a) ho' (by omega) (by omega)
    have h3 := mul_ge o (1000 - b) (by omega) (by omega)
    have h4 := mul_le o (1000 - b) ho' (by omega) (by omega)
    have h5 := mul_le2 o a ho ha'
    rw [hw]
    clear hw
    go_enter Try.func15, Try.ntmps15
    go_wp2
    · go_ret
      exact ⟨ret_b ((wi_not _ _ _).mpr (by omega)).symm, rfl⟩
    · have hl : o * (1000 - b) ≤ 1000 * n := by assumption
      go_ret
      exact ⟨ret_b (wi_tt hl).symm, rfl⟩
    · go_ret
      exact ⟨ret_b ((wi_not _ _ _).mpr (by omega)).symm, rfl⟩
  · rw [win_no n o a b h]
    go_enter Try.func15, Try.ntmps15
    go_wp2
    all_goals first | (go_ret; exact ⟨rfl, rfl⟩) | skip
    all_goals omega

/-- A number lies within a sum's tolerance just if it isn't below the least, nor above the most. -/
theorem win_bounds (n o a b e : Int) (h : bnd o a b e = true) : win n o a b = (decide (n ≥ least o b) && decide (n ≤ most o a)) := by
  obtain ⟨⟨hs, hs'⟩, ⟨ha, ha'⟩, ⟨hb, hb'⟩, _⟩ := (bnd_iff o a b e).mp h
  have h1 := mul_ge o (1000 + a) (by omega) (by omega)
  have h3 := mul_ge o (1000 - b) (by omega) (by omega)
  rw [Bool.eq_iff_iff, win_iff]
  rw [Bool.and_eq_true, decide_eq_true_eq, decide_eq_true_eq]
  unfold least most
  omega
theorem win_self (o a b e : Int) (h : bnd o a b e = true) : win o o a b = true := by
  obtain ⟨⟨hs, hs'⟩, ⟨ha, ha'⟩, ⟨hb, hb'⟩, _⟩ := (bnd_iff o a b e).mp h
  rw [win_iff]
  refine ⟨by omega, ⟨by omega, by omega⟩, ⟨ha, ha'⟩, ⟨hb, hb'⟩, ?_, ?_⟩
  · have := Int.mul_le_mul_of_nonneg_left (show 1000 - b ≤ 1000 by omega) (show 0 ≤ o by omega); omega
  · have := Int.mul_le_mul_of_nonneg_left (show 1000 ≤ 1000 + a by omega) (show 0 ≤ o by omega); omega
theorem least_le (o b : Int) (hs : 1 ≤ o) (hb : 0 ≤ b) (hb' : b ≤ 1000) : least o b ≤ o ∧ 0 ≤ least o b := by
  have h3 := mul_ge o (1000 - b) (by omega) (by omega)
  have := Int.mul_le_mul_of_nonneg_left (show 1000 - b ≤ 1000 by omega) (show 0 ≤ o by omega)
  unfold least
  omega
theorem most_ge (o a : Int) (hs : 1 ≤ o) (ha : 0 ≤ a) (ha' : a ≤ 1000) : o ≤ most o a ∧ most o a ≤ 2 * o := by
  have h3 := mul_le2 o a (by omega) ha'
  have := Int.mul_le_mul_of_nonneg_left (show 1000 ≤ 1000 + a by omega) (show 0 ≤ o by omega)
  unfold most
  omega
end Go.Proofs.Ytbhpghjdclehmaa
