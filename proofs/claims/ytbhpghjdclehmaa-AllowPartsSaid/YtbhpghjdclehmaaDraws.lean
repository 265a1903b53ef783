/- Draws: how a slice of them reads, and the walks of what is drawn (of the program). -/
import Derived.Test.YtbhpghjdclehmaaCred
import Derived.LoopTactic
import Derived.Deep.QuietTactic
import Derived.BigQuiet
namespace Go.Proofs.Ytbhpghjdclehmaa
open Go.RowKit

theorem within_q (n l m : Int) (w : World) :
    Calls Try.prog 22 #[.int .i64 n, .int .i64 l, .int .i64 m] w fun e w' => e = .returned (.bool (wi n l m)) ∧ w' = w :=
  (within_any n l m w).mono fun _ _ ⟨h, h'⟩ => ⟨h, h'.symm⟩

/-- A draw: its day, its amount. -/
abbrev Drw := Int × Int
def day (l : List Drw) (k : Nat) : Int := (l.getD k (0, 0)).1
def amt (l : List Drw) (k : Nat) : Int := (l.getD k (0, 0)).2

theorem bdN {B : Nat} {a w : World} (h : Below B a w) (n : Nat) : Below B a (w.drewN n) := h.trans ⟨rfl, rfl, rfl, Nat.le_refl _, fun _ _ => rfl⟩

/-- A slice at A reads as the draws l. -/
def DS (w : World) (A : Option Addr) (l : List Drw) : Prop :=
  l = [] ∨ ∃ b off, A = some ⟨b, off, none⟩ ∧ b < w.heap.size ∧ ∀ k, k < l.length → w.cell? ⟨b, off + k * 2, none⟩ = some (.int .i64 (day l k)) ∧ w.cell? ⟨b, off + k * 2 + 1, none⟩ = some (.int .i64 (amt l k))

theorem DS.keep {w w' : World} {A : Option Addr} {l : List Drw} (h : DS w A l) (hb : Below w.heap.size w w') : DS w' A l := by
  rcases h with h | ⟨b, off, hA, hlt, h⟩
  · exact Or.inl h
  · refine Or.inr ⟨b, off, hA, Nat.lt_of_lt_of_le hlt hb.size, fun k hk => ?_⟩
    rw [hb.cell (p := ⟨b, off + k * 2, none⟩) hlt, hb.cell (p := ⟨b, off + k * 2 + 1, none⟩) hlt]
    exact h k hk

/-- May the draw at k be, behind the one ahead? -/
def okAt (l : List Drw) (k : Nat) : Bool := wi (amt l k) 1 1099511627776 && (wi (day l k) 0 1048576 && (decide (k = 0) || decide (day l (k - 1) ≤ day l k)))
def okAll (l : List Drw) : Bool := (List.range l.length).all (okAt l)
def right (l : List Drw) : Bool := okAll l && decide (l.length ≤ 4096)

theorem okAll_iff (l : List Drw) : okAll l = true ↔ ∀ j, j < l.length → okAt l j = true := by simp [okAll]
theorem okAll_no (l : List Drw) (k : Nat) (hk : k < l.length) (h : okAt l k = false) : okAll l = false := by
  rw [← Bool.not_eq_true, okAll_iff]
  intro g
  rw [g k hk] at h
  cases h

theorem right_any (A : Option Addr) (c : Nat) (l : List Drw) (w : World) (hl : l.length ≤ maxLen) (hd : DS w A l) :
    Calls Try.prog 25 #[.slice A l.length c] w fun x w' => x = .returned (.bool (right l)) ∧ Below w.heap.size w w' := by
  unfold maxLen at hl
  rcases hd with rfl | ⟨b, off, rfl, hlt, hc⟩
  · go_enter Try.func25, Try.ntmps25
    go_wp2
    go_rounds 1
    all_goals (go_ret; exact ⟨rfl, Below.refl _ _⟩)
  · obtain ⟨n, hn⟩ : ∃ n, l.length = n := ⟨_, rfl⟩
    have hr : right l = (okAll l && decide (n ≤ 4096)) := by rw [← hn]; rfl
    rw [hr]
    rw [hn] at hl hc ⊢
    have HN := Lib.hid hn
    have HC := Lib.hid hc
    clear hr hn hc
    go_enter Try.func25, Try.ntmps25
    go_wp2
    go_loopw [7] (fun i wr => ∃ k : Nat, k ≤ n ∧ i = .int .i64 k ∧ (∀ j, j < k → okAt l j = true) ∧ Below w.heap.size w wr) (fun i _ => n - (intOf i).toNat)
    case atStart => exact ⟨0, Nat.zero_le _, rfl, fun _ h => by omega, Below.refl _ _⟩
    case round =>
      obtain ⟨k, hk, rfl, hok, hb⟩ := hrel
      have HOK := Lib.hid hok
      have HB := Lib.hid hb
      have hsz := hb.size
      clear hok hb
      by_cases hlt2 : k < n
      · obtain ⟨h1, h2⟩ := HC.out k hlt2
        have c1 : wr.cell? ⟨b, off + k * 2, none⟩ = some (.int .i64 (day l k)) := (HB.out.cell (p := ⟨b, off + k * 2, none⟩) hlt).trans h1
        have c2 : wr.cell? ⟨b, off + k * 2 + 1, none⟩ = some (.int .i64 (amt l k)) := (HB.out.cell (p := ⟨b, off + k * 2 + 1, none⟩) hlt).trans h2
        clear h1 h2
        have hbl : Below w.heap.size w (wr.alloc (.cells #[.int .i64 (day l k), .int .i64 (amt l k)] 38)) := HB.out.alloc hsz _
        have HBL := Lib.hid hbl
        clear hbl
        cases a1 : wi (amt l k) 1 1099511627776
        · have HBAD := Lib.hid (okAll_no l k (by rw [HN.out]; exact hlt2) (by simp [okAt, a1]))
          go_wp2
          go_quiet ((go_at_call 22; exact Calls.quiet_of_same (within_q _ _ _ _)))
          go_wp2
          go_ret
          exact ⟨ret_b (by rw [HBAD.out]; rfl), bdN HBL.out _⟩
        · cases a2 : wi (day l k) 0 1048576
          · have HBAD := Lib.hid (okAll_no l k (by rw [HN.out]; exact hlt2) (by simp [okAt, a1, a2]))
            go_wp2
            go_quiet ((go_at_call 22; exact Calls.quiet_of_same (within_q _ _ _ _)))
            go_wp2
            go_ret
            exact ⟨ret_b (by rw [HBAD.out]; rfl), bdN HBL.out _⟩
          · by_cases h0 : k = 0
            · have HOK1 := Lib.hid (show okAt l k = true by rw [okAt, a1, a2, h0]; rfl)
              have hk0 : decide (0 < k) = false := by simp; omega
              have H0 := Lib.hid h0
              clear h0
              go_wp2
              go_quiet ((go_at_call 22; exact Calls.quiet_of_same (within_q _ _ _ _)))
              go_wp2
              go_roundw
              case rel => exact ⟨k + 1, by omega, by go_num, fun j hj => by
                have := H0.out
                obtain rfl : j = k := by omega
                exact HOK1.out, bdN HBL.out _⟩
              case measure => simp [intOf]; omega
            · obtain ⟨h1, -⟩ := HC.out (k - 1) (by omega)
              have c3 : wr.cell? ⟨b, off + (k - 1) * 2, none⟩ = some (.int .i64 (day l (k - 1))) := (HB.out.cell (p := ⟨b, off + (k - 1) * 2, none⟩) hlt).trans h1
              clear h1
              have hk0 : decide (0 < k) = true := by simp; omega
              have hbw : b < wr.heap.size := Nat.lt_of_lt_of_le hlt hsz
              have hk1 : (1 : Int) ≤ k := by omega
              have hk2 : (0 : Int) ≤ (k : Int) - 1 := by omega
              have hk3 : ((k : Int) - 1) < n := by omega
              have H0 := Lib.hid h0
              clear h0
              by_cases hd : day l k < day l (k - 1)
              · have HBAD := Lib.hid (okAll_no l k (by rw [HN.out]; exact hlt2) (by simp [okAt, a1, a2]; have := H0.out; omega))
                go_wp2
                have e1 : IntKind.i64.wrap ((k : Int) - 1) = (k : Int) - 1 := IntWalk.i64_in _ (by omega)
                have e2 : ((k : Int) - 1).toNat = k - 1 := by omega
                go_quiet ((go_at_call 22; exact Calls.quiet_of_same (within_q _ _ _ _)))
                go_wp2
                go_ret
                exact ⟨ret_b (by rw [HBAD.out]; rfl), bdN HBL.out _⟩
              · have HOK1 := Lib.hid (show okAt l k = true by simp [okAt, a1, a2]; omega)
                have hd' : decide (day l k < day l (k - 1)) = false := by simpa using hd
                go_wp2
                have e1 : IntKind.i64.wrap ((k : Int) - 1) = (k : Int) - 1 := IntWalk.i64_in _ (by omega)
                have e2 : ((k : Int) - 1).toNat = k - 1 := by omega
                go_quiet ((go_at_call 22; exact Calls.quiet_of_same (within_q _ _ _ _)))
                clear e1 e2
                go_wp2
                go_roundw
                case rel => exact ⟨k + 1, by omega, by go_num, fun j hj => by
                  by_cases hjk : j = k
                  · subst hjk; exact HOK1.out
                  · exact HOK.out j (by omega), bdN HBL.out _⟩
                case measure => simp [intOf]; omega
      · obtain rfl : k = n := by omega
        have HA := Lib.hid ((okAll_iff l).mpr (by rw [HN.out]; exact HOK.out))
        go_wp2
        go_ret
        exact ⟨ret_b (by rw [HA.out]; simp; omega), HB.out⟩
end Go.Proofs.Ytbhpghjdclehmaa
