/- Names and currencies: texts of letters alone. -/
import Derived.Test.YtpkiiegadckloaaDoorKl
import Derived.Lib.OthersKept
import Derived.Lib.TrimU
import Derived.Deep.LoopGhost
import Derived.Shelf.Abstract
set_option linter.unusedSimpArgs false
namespace Go.Proofs.YtpkiiegadckloaaDoor
open Go.RowKit

def goodN (r : Nat) : Prop := (97 ≤ r ∧ r ≤ 122) ∨ (48 ≤ r ∧ r ≤ 57) ∨ r = 45 ∨ r = 58
def goodC (r : Nat) : Prop := 65 ≤ r ∧ r ≤ 90
instance (r : Nat) : Decidable (goodN r) := by unfold goodN; exact inferInstance
instance (r : Nat) : Decidable (goodC r) := by unfold goodC; exact inferInstance

theorem oddN_any (r : Nat) (h : goodN r) (w : World) : Calls Tryd.prog 47 #[.int .i32 r] w fun e w' => e = .returned (.bool false) ∧ w = w' := by
  unfold goodN at h
  by_cases h1 : (r : Int) < 97
  · by_cases h2 : (r : Int) < 48
    · by_cases h3 : (r : Int) = 45
      · go_enter Tryd.func47, Tryd.ntmps47
        go_wp2
        all_goals (go_ret; exact ⟨rfl, rfl⟩)
      · exfalso; omega
    · by_cases h4 : 57 < (r : Int)
      · by_cases h3 : (r : Int) = 58
        · go_enter Tryd.func47, Tryd.ntmps47
          go_wp2
          all_goals (go_ret; exact ⟨rfl, rfl⟩)
        · exfalso; omega
      · go_enter Tryd.func47, Tryd.ntmps47
        go_wp2
        all_goals (go_ret; exact ⟨rfl, rfl⟩)
  · have h2 : ¬ 122 < (r : Int) := by omega
    go_enter Tryd.func47, Tryd.ntmps47
    go_wp2
    all_goals (go_ret; exact ⟨rfl, rfl⟩)

theorem oddC_any (r : Nat) (h : goodC r) (w : World) : Calls Tryd.prog 49 #[.int .i32 r] w fun e w' => e = .returned (.bool false) ∧ w = w' := by
  unfold goodC at h
  have h1 : ¬ (r : Int) < 65 := by omega
  have h2 : ¬ 90 < (r : Int) := by omega
  go_enter Tryd.func49, Tryd.ntmps49
  go_wp2
  all_goals (go_ret; exact ⟨rfl, rfl⟩)

/-- A text of such letters alone. -/
def allB (good : Nat → Prop) (s : ByteArray) : Prop := ∀ (j : Nat) (h : j < s.size), (s[j]'h).toNat < 128 ∧ good (s[j]'h).toNat

theorem idx_fn (g : Nat) (eg : ∀ args w, (callFunc g args).run Tryd.prog w = .ok (.enter g args) w) (good : Nat → Prop) (hp : ∀ (r : Nat), good r → ∀ w, Calls Tryd.prog g #[.int .i32 r] w fun e w' => e = .returned (.bool false) ∧ w = w')
    (s : ByteArray) (hs : allB good s) (w : World) : Calls Tryd.prog 59 #[.string s, .func (.func g) #[] #[], .bool true] w fun e w' => e = .returned (.int .i64 (-1)) ∧ Below w.heap.size w w' := by
  go_enter Tryd.func59, Tryd.ntmps59
  go_wp2
  go_loopg [] s.size (fun gf wx => ∃ pos : Nat, wx.heap[w.heap.size]? = some (.stringIter s pos) ∧ Below w.heap.size w wx ∧ s.size ≤ pos + gf)
  case atStart => exact ⟨0, World.iter_heap w s 0, (Below.refl _ w).alloc (Nat.le_refl _) _, by omega⟩
  case round =>
    obtain ⟨pos, hit, hbw, hfu⟩ := hrel
    by_cases hps : pos < s.size
    · obtain ⟨g', rfl⟩ : ∃ g', gk = g' + 1 := ⟨gk - 1, by omega⟩
      have hnx : ∀ ty, (Instr.next (.pointer (some ⟨w.heap.size, 0, none⟩)) true ty).run Tryd.prog wr = _ := fun ty => Lib.run_next_ascii_at wr w.heap.size s pos ty hit hps (hs pos hps).1
      obtain ⟨R, hR⟩ : ∃ R, (s[pos]'hps).toNat = R := ⟨_, rfl⟩
      rw [hR] at hnx
      have hit2 := Lib.iterAt_heap wr w.heap.size s pos (pos + 1) hit
      have hbw2 := Lib.below_iterAt hbw (k := w.heap.size) (Nat.le_refl _) s (pos + 1)
      obtain ⟨W, hWd⟩ : ∃ W, wr.iterAt w.heap.size s (pos + 1) = W := ⟨_, rfl⟩
      rw [hWd] at hnx hit2 hbw2
      have cS : ∀ w, Calls Tryd.prog g (#[.int .i32 (R : Int)]) w _ := hp R (hR ▸ (hs pos hps).2)
      clear hp
      go_wp2_with (go_at_fn g; refine (cS _).mono ?_; rintro e W' ⟨rfl, rfl⟩)
      go_roundg g'
      case measure => omega
      case rel => exact ⟨pos + 1, hit2, hbw2, by omega⟩
    · have hnx : ∀ ty, (Instr.next (.pointer (some ⟨w.heap.size, 0, none⟩)) true ty).run Tryd.prog wr = _ := fun ty => Lib.run_next_end_at wr w.heap.size s pos ty hit hps
      go_wp2
      go_ret
      exact ⟨rfl, hbw⟩

theorem Idx_fn (g : Nat) (eg : ∀ args w, (callFunc g args).run Tryd.prog w = .ok (.enter g args) w) (good : Nat → Prop) (hp : ∀ (r : Nat), good r → ∀ w, Calls Tryd.prog g #[.int .i32 r] w fun e w' => e = .returned (.bool false) ∧ w = w')
    (s : ByteArray) (hs : allB good s) (w : World) : Calls Tryd.prog 48 #[.string s, .func (.func g) #[] #[]] w fun e w' => e = .returned (.int .i64 (-1)) ∧ Below w.heap.size w w' := by
  go_enter Tryd.func48, Tryd.ntmps48
  go_wp2_with (go_at_call 59; refine (idx_fn g eg good hp s hs _).mono ?_; rintro x w1 ⟨rfl, hb1⟩)
  go_ret
  exact ⟨rfl, hb1⟩

theorem name_any (s : ByteArray) (hs : allB goodN s) (h1 : 1 ≤ s.size) (h2 : s.size ≤ 32) (w : World) : Calls Tryd.prog 29 #[.string s] w fun e w' => e = .returned (.bool true) ∧ Below w.heap.size w w' := by
  have h1' : (1 : Int) ≤ s.size := by omega
  have h2' : (s.size : Int) ≤ 32 := by omega
  clear h1 h2
  have HS := Lib.hid hs
  clear hs
  go_enter Tryd.func29, Tryd.ntmps29
  go_wp2_with (go_at_call 48; refine (Idx_fn 47 (enters_of Tryd.func47 (by kernel_rfl) rfl) goodN oddN_any s HS.out _).mono ?_; rintro x w1 ⟨rfl, hb1⟩)
  all_goals (go_ret; exact ⟨rfl, hb1⟩)

theorem currency_any (s : ByteArray) (hs : allB goodC s) (h1 : s.size = 3) (w : World) : Calls Tryd.prog 30 #[.string s] w fun e w' => e = .returned (.bool true) ∧ Below w.heap.size w w' := by
  have h1' : (s.size : Int) = 3 := by omega
  clear h1
  have HS := Lib.hid hs
  clear hs
  go_enter Tryd.func30, Tryd.ntmps30
  go_wp2_with (go_at_call 48; refine (Idx_fn 49 (enters_of Tryd.func49 (by kernel_rfl) rfl) goodC oddC_any s HS.out _).mono ?_; rintro x w1 ⟨rfl, hb1⟩)
  all_goals (go_ret; exact ⟨rfl, hb1⟩)
end Go.Proofs.YtpkiiegadckloaaDoor
