/- Contracts of the functions on a credit's bounds (layer 30), of the program and of the reference. -/
import Derived.Test.YtbhpghjdclehmaaChecked
import Derived.WalkKit
import Derived.Handy
import Derived.Laws.Rows
import Derived.Lib.Hide
import Derived.Outline
namespace Go.Proofs.Ytbhpghjdclehmaa
open Go.RowKit

/-- The law wpList_load_row of the library, at an operation that stands under a guard which is met. -/
theorem wpList_load_rowG {P : Program} {ops : Array Oper} {rest : List Oper} {o : Oper} {a : Act} {w : World} {Q : Exit → Act → World → Prop} (hgd : Region.wanted o (yielded ops a.tmps) = true) (ty : TypeId) (x : Operand) (ho : o.op = .load ty x)
    (g : Nat) (hx : a.eval x = .pointer (some ⟨g, 0, none⟩)) (t : TypeId) (cs : Array Value) (fr : Nat × Nat) (d : TypeDesc) (hg : w.heap[g]? = some (.cells cs t fr))
    (hu : P.underlying ty = some d) (hd : (match d with | .struct _ | .array _ _ => true | _ => false) = true) (hi : (P.info? ty).map (·.size) = some cs.size)
    (h : wpList P ops Q rest (a.put o.dst (.agg cs)) w) : wpList P ops Q (o :: rest) a w :=
  wpList_step fun _ hK => by rw [if_pos hgd]; exact wp_load_row ty x ho g hx t cs fr d hg hu hd hi (hK _ _ h)

/-- A credit of these bounds, its other fields empty. -/
def crd (s a b e : Int) (p : Bool) : Array Value :=
  #[.string ⟨#[]⟩, .string ⟨#[]⟩, .string ⟨#[]⟩, .string ⟨#[]⟩, .string ⟨#[]⟩, .string ⟨#[]⟩, .string ⟨#[]⟩, .string ⟨#[]⟩, .int .i64 s, .int .i64 a, .int .i64 b, .int .i64 0, .int .i64 e, .int .i64 0, .int .i64 0, .bool p, .bool false, .slice none 0 0]

/-- Does n lie from l to m? -/
def wi (n l m : Int) : Bool := decide (l ≤ n) && decide (n ≤ m)
theorem wi_ff {n l m : Int} (h : ¬ l ≤ n) : wi n l m = false := by simp [wi, h]
theorem wi_tt {n l m : Int} (h : l ≤ n) : wi n l m = decide (n ≤ m) := by simp [wi, h]

theorem within_any (n l m : Int) (w : World) :
    Calls Try.prog 22 #[.int .i64 n, .int .i64 l, .int .i64 m] w fun e w' => e = .returned (.bool (wi n l m)) ∧ w = w' := by
  by_cases h : l ≤ n
  · rw [wi_tt h]
    have h1 : decide (l ≤ n) = true := by simpa using h
    go_enter Try.func22, Try.ntmps22
    go_wp2
    go_ret
    exact ⟨rfl, rfl⟩
  · rw [wi_ff h]
    have h1 : decide (l ≤ n) = false := by simpa using h
    go_enter Try.func22, Try.ntmps22
    go_wp2
    go_ret
    exact ⟨rfl, rfl⟩

/-- May a credit's bounds be? -/
def bnd (s a b e : Int) : Bool := wi s 1 1099511627776 && (wi a 0 1000 && (wi b 0 1000 && wi e 0 1048576))

theorem ret_b {a b : Bool} (h : a = b) : Ending.returned (.bool a) = .returned (.bool b) := by rw [h]
theorem ret_i {k : IntKind} {a b : Int} (h : a = b) : Ending.returned (.int k a) = .returned (.int k b) := by rw [h]
theorem ret_ii {k l : IntKind} {a b c d : Int} (h : a = b) (h' : c = d) : Ending.returned (.tuple #[.int k a, .int l c]) = .returned (.tuple #[.int k b, .int l d]) := by rw [h, h']
theorem below_new (w : World) (o : Obj) : Below w.heap.size w (w.alloc o) := (Below.refl _ _).alloc (Nat.le_refl _) _

section
variable (s a b e : Int) (p : Bool)
theorem crd8 : (crd s a b e p)[8]? = some (.int .i64 s) := rfl
theorem crd9 : (crd s a b e p)[9]? = some (.int .i64 a) := rfl
theorem crd10 : (crd s a b e p)[10]? = some (.int .i64 b) := rfl
theorem crd12 : (crd s a b e p)[12]? = some (.int .i64 e) := rfl
theorem crd15 : (crd s a b e p)[15]? = some (.bool p) := rfl
theorem crd_size : (Try.prog.info? 27).map (·.size) = some (crd s a b e p).size := by kernel_rfl
end
attribute [local go_sem] crd8 crd9 crd10 crd12 crd15

theorem bounds_any (s a b e : Int) (p : Bool) (w : World) :
    Calls Try.prog 19 #[.agg (crd s a b e p)] w fun x w' => x = .returned (.bool (bnd s a b e)) ∧ Below w.heap.size w w' := by
  go_enter Try.func19, Try.ntmps19
  go_wp2_with (first | (go_at_call 22; refine (within_any _ _ _ _).mono ?_; rintro x w' ⟨rfl, rfl⟩))
  all_goals (go_ret; exact ⟨ret_b (by simp_all [bnd]), below_new _ _⟩)

/-- The reference's. -/
theorem Bounds_any (s a b e : Int) (p : Bool) (w : World) :
    Calls Try.prog 11 #[.agg (crd s a b e p)] w fun x w' => x = .returned (.bool (bnd s a b e)) ∧ Below w.heap.size w w' := by
  go_enter Try.func11, Try.ntmps11
  go_wp2
  all_goals (go_ret; exact ⟨ret_b (by first | (simp_all [bnd, wi]; done) | (simp_all [bnd, wi]; omega)), below_new _ _⟩)

/-- The most, the least, where the bounds may be. -/
def most (s a : Int) : Int := s * (1000 + a) / 1000
def least (s b : Int) : Int := (s * (1000 - b) + 999) / 1000

theorem bnd_iff (s a b e : Int) : bnd s a b e = true ↔ (1 ≤ s ∧ s ≤ 1099511627776) ∧ (0 ≤ a ∧ a ≤ 1000) ∧ (0 ≤ b ∧ b ≤ 1000) ∧ 0 ≤ e ∧ e ≤ 1048576 := by
  simp [bnd, wi]

theorem mul_ge (s c : Int) (h : 0 ≤ s) (h' : 0 ≤ c) : 0 ≤ s * c := Int.mul_nonneg h h'
theorem mul_le (s c : Int) (hs : s ≤ 1099511627776) (h' : 0 ≤ c) (hc : c ≤ 2000) : s * c ≤ 2199023255552000 :=
  Int.le_trans (Int.mul_le_mul hs hc h' (by omega)) (by omega)

theorem most_any (s a b e : Int) (p : Bool) (w : World) (hs : 1 ≤ s) (hs' : s ≤ 1099511627776) (ha : 0 ≤ a) (ha' : a ≤ 1000) :
    Calls Try.prog 20 #[.agg (crd s a b e p)] w fun x w' => x = .returned (.int .i64 (most s a)) ∧ Below w.heap.size w w' := by
  have h1 := mul_ge s (1000 + a) (by omega) (by omega)
  have h2 := mul_le s (1000 + a) hs' (by omega) (by omega)
  go_enter Try.func20, Try.ntmps20
  go_wp2
  all_goals (go_ret; exact ⟨ret_i (by simp [most]), below_new _ _⟩)

theorem least_any (s a b e : Int) (p : Bool) (w : World) (hs : 1 ≤ s) (hs' : s ≤ 1099511627776) (hb : 0 ≤ b) (hb' : b ≤ 1000) :
    Calls Try.prog 21 #[.agg (crd s a b e p)] w fun x w' => x = .returned (.int .i64 (least s b)) ∧ Below w.heap.size w w' := by
  have h1 := mul_ge s (1000 - b) (by omega) (by omega)
  have h2 := mul_le s (1000 - b) hs' (by omega) (by omega)
  go_enter Try.func21, Try.ntmps21
  go_wp2
  all_goals (go_ret; exact ⟨ret_i (by simp [least]; congr 1; omega), below_new _ _⟩)

theorem refMost_any (s a b e : Int) (p : Bool) (w : World) (hs : 1 ≤ s) (hs' : s ≤ 1099511627776) (ha : 0 ≤ a) (ha' : a ≤ 1000) :
    Calls Try.prog 12 #[.agg (crd s a b e p)] w fun x w' => x = .returned (.int .i64 (most s a)) ∧ Below w.heap.size w w' := by
  have h1 := mul_ge s (1000 + a) (by omega) (by omega)
  have h2 := mul_le s (1000 + a) hs' (by omega) (by omega)
  go_enter Try.func12, Try.ntmps12
  go_wp2
  all_goals (go_ret; exact ⟨ret_i (by simp [most]), below_new _ _⟩)

theorem refLeast_any (s a b e : Int) (p : Bool) (w : World) (hs : 1 ≤ s) (hs' : s ≤ 1099511627776) (hb : 0 ≤ b) (hb' : b ≤ 1000) :
    Calls Try.prog 13 #[.agg (crd s a b e p)] w fun x w' => x = .returned (.int .i64 (least s b)) ∧ Below w.heap.size w w' := by
  have h1 := mul_ge s (1000 - b) (by omega) (by omega)
  have h2 := mul_le s (1000 - b) hs' (by omega) (by omega)
  go_enter Try.func13, Try.ntmps13
  go_wp2
  all_goals (go_ret; exact ⟨ret_i (by simp [least]), below_new _ _⟩)

theorem Most_yes (s a b e : Int) (p : Bool) (w : World) (h : bnd s a b e = true) :
    Calls Try.prog 9 #[.agg (crd s a b e p)] w fun x w' => x = .returned (.tuple #[.int .i64 (most s a), .int .i64 0]) ∧ Below w.heap.size w w' := by
  obtain ⟨⟨hs, hs'⟩, ⟨ha, ha'⟩, ⟨hb, hb'⟩, _⟩ := (bnd_iff s a b e).mp h
  go_enter Try.func9, Try.ntmps9
  go_wp2_with (first
    | (refine wpList_load_row rfl 27 (.tmp 1) rfl w.heap.size rfl 27 (crd s a b e p) (0, 0) _ (by first | exact heap_alloc_new _ _ | exact hg1) Try.underlying27 rfl (crd_size ..) ?_)
    | (go_at_call 19; refine (bounds_any _ _ _ _ _ _).mono ?_; rw [h]; rintro x w1 ⟨rfl, hb1⟩; have hg1 : w1.heap[w.heap.size]? = some (.cells (crd s a b e p) 27) := (hb1.block _ (by simp)).trans (heap_alloc_new _ _))
    | (go_at_call 20; refine (most_any _ _ _ _ _ _ hs hs' ha ha').mono ?_; rintro x w2 ⟨rfl, hb2⟩))
  go_ret2
  exact ⟨rfl, (below_new _ _).trans ((hb1.mono (by simp)).trans (hb2.mono (by have := hb1.size; simp at this; omega)))⟩

theorem Most_no (s a b e : Int) (p : Bool) (w : World) (h : bnd s a b e = false) :
    Calls Try.prog 9 #[.agg (crd s a b e p)] w fun x w' => x = .returned (.tuple #[.int .i64 0, .int .i64 1]) ∧ Below w.heap.size w w' := by
  go_enter Try.func9, Try.ntmps9
  go_wp2_with (first
    | (refine wpList_load_row rfl 27 (.tmp 1) rfl w.heap.size rfl 27 (crd s a b e p) (0, 0) _ (by first | exact heap_alloc_new _ _ | exact hg1) Try.underlying27 rfl (crd_size ..) ?_)
    | (go_at_call 19; refine (bounds_any _ _ _ _ _ _).mono ?_; rw [h]; rintro x w1 ⟨rfl, hb1⟩))
  go_ret2
  exact ⟨rfl, (below_new _ _).trans (hb1.mono (by simp))⟩

theorem Least_yes (s a b e : Int) (p : Bool) (w : World) (h : bnd s a b e = true) :
    Calls Try.prog 10 #[.agg (crd s a b e p)] w fun x w' => x = .returned (.tuple #[.int .i64 (least s b), .int .i64 0]) ∧ Below w.heap.size w w' := by
  obtain ⟨⟨hs, hs'⟩, ⟨ha, ha'⟩, ⟨hb, hb'⟩, _⟩ := (bnd_iff s a b e).mp h
  go_enter Try.func10, Try.ntmps10
  go_wp2_with (first
    | (refine wpList_load_row rfl 27 (.tmp 1) rfl w.heap.size rfl 27 (crd s a b e p) (0, 0) _ (by first | exact heap_alloc_new _ _ | exact hg1) Try.underlying27 rfl (crd_size ..) ?_)
    | (go_at_call 19; refine (bounds_any _ _ _ _ _ _).mono ?_; rw [h]; rintro x w1 ⟨rfl, hb1⟩; have hg1 : w1.heap[w.heap.size]? = some (.cells (crd s a b e p) 27) := (hb1.block _ (by simp)).trans (heap_alloc_new _ _))
    | (go_at_call 21; refine (least_any _ _ _ _ _ _ hs hs' hb hb').mono ?_; rintro x w2 ⟨rfl, hb2⟩))
  go_ret2
  exact ⟨rfl, (below_new _ _).trans ((hb1.mono (by simp)).trans (hb2.mono (by have := hb1.size; simp at this; omega)))⟩

theorem Least_no (s a b e : Int) (p : Bool) (w : World) (h : bnd s a b e = false) :
    Calls Try.prog 10 #[.agg (crd s a b e p)] w fun x w' => x = .returned (.tuple #[.int .i64 0, .int .i64 1]) ∧ Below w.heap.size w w' := by
  go_enter Try.func10, Try.ntmps10
  go_wp2_with (first
    | (refine wpList_load_row rfl 27 (.tmp 1) rfl w.heap.size rfl 27 (crd s a b e p) (0, 0) _ (by first | exact heap_alloc_new _ _ | exact hg1) Try.underlying27 rfl (crd_size ..) ?_)
    | (go_at_call 19; refine (bounds_any _ _ _ _ _ _).mono ?_; rw [h]; rintro x w1 ⟨rfl, hb1⟩))
  go_ret2
  exact ⟨rfl, (below_new _ _).trans (hb1.mono (by simp))⟩
end Go.Proofs.Ytbhpghjdclehmaa
