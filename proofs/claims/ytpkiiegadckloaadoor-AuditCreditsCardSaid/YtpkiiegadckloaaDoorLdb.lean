/- A ledger whose blocks are known: its accounts' map read and changed, a post appended. -/
import Derived.Test.YtpkiiegadckloaaDoorCln
import Derived.Test.YtpkiiegadckloaaDoorRel
set_option linter.unusedSimpArgs false
set_option linter.unusedVariables false
namespace Go.Proofs.YtpkiiegadckloaaDoor
open Go.RowKit

def LedB (w : World) (g : Nat) (ow : ByteArray) (ma mh : Nat) (v : Value) (pl : List (Pst × Value)) (na : Nat) (A : Key → Option Acc) (hl : List (ByteArray × Value)) (S : Nat → Prop) : Prop :=
  ∃ la, LedX w g ow ma mh v pl la hl S ∧ la.length ≤ na ∧ ∀ k, fnd la k = (A k).map av

section
variable {w : World} {g : Nat} {ow : ByteArray} {ma mh : Nat} {v : Value} {pl : List (Pst × Value)} {na : Nat} {A : Key → Option Acc} {hl : List (ByteArray × Value)} {S : Nat → Prop}

theorem LedAt.open {ps : List Pst} (h : LedAt w g ow na A ps hl S) : ∃ ma mh v pl, LedB w g ow ma mh v pl na A hl S ∧ pl.map (·.1) = ps := by
  obtain ⟨ma, mh, v, pl, la, h, h2, h3⟩ := h
  exact ⟨ma, mh, v, pl, ⟨la, h, h3⟩, h2⟩
theorem LedB.at (h : LedB w g ow ma mh v pl na A hl S) : LedAt w g ow na A (pl.map (·.1)) hl S := by
  obtain ⟨la, h, h3⟩ := h
  exact ⟨ma, mh, v, pl, la, h, rfl, h3⟩
theorem LedB.keep {w' : World} {T : Nat → Prop} (h : LedB w g ow ma mh v pl na A hl S) (hc : Chg T w w') (hT : ∀ k, S k → ¬ T k) : LedB w' g ow ma mh v pl na A hl S := by
  obtain ⟨la, h, h3⟩ := h
  exact ⟨la, h.keep hc hT, h3⟩
theorem LedB.keepB {w' : World} (h : LedB w g ow ma mh v pl na A hl S) (hc : Below w.heap.size w w') : LedB w' g ow ma mh v pl na A hl S := by
  obtain ⟨la, h, h3⟩ := h
  exact ⟨la, h.keepB hc, h3⟩
theorem LedB.keepG {w' : World} {r : Nat} (h : LedB w g ow ma mh v pl na A hl S) (hg : w.grownBy w' (some r)) (hr : ¬ S r) : LedB w' g ow ma mh v pl na A hl S :=
  h.keep (T := fun k => k = r) (Chg.of_grown hg (fun k hk => (Option.some.inj hk).symm)) (fun k hk e => hr (e ▸ hk))
theorem LedB.blk (h : LedB w g ow ma mh v pl na A hl S) : w.heap[g]? = some (.cells (ledC ow ma v mh) 70 (0, 0)) := by
  obtain ⟨la, h, h3⟩ := h
  exact h.blk
theorem LedB.c1 (h : LedB w g ow ma mh v pl na A hl S) : w.cell? ⟨g, 1, none⟩ = some (.map (some ma)) := cell_of_row w g 1 _ _ _ h.blk
theorem LedB.c2 (h : LedB w g ow ma mh v pl na A hl S) : w.cell? ⟨g, 2, none⟩ = some v := cell_of_row w g 2 _ _ _ h.blk
theorem LedB.c3 (h : LedB w g ow ma mh v pl na A hl S) : w.cell? ⟨g, 3, none⟩ = some (.map (some mh)) := cell_of_row w g 3 _ _ _ h.blk
theorem LedB.sg (h : LedB w g ow ma mh v pl na A hl S) : S g := by
  obtain ⟨la, h, h3⟩ := h
  exact h.sg
theorem LedB.sa (h : LedB w g ow ma mh v pl na A hl S) : S ma := by
  obtain ⟨la, h, h3⟩ := h
  exact h.sa
theorem LedB.lt (h : LedB w g ow ma mh v pl na A hl S) : ∀ k, S k → k < w.heap.size := by
  obtain ⟨la, h, h3⟩ := h
  exact h.lt
theorem LedB.isMap (h : LedB w g ow ma mh v pl na A hl S) : ∃ es c, w.heap[ma]? = some (.map es c) := by
  obtain ⟨la, h, h3⟩ := h
  obtain ⟨es, c, h⟩ := h.acc
  exact ⟨es, c, h.blk⟩
/-- An account is read. -/
theorem LedB.look (h : LedB w g ow ma mh v pl na A hl S) (k : Key) {a : Acc} (ha : A k = some a) (c : Bool) :
    (Instr.lookup 67 (.map (some ma)) (ek k) c).run Tryd.prog w = .ok (if c then .tuple #[av a, .bool true] else av a) w := by
  obtain ⟨la, h, h3, h4⟩ := h
  have := run_look (c := c) klKey h.acc (T := 67) Tryd.underlying67 (zero74 w) k
  rw [look_fnd, isin_fnd, h4, ha] at this
  exact this
/-- An account is changed. -/
theorem LedB.upd (h : LedB w g ow ma mh v pl na A hl S) (k : Key) {a0 : Acc} (ha : A k = some a0) (a : Acc) :
    ∃ w', (Instr.mapUpdate 67 (.map (some ma)) (ek k) (av a)).run Tryd.prog w = .ok () w' ∧ LedB w' g ow ma mh v pl na (upd A k a) hl S ∧ w.grownBy w' (some ma) ∧ w'.heap.size = w.heap.size := by
  obtain ⟨la, h, h3, h4⟩ := h
  obtain ⟨w', hr, hm, hg, hs⟩ := run_put klKey h.acc (T := 67) (E := 74) Tryd.underlying67 k (av a)
  refine ⟨w', hr, ⟨_, h.setA hm hg, ?_, fun j => ?_⟩, hg, hs⟩
  · rw [put_length_in la k _ (by rw [h4, ha]; rfl)]
    exact h3
  · rw [fnd_put]
    unfold Proofs.YtpkiiegadckloaaDoor.upd
    split
    · rfl
    · exact h4 j
end

/-! ### Changes of some accounts -/
def lkI (cl : List (Key × Int)) (k : Key) : Option Int := (cl.find? (fun p => decide (p.1 = k))).map (·.2)
def chgA (A : Key → Option Acc) (cl : List (Key × Int)) (k : Key) : Option Acc :=
  match lkI cl k with
  | some n => (A k).map fun a => ⟨a.floor, a.bal + n, a.held⟩
  | none => A k
open Classical in
/-- Those changes that are still to come are left out. -/
noncomputable def mixA (A : Key → Option Acc) (cl left : List (Key × Int)) (k : Key) : Option Acc := if k ∈ left.map Prod.fst then A k else chgA A cl k

theorem mixA_all (A : Key → Option Acc) (cl : List (Key × Int)) : mixA A cl cl = A := by
  funext k
  unfold mixA
  split
  · rfl
  · rename_i h
    unfold chgA lkI
    have : cl.find? (fun p => decide (p.1 = k)) = none := by
      rw [List.find?_eq_none]
      intro p hp hk
      simp only [decide_eq_true_eq] at hk
      exact h (List.mem_map.2 ⟨p, hp, hk⟩)
    rw [this]
    rfl
theorem mixA_nil (A : Key → Option Acc) (cl : List (Key × Int)) : mixA A cl [] = chgA A cl := by
  funext k
  simp [mixA]
theorem lkI_mem {cl : List (Key × Int)} (hn : (cl.map (·.1)).Nodup) {k : Key} {n : Int} (h : (k, n) ∈ cl) : lkI cl k = some n := by
  induction cl with
  | nil => cases h
  | cons p r ih =>
    simp only [List.map_cons, List.nodup_cons] at hn
    unfold lkI
    rw [List.find?_cons]
    by_cases hp : p.1 = k
    · rcases List.mem_cons.1 h with rfl | h
      · simp
      · exact absurd (List.mem_map.2 ⟨(k, n), h, rfl⟩) (hp ▸ hn.1)
    · rcases List.mem_cons.1 h with rfl | h
      · exact absurd rfl hp
      · simp only [hp, decide_false]
        exact ih hn.2 h
theorem mixA_step (A : Key → Option Acc) {cl left : List (Key × Int)} (hn : (cl.map (·.1)).Nodup) {k : Key} {n : Int} (hm : (k, n) ∈ cl) {a : Acc} (ha : A k = some a) :
    upd (mixA A cl left) k ⟨a.floor, a.bal + n, a.held⟩ = mixA A cl (left.filter fun p => decide (p.1 ≠ k)) := by
  funext j
  unfold upd mixA
  by_cases hj : j = k
  · subst hj
    rw [if_pos rfl, if_neg ?_]
    · unfold chgA
      rw [lkI_mem hn hm, ha]
      rfl
    · intro h
      obtain ⟨p, hp, e⟩ := List.mem_map.1 h
      have := (List.mem_filter.1 hp).2
      simp [e] at this
  · rw [if_neg hj]
    have : (j ∈ left.map Prod.fst) ↔ j ∈ (left.filter fun p => decide (p.1 ≠ k)).map Prod.fst := by
      simp only [List.mem_map, List.mem_filter]
      constructor
      · rintro ⟨p, hp, e⟩
        exact ⟨p, ⟨hp, by simp [e, hj]⟩, e⟩
      · rintro ⟨p, ⟨hp, _⟩, e⟩
        exact ⟨p, hp, e⟩
    by_cases h : j ∈ left.map Prod.fst
    · rw [if_pos h, if_pos (this.1 h)]
    · rw [if_neg h, if_neg (fun h' => h (this.2 h'))]
theorem mixA_in (A : Key → Option Acc) {cl left : List (Key × Int)} {k : Key} {n : Int} (hm : (k, n) ∈ left) : mixA A cl left k = A k := by
  unfold mixA
  rw [if_pos (List.mem_map.2 ⟨(k, n), hm, rfl⟩)]

/-- The changes as the map holds them. -/
def clV (cl : List (Key × Int)) : List (Key × Value) := cl.map fun p => (p.1, .int .i64 p.2)
theorem clV_filter (left : List (Key × Int)) (k : Key) : (clV left).filter (fun p => decide (p.1 ≠ k)) = clV (left.filter fun p => decide (p.1 ≠ k)) := by
  unfold clV
  rw [List.filter_map]
  rfl
theorem clV_mem {left : List (Key × Int)} {k : Key} {v : Value} (h : (k, v) ∈ clV left) : ∃ n, v = .int .i64 n ∧ (k, n) ∈ left := by
  obtain ⟨p, hp, e⟩ := List.mem_map.1 h
  simp only [Prod.mk.injEq] at e
  exact ⟨p.2, e.2.symm, by rw [← e.1]; exact hp⟩
theorem clV_nil {left : List (Key × Int)} (h : clV left = []) : left = [] := by simpa [clV] using h

/-! ### A post is appended -/
theorem set3_heap {w : World} {q : Nat} {x y z a b c : Value} {t : TypeId} (h : w.heap[q]? = some (.cells #[x, y, z] t (0, 0))) : (w.setCells q 0 [a, b, c]).heap[q]? = some (.cells #[a, b, c] t (0, 0)) := by
  simp only [World.setCells]
  have h1 := heap_setCell_same w q 0 _ t a h
  have h2 := heap_setCell_same _ q 1 _ t b h1
  have h3 := heap_setCell_same _ q 2 _ t c h2
  simpa using h3
theorem set3_grown (w : World) (q : Nat) (a b c : Value) : w.grownBy (w.setCells q 0 [a, b, c]) (some q) := by
  simp only [World.setCells]
  have key : ∀ (w : World) (i : Nat) (v : Value), w.grownBy (w.setCell ⟨q, i, none⟩ v) (some q) := fun w i v => ⟨rfl, rfl, rfl, by simp, fun k _ hk => heap_setCell_other w ⟨q, i, none⟩ k v (fun e => hk (by simp [e]))⟩
  have h1 := key w 0 a
  have h2 := key (w.setCell ⟨q, 0, none⟩ a) 1 b
  have h3 := key ((w.setCell ⟨q, 0, none⟩ a).setCell ⟨q, 1, none⟩ b) 2 c
  exact ⟨(h3.os.trans h2.os).trans h1.os, (h3.tape.trans h2.tape).trans h1.tape, (h3.output.trans h2.output).trans h1.output, Nat.le_trans h1.size (Nat.le_trans h2.size h3.size), fun k hk hne =>
    (h3.block k (Nat.lt_of_lt_of_le hk (Nat.le_trans h1.size h2.size)) hne).trans ((h2.block k (Nat.lt_of_lt_of_le hk h1.size) hne).trans (h1.block k hk hne))⟩

theorem pflat_app (l m : List (Pst × Value)) : pflat (l ++ m) = pflat l ++ pflat m := by
  induction l with
  | nil => rfl
  | cons p r ih => simp [pflat, ih]
end Go.Proofs.YtpkiiegadckloaaDoor
