/- A ledger in memory. -/
import Derived.Test.YtpkiiegadckloaaDoorNm
import Derived.Test.YtpkiiegadckloaaDoorReg
set_option linter.unusedSimpArgs false
namespace Go.Proofs.YtpkiiegadckloaaDoor
open Go.RowKit

/-! ### Which blocks have changed -/

def Chg (S : Nat → Prop) (w w' : World) : Prop := w'.os = w.os ∧ w'.tape = w.tape ∧ w'.output = w.output ∧ w.heap.size ≤ w'.heap.size ∧ ∀ k, k < w.heap.size → ¬ S k → w'.heap[k]? = w.heap[k]?

theorem Chg.refl (S : Nat → Prop) (w : World) : Chg S w w := ⟨rfl, rfl, rfl, Nat.le_refl _, fun _ _ _ => rfl⟩
theorem Chg.size {S : Nat → Prop} {w w' : World} (h : Chg S w w') : w.heap.size ≤ w'.heap.size := h.2.2.2.1
theorem Chg.block {S : Nat → Prop} {w w' : World} (h : Chg S w w') {k : Nat} (hk : k < w.heap.size) (hs : ¬ S k) : w'.heap[k]? = w.heap[k]? := h.2.2.2.2 k hk hs
theorem Chg.trans {S T : Nat → Prop} {a b c : World} (h : Chg S a b) (k : Chg T b c) (hT : ∀ i, T i → S i ∨ a.heap.size ≤ i) : Chg S a c :=
  ⟨k.1.trans h.1, k.2.1.trans h.2.1, k.2.2.1.trans h.2.2.1, Nat.le_trans h.size k.size, fun i hi hs =>
    (k.block (Nat.lt_of_lt_of_le hi h.size) (fun ht => (hT i ht).elim hs (fun h => by omega))).trans (h.block hi hs)⟩
theorem Chg.mono {S T : Nat → Prop} {a b : World} (h : Chg S a b) (hT : ∀ i, S i → T i ∨ a.heap.size ≤ i) : Chg T a b :=
  ⟨h.1, h.2.1, h.2.2.1, h.size, fun i hi hs => h.block hi (fun ht => (hT i ht).elim hs (fun h => by omega))⟩
theorem Chg.of_below {S : Nat → Prop} {w w' : World} (h : Below w.heap.size w w') : Chg S w w' := ⟨h.os, h.tape, h.output, h.size, fun k hk _ => h.block k hk⟩
theorem Chg.of_grown {S : Nat → Prop} {w w' : World} {m : Option Nat} (h : w.grownBy w' m) (hm : ∀ k, m = some k → S k) : Chg S w w' := ⟨h.os, h.tape, h.output, h.size, fun k hk hs => h.block k hk (fun e => hs (hm k e.symm))⟩
theorem Chg.below {S : Nat → Prop} {w w' : World} {n : Nat} (h : Chg S w w') (hn : n ≤ w.heap.size) (hS : ∀ k, S k → n ≤ k) : Below n w w' :=
  ⟨h.1, h.2.1, h.2.2.1, h.size, fun k hk => h.block (by omega) (fun hs => by have := hS k hs; omega)⟩
theorem chg_new {S : Nat → Prop} (w : World) (o : Obj) : Chg S w (w.alloc o) := Chg.of_below ((Below.refl _ _).alloc (Nat.le_refl _) _)
/-- S, and what has been laid between. -/
def grow (S : Nat → Prop) (w w' : World) : Nat → Prop := fun k => S k ∨ (w.heap.size ≤ k ∧ k < w'.heap.size)

theorem owns_chg {S : Nat → Prop} {w w' : World} {base : Nat} {e : TypeId} {size : Nat} {v : Value} {n : Nat} {xs : List Value} (h : w.ownsRow base e size v n xs) (hc : Chg S w w') (hS : ∀ b, v.ownBlock = some b → ¬ S b) : w'.ownsRow base e size v n xs := by
  refine ⟨h.1, ?_⟩
  rcases h.2 with hn | ⟨g, cap, cur, rfl, hb, hgg, rest⟩
  · exact .inl hn
  · refine .inr ⟨g, cap, cur, rfl, hb, ?_, rest⟩
    rw [hc.block (Array.getElem?_eq_some_iff.1 hgg).1 (hS g rfl)]
    exact hgg
theorem owns_lt {w : World} {base : Nat} {e : TypeId} {size : Nat} {v : Value} {n : Nat} {xs : List Value} (h : w.ownsRow base e size v n xs) : ∀ b, v.ownBlock = some b → b < w.heap.size := fun b hb => (h.lt b hb).2

/-! ### What a map holds -/
def fnd {α : Type} [DecidableEq α] (l : List (α × Value)) (a : α) : Option Value := (idx a l 0).map (·.2)
theorem idx_shift {α : Type} [DecidableEq α] (l : List (α × Value)) (a : α) (i : Nat) : (idx a l i).map (·.2) = fnd l a := by
  unfold fnd
  induction l generalizing i with
  | nil => rfl
  | cons p r ih =>
    obtain ⟨b, v⟩ := p
    simp only [idx]
    split
    · rfl
    · rw [ih (i + 1), ih (0 + 1)]
theorem fnd_cons {α : Type} [DecidableEq α] (l : List (α × Value)) (a b : α) (v : Value) : fnd ((b, v) :: l) a = if a = b then some v else fnd l a := by
  rw [fnd]
  simp only [idx]
  split
  · rfl
  · exact idx_shift l a _
theorem fnd_put {α : Type} [DecidableEq α] (l : List (α × Value)) (a b : α) (v : Value) : fnd (put a v l) b = if b = a then some v else fnd l b := by
  induction l with
  | nil => rw [put, fnd_cons]
  | cons p r ih =>
    obtain ⟨c, u⟩ := p
    simp only [put]
    split
    · rename_i h
      subst h
      rw [fnd_cons, fnd_cons]
      split <;> rfl
    · rename_i h
      rw [fnd_cons, fnd_cons, ih]
      by_cases h1 : b = c
      · subst h1
        rw [if_pos rfl, if_pos rfl, if_neg (fun e => h e.symm)]
      · rw [if_neg h1, if_neg h1]
theorem put_length {α : Type} [DecidableEq α] (l : List (α × Value)) (a : α) (v : Value) : (put a v l).length ≤ l.length + 1 := by
  induction l with
  | nil => simp [put]
  | cons p r ih =>
    obtain ⟨c, u⟩ := p
    simp only [put]
    split <;> simp <;> omega
theorem put_length_in {α : Type} [DecidableEq α] (l : List (α × Value)) (a : α) (v : Value) (h : (fnd l a).isSome = true) : (put a v l).length = l.length := by
  induction l with
  | nil => cases h
  | cons p r ih =>
    obtain ⟨c, u⟩ := p
    rw [fnd_cons] at h
    simp only [put]
    split
    · rfl
    · rename_i hne
      rw [if_neg hne] at h
      simp [ih h]
theorem look_fnd {α : Type} [DecidableEq α] (l : List (α × Value)) (a : α) (z : Value) : look l a z = (fnd l a).getD z := rfl
theorem isin_fnd {α : Type} [DecidableEq α] (l : List (α × Value)) (a : α) : isin l a = (fnd l a).isSome := by unfold isin fnd; cases idx a l 0 <;> rfl

/-! ### A ledger -/

structure Ent where
  acct : ByteArray
  cur : ByteArray
  amt : Int
structure Pst where
  num : Int
  text : ByteArray
  ents : List Ent
def eflat : List Ent → List Value
  | [] => []
  | e :: r => .string e.acct :: .string e.cur :: .int .i64 e.amt :: eflat r
def pflat : List (Pst × Value) → List Value
  | [] => []
  | p :: r => .int .i64 p.1.num :: .string p.1.text :: p.2 :: pflat r

/-- An account: its floor, its balance, what is held. -/
structure Acc where
  floor : Int
  bal : Int
  held : Int
def av (a : Acc) : Value := .agg #[.int .i64 a.floor, .int .i64 a.bal, .int .i64 a.held]
def ledC (ow : ByteArray) (ma : Nat) (v : Value) (mh : Nat) : Array Value := #[.string ow, .map (some ma), v, .map (some mh)]

structure LedX (w : World) (g : Nat) (ow : ByteArray) (ma mh : Nat) (v : Value) (pl : List (Pst × Value)) (la : List (Key × Value)) (hl : List (ByteArray × Value)) (S : Nat → Prop) : Prop where
  blk : w.heap[g]? = some (.cells (ledC ow ma v mh) 70 (0, 0))
  acc : MapAt ek w ma la
  hld : MapAt es w mh hl
  ne : ma ≠ mh
  row : w.ownsRow 0 89 3 v pl.length (pflat pl)
  ent : ∀ p ∈ pl, w.ownsRow 0 57 3 p.2 p.1.ents.length (eflat p.1.ents)
  sg : S g
  sa : S ma
  sh : S mh
  sv : ∀ b, v.ownBlock = some b → S b
  se : ∀ p ∈ pl, ∀ b, p.2.ownBlock = some b → S b
  lt : ∀ k, S k → k < w.heap.size
  nz : pl = [] → v = .slice none 0 0

theorem LedX.keep {w w' : World} {g : Nat} {ow : ByteArray} {ma mh : Nat} {v : Value} {pl : List (Pst × Value)} {la : List (Key × Value)} {hl : List (ByteArray × Value)} {S T : Nat → Prop} (h : LedX w g ow ma mh v pl la hl S) (hc : Chg T w w') (hT : ∀ k, S k → ¬ T k) :
    LedX w' g ow ma mh v pl la hl S :=
  have hb : ∀ k, S k → w'.heap[k]? = w.heap[k]? := fun k hk => hc.block (h.lt k hk) (hT k hk)
  ⟨(hb g h.sg).trans h.blk, h.acc.keep (hb ma h.sa), h.hld.keep (hb mh h.sh), h.ne, owns_chg h.row hc (fun b hb => hT b (h.sv b hb)), fun p hp => owns_chg (h.ent p hp) hc (fun b hb => hT b (h.se p hp b hb)), h.sg, h.sa, h.sh, h.sv, h.se,
    (fun k hk => Nat.lt_of_lt_of_le (h.lt k hk) hc.size), h.nz⟩
theorem LedX.keepB {w w' : World} {g : Nat} {ow : ByteArray} {ma mh : Nat} {v : Value} {pl : List (Pst × Value)} {la : List (Key × Value)} {hl : List (ByteArray × Value)} {S : Nat → Prop} (h : LedX w g ow ma mh v pl la hl S) (hc : Below w.heap.size w w') :
    LedX w' g ow ma mh v pl la hl S := h.keep (T := fun _ => False) (Chg.of_below hc) (fun _ _ h => h)
theorem LedX.more {w : World} {g : Nat} {ow : ByteArray} {ma mh : Nat} {v : Value} {pl : List (Pst × Value)} {la : List (Key × Value)} {hl : List (ByteArray × Value)} {S T : Nat → Prop} (h : LedX w g ow ma mh v pl la hl S) (hT : ∀ k, S k → T k) (hl' : ∀ k, T k → k < w.heap.size) :
    LedX w g ow ma mh v pl la hl T :=
  ⟨h.blk, h.acc, h.hld, h.ne, h.row, h.ent, hT _ h.sg, hT _ h.sa, hT _ h.sh, fun b hb => hT _ (h.sv b hb), (fun p hp b hb => hT _ (h.se p hp b hb)), hl', h.nz⟩
/-- The accounts' map has changed. -/
theorem LedX.setA {w w' : World} {g : Nat} {ow : ByteArray} {ma mh : Nat} {v : Value} {pl : List (Pst × Value)} {la la' : List (Key × Value)} {hl : List (ByteArray × Value)} {S : Nat → Prop} (h : LedX w g ow ma mh v pl la hl S) (hm : MapAt ek w' ma la') (hg : w.grownBy w' (some ma)) :
    LedX w' g ow ma mh v pl la' hl S := by
  obtain ⟨es, clock, hx⟩ := h.acc
  have hx := hx.blk
  have hgm : g ≠ ma := fun e => by have := h.blk; rw [e, hx] at this; cases this
  refine ⟨(hg.block g (h.lt _ h.sg) (fun e => hgm (Option.some.inj e))).trans h.blk, hm, h.hld.keep (hg.block mh (h.lt _ h.sh) (fun e => h.ne (Option.some.inj e).symm)), h.ne, h.row.kept hg ?_, fun p hp => (h.ent p hp).kept hg ?_, h.sg, h.sa, h.sh, h.sv, h.se, (fun k hk => Nat.lt_of_lt_of_le (h.lt k hk) hg.size), h.nz⟩
  · cases hv : v.ownBlock with
    | none => exact Or.inl rfl
    | some b =>
      refine Or.inr (fun e => ?_)
      obtain rfl := Option.some.inj e
      rcases h.row.2 with ⟨rfl, _⟩ | ⟨b', cap, cur, rfl, _, hb, _⟩
      · cases hv
      · cases hv; rw [hx] at hb; cases hb
  · cases hv : p.2.ownBlock with
    | none => exact Or.inl rfl
    | some b =>
      refine Or.inr (fun e => ?_)
      obtain rfl := Option.some.inj e
      rcases (h.ent p hp).2 with ⟨h2, _⟩ | ⟨b', cap, cur, h2, _, hb, _⟩
      · rw [h2] at hv; cases hv
      · rw [h2] at hv; cases hv; rw [hx] at hb; cases hb

/-- A ledger: at most na accounts, what they are, the posts, the holds. -/
def LedAt (w : World) (g : Nat) (ow : ByteArray) (na : Nat) (A : Key → Option Acc) (ps : List Pst) (hl : List (ByteArray × Value)) (S : Nat → Prop) : Prop :=
  ∃ ma mh v pl la, LedX w g ow ma mh v pl la hl S ∧ pl.map (·.1) = ps ∧ la.length ≤ na ∧ ∀ k, fnd la k = (A k).map av

theorem LedAt.keep {w w' : World} {g : Nat} {ow : ByteArray} {na : Nat} {A : Key → Option Acc} {ps : List Pst} {hl : List (ByteArray × Value)} {S T : Nat → Prop} (h : LedAt w g ow na A ps hl S) (hc : Chg T w w') (hT : ∀ k, S k → ¬ T k) : LedAt w' g ow na A ps hl S := by
  obtain ⟨ma, mh, v, pl, la, h, h2⟩ := h
  exact ⟨ma, mh, v, pl, la, h.keep hc hT, h2⟩
theorem LedAt.keepB {w w' : World} {g : Nat} {ow : ByteArray} {na : Nat} {A : Key → Option Acc} {ps : List Pst} {hl : List (ByteArray × Value)} {S : Nat → Prop} (h : LedAt w g ow na A ps hl S) (hc : Below w.heap.size w w') : LedAt w' g ow na A ps hl S :=
  h.keep (T := fun _ => False) (Chg.of_below hc) (fun _ _ h => h)
theorem LedAt.lt {w : World} {g : Nat} {ow : ByteArray} {na : Nat} {A : Key → Option Acc} {ps : List Pst} {hl : List (ByteArray × Value)} {S : Nat → Prop} (h : LedAt w g ow na A ps hl S) : ∀ k, S k → k < w.heap.size := by
  obtain ⟨ma, mh, v, pl, la, h, h2⟩ := h
  exact h.lt

theorem below_new (w : World) (o : Obj) : Below w.heap.size w (w.alloc o) := (Below.refl _ _).alloc (Nat.le_refl _) _
theorem bels {n : Nat} {a b c : World} (h : Below n a b) (k : Below b.heap.size b c) (hn : n ≤ b.heap.size) : Below n a c := h.trans (k.mono hn)
theorem bel2 {a b c : World} (h : Below a.heap.size a b) (k : Below b.heap.size b c) : Below a.heap.size a c := h.trans (k.mono h.size)

theorem made_map (t : TypeId) (w : World) : (Instr.makeMap t none).run Tryd.prog w = .ok (.map (some w.heap.size)) (w.alloc (.map #[] 0)) := rfl
attribute [local go_sem] made_map

theorem New_any (ow : ByteArray) (w : World) : Calls Tryd.prog 12 #[.string ow] w fun x w' => ∃ g, x = .returned (.pointer (some ⟨g, 0, none⟩)) ∧ LedAt w' g ow 0 (fun _ => none) [] [] (fun k => w.heap.size ≤ k ∧ k < w'.heap.size) ∧ Below w.heap.size w w' := by
  go_enter Tryd.func12, Tryd.ntmps12
  go_wp2
  go_ret
  have h1 := MapAt.made (enc := ek) w
  have h2 := MapAt.made (enc := es) (w.alloc (.map #[] 0))
  have s1 : (w.alloc (.map #[] 0)).heap.size = w.heap.size + 1 := by simp
  have s2 : ((w.alloc (.map #[] 0)).alloc (.map #[] 0)).heap.size = w.heap.size + 2 := by simp
  rw [s1] at h2
  refine ⟨_, rfl, ⟨w.heap.size, w.heap.size + 1, .slice none 0 0, [], [], ?_, rfl, Nat.le_refl _, fun _ => rfl⟩, bel2 (bel2 (below_new _ _) (below_new _ _)) (below_new _ _)⟩
  refine ⟨?_, (h1.keep (Below.heap_alloc _ _ _ (by simp))).keep (Below.heap_alloc _ _ _ (by simp; omega)), h2.keep (Below.heap_alloc _ _ _ (by simp)), by omega, World.ownsRow_nil _ _ _ _, (fun p hp => by cases hp), ?_, ?_, ?_, (fun b hb => by cases hb), (fun p hp => by cases hp), (fun k hk => hk.2), fun _ => rfl⟩
  · exact s2 ▸ heap_alloc_new _ _
  all_goals (simp; try omega)
end Go.Proofs.YtpkiiegadckloaaDoor
