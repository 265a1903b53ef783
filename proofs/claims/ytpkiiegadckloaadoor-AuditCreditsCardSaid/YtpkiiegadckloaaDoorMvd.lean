/- What posts move on an account. -/
import Derived.Test.YtpkiiegadckloaaDoorOwn
set_option linter.unusedSimpArgs false
set_option linter.unusedVariables false
namespace Go.Proofs.YtpkiiegadckloaaDoor
open Go.RowKit

/-- Money: a currency, an amount. -/
abbrev Mon := ByteArray × Int
def mflat : List Mon → List Value
  | [] => []
  | m :: r => .string m.1 :: .int .i64 m.2 :: mflat r
theorem mflat_app (l m : List Mon) : mflat (l ++ m) = mflat l ++ mflat m := by
  induction l with
  | nil => rfl
  | cons p r ih => simp [mflat, ih]
theorem mflat_length : ∀ l : List Mon, (mflat l).length = l.length * 2
  | [] => rfl
  | _ :: r => by simp [mflat, mflat_length r]; omega
theorem mflat_one : ∀ (l : List Mon), ∀ u ∈ mflat l, u.oneCell' = true
  | [], _, h => by cases h
  | e :: r, u, h => by
    simp only [mflat, List.mem_cons] at h
    rcases h with rfl | rfl | h
    · rfl
    · rfl
    · exact mflat_one r u h
theorem info62 : (Tryd.prog.info? 62).map (fun i => (i.zero, i.size, i.bytes)) = some (some (.agg #[.string ⟨#[]⟩, .int .i64 0]), 2, 24) := by kernel_rfl

/-- One entry's money on an account, of a sign. -/
def mov1 (ac : ByteArray) (sg : Int) (e : Ent) : List Mon := if e.acct = ac ∧ 0 < e.amt * sg then [(e.cur, e.amt * sg)] else []
def movE (ac : ByteArray) (sg : Int) (l : List Ent) : List Mon := l.flatMap (mov1 ac sg)
def movP (ac : ByteArray) (sg : Int) (l : List Pst) : List Mon := l.flatMap fun p => movE ac sg p.ents

theorem movE_take (ac : ByteArray) (sg : Int) (l : List Ent) (k : Nat) (h : k < l.length) : movE ac sg (l.take (k + 1)) = movE ac sg (l.take k) ++ mov1 ac sg (en l k) := by
  rw [List.take_add_one, movE, List.flatMap_append]
  simp [en, movE, List.getElem?_eq_getElem h, List.getD_eq_getElem?_getD]
theorem movP_take (ac : ByteArray) (sg : Int) (l : List Pst) (k : Nat) (p : Pst) (h : l[k]? = some p) : movP ac sg (l.take (k + 1)) = movP ac sg (l.take k) ++ movE ac sg p.ents := by
  rw [List.take_add_one, movP, List.flatMap_append, h]
  simp [movP]

theorem up_any (n : Int) (w : World) : Calls Tryd.prog 23 #[.int .i64 n] w fun x w' => x = .returned (.bool (decide (0 < n))) ∧ w = w' := by
  go_enter Tryd.func23, Tryd.ntmps23
  go_wp2
  go_returns
  exact ⟨rfl, rfl⟩
theorem down_any (n : Int) (w : World) : Calls Tryd.prog 24 #[.int .i64 n] w fun x w' => x = .returned (.bool (decide (n < 0))) ∧ w = w' := by
  go_enter Tryd.func24, Tryd.ntmps24
  go_wp2
  go_returns
  exact ⟨rfl, rfl⟩

/-- A row of posts, its elements known. -/
structure PRx (w : World) (n0 : Nat) (v : Value) (pl : List (Pst × Value)) : Prop where
  row : w.ownsRow n0 89 3 v pl.length (pflat pl)
  ent : ∀ p ∈ pl, w.ownsRow n0 57 3 p.2 p.1.ents.length (eflat p.1.ents)
theorem PRx.keepG {w w' : World} {n0 : Nat} {v : Value} {pl : List (Pst × Value)} (h : PRx w n0 v pl) {base : Nat} {u : Value} {n : Nat} {xs : List Value} (ho : w.ownsRow base 62 2 u n xs) (hg : w.grownBy w' u.ownBlock) : PRx w' n0 v pl := by
  have htag : ∀ (b : Nat) (cs : Array Value) (e : TypeId), e ≠ 62 → w.heap[b]? = some (.cells cs e (0, 0)) → w'.heap[b]? = w.heap[b]? := by
    intro b cs e he hb
    refine hg.block b (Array.getElem?_eq_some_iff.1 hb).1 (fun hh => ?_)
    rcases ho.2 with ⟨rfl, _⟩ | ⟨g, cap, cur, rfl, _, hgg, _⟩
    · cases hh
    · cases hh
      rw [hb] at hgg
      cases hgg
      exact he rfl
  exact ⟨owns_at h.row (fun b cs _ hcs => htag b cs 89 (by decide) hcs), fun p hp => owns_at (h.ent p hp) (fun b cs _ hcs => htag b cs 57 (by decide) hcs)⟩
theorem PRx.keepB {w w' : World} {n0 : Nat} {v : Value} {pl : List (Pst × Value)} (h : PRx w n0 v pl) (hb : Below w.heap.size w w') : PRx w' n0 v pl :=
  ⟨owns_keep h.row hb, fun p hp => owns_keep (h.ent p hp) hb⟩
theorem post_range {w : World} {n0 q c : Nat} {pl : List (Pst × Value)} (h : PRx w n0 (.slice (some ⟨q, 0, none⟩) pl.length c) pl) (k : Nat) {p : Pst × Value} (hp : pl[k]? = some p) : w.rangeAt q (k * 3) [.int .i64 p.1.num, .string p.1.text, p.2] := by
  have hk : k < pl.length := (List.getElem?_eq_some_iff.1 hp).1
  obtain ⟨h1, h2, h3⟩ := pflat_at pl k p hp
  intro j v hv
  rcases j with _ | _ | _ | j
  · rw [h.row.cellAt _ (by omega)]; simpa using h1.trans (by simpa using hv)
  · rw [h.row.cellAt _ (by omega)]; simpa using h2.trans (by simpa using hv)
  · rw [h.row.cellAt _ (by omega)]; simpa using h3.trans (by simpa using hv)
  · simp at hv
end Go.Proofs.YtpkiiegadckloaaDoor
