/- Moves that are booked: what they are, how a slice of them reads, the posts that they become. -/
import Derived.Test.YtpkiiegadckloaaDoorAwk
set_option linter.unusedSimpArgs false
set_option linter.unusedVariables false
namespace Go.Proofs.YtpkiiegadckloaaDoor
open Go.RowKit

/-- A move: how much, in dollars or not, on which account. -/
structure Mv where
  n : Int
  usd : Bool
  acct : Nat
instance : Inhabited Mv := ⟨⟨0, false, 0⟩⟩
def mv (l : List Mv) (k : Nat) : Mv := l.getD k ⟨0, false, 0⟩
def MvOK (m : Mv) : Prop := -32768 ≤ m.n ∧ m.n ≤ 32767 ∧ m.acct < 256
def mvV (m : Mv) : List Value := [.int .i16 m.n, .bool m.usd, .int .u8 m.acct]

/-- A slice at A reads as the moves l. -/
def MS (w : World) (A : Option Addr) (l : List Mv) : Prop :=
  l = [] ∨ ∃ b off, A = some ⟨b, off, none⟩ ∧ b < w.heap.size ∧ ∀ k, k < l.length → w.rangeAt b (off + k * 3) (mvV (mv l k))
theorem range_keep {w w' : World} {b o : Nat} {cs : List Value} (h : w.rangeAt b o cs) (hb : b < w.heap.size) (hB : Below w.heap.size w w') : w'.rangeAt b o cs := fun j v hv => (hB.cell (p := ⟨b, o + j, none⟩) hb).trans (h j v hv)
theorem MS.keep {w w' : World} {A : Option Addr} {l : List Mv} (h : MS w A l) (hb : Below w.heap.size w w') : MS w' A l := by
  rcases h with h | ⟨b, off, hA, hlt, h⟩
  · exact Or.inl h
  · exact Or.inr ⟨b, off, hA, Nat.lt_of_lt_of_le hlt hb.size, fun k hk => range_keep (h k hk) hlt hb⟩

def curOf (m : Mv) : ByteArray := if m.usd then sUsd else sEur
abbrev sM : ByteArray := ⟨#[109]⟩
def acOf (acs : List ByteArray) (m : Mv) : ByteArray := acs.getD (m.acct % acs.length) ⟨#[]⟩
def mvE (acs : List ByteArray) (m : Mv) : List Ent := [⟨acOf acs m, curOf m, m.n⟩, ⟨sX, curOf m, -m.n⟩]
/-- The posts of the first k moves. -/
def bkN (acs : List ByteArray) (l : List Mv) (k : Nat) : List Pst := (List.range k).map fun i : Nat => (⟨(i : Int) + 1, sM, mvE acs (mv l i)⟩ : Pst)
theorem bkN_succ (acs : List ByteArray) (l : List Mv) (k : Nat) : bkN acs l (k + 1) = bkN acs l k ++ [⟨k + 1, sM, mvE acs (mv l k)⟩] := by
  unfold bkN
  rw [List.range_succ, List.map_append]
  rfl
theorem bkN_length (acs : List ByteArray) (l : List Mv) (k : Nat) : (bkN acs l k).length = k := by simp [bkN]

open Classical in
/-- Which accounts there are. -/
def Opened (A : Key → Option Acc) (L : List Key) : Prop := ∀ k, A k = if k ∈ L then some ⟨-1099511627776, 0, 0⟩ else none
theorem Opened.more {A : Key → Option Acc} {L : List Key} (h : Opened A L) (k : Key) : Opened (upd A k ⟨-1099511627776, 0, 0⟩) (L ++ [k]) := by
  intro j
  unfold upd
  rw [h j]
  by_cases hj : j = k
  · rw [if_pos hj, if_pos (by simp [hj])]
  · rw [if_neg hj]
    by_cases hm : j ∈ L
    · rw [if_pos hm, if_pos (by simp [hm])]
    · rw [if_neg hm, if_neg (by simp [hm, hj])]
theorem Opened.no {A : Key → Option Acc} {L : List Key} (h : Opened A L) {k : Key} (hk : k ∉ L) : A k = none := by rw [h k, if_neg hk]

/-- An account that has been opened, and holds no more than b. -/
def AccOK (A : Key → Option Acc) (b : Int) (k : Key) : Prop := ∃ x, A k = some x ∧ x.floor = -1099511627776 ∧ x.held = 0 ∧ -b ≤ x.bal ∧ x.bal ≤ b
theorem accOK_post {A : Key → Option Acc} {cl : List (Key × Int)} {b c : Int} {k : Key} (h : AccOK A b k) (hn : ∀ p ∈ cl, -c ≤ p.2 ∧ p.2 ≤ c) (hc : 0 ≤ c) : AccOK (chgA A cl) (b + c) k := by
  obtain ⟨x, hx, h1, h2, h3, h4⟩ := h
  unfold AccOK chgA
  cases hl : lkI cl k with
  | none => exact ⟨x, hx, h1, h2, by omega, by omega⟩
  | some n =>
    unfold lkI at hl
    obtain ⟨p, hp, rfl⟩ := Option.map_eq_some_iff.1 hl
    have := hn p (List.mem_of_find?_eq_some hp)
    exact ⟨⟨x.floor, x.bal + p.2, x.held⟩, by rw [hx]; rfl, h1, h2, by simp only; omega, by simp only; omega⟩
theorem Opened.ok {A : Key → Option Acc} {L : List Key} (h : Opened A L) {k : Key} (hk : k ∈ L) : AccOK A 0 k := ⟨⟨-1099511627776, 0, 0⟩, by rw [h k, if_pos hk], rfl, rfl, by decide, by decide⟩

/-- Names that accounts may bear, beside 'x'. -/
structure Names (acs : List ByteArray) : Prop where
  good : ∀ a ∈ acs, allB goodN a ∧ 1 ≤ a.size ∧ a.size ≤ 32
  nodup : (sX :: acs).Nodup
  ne : 1 ≤ acs.length
  few : acs.length ≤ 3
def curs : List ByteArray := [sEur, sUsd]
/-- The accounts of the first i currencies. -/
def keysTo (acs : List ByteArray) (i : Nat) : List Key := (curs.take i).flatMap fun c => (sX :: acs).map fun a => (a, c)
def keysIn (acs : List ByteArray) (c : ByteArray) (j : Nat) : List Key := ((sX :: acs).take j).map fun a => (a, c)
theorem keysTo_succ (acs : List ByteArray) {i : Nat} {c : ByteArray} (h : curs[i]? = some c) : keysTo acs (i + 1) = keysTo acs i ++ keysIn acs c (acs.length + 1) := by
  unfold keysTo keysIn
  rw [List.take_add_one, List.flatMap_append, h]
  simp
theorem keysIn_succ (acs : List ByteArray) (c : ByteArray) {j : Nat} {a : ByteArray} (h : acs[j]? = some a) : keysIn acs c (j + 2) = keysIn acs c (j + 1) ++ [(a, c)] := by
  unfold keysIn
  rw [List.take_add_one, List.map_append]
  simp [h]
theorem cur_ok {i : Nat} {c : ByteArray} (h : curs[i]? = some c) : allB goodC c ∧ c.size = 3 := by
  rcases i with _ | _ | i
  · simp [curs] at h; subst h; exact ⟨by decide, rfl⟩
  · simp [curs] at h; subst h; exact ⟨by decide, rfl⟩
  · simp [curs] at h
theorem keysIn_one (acs : List ByteArray) (c : ByteArray) : keysIn acs c 1 = [(sX, c)] := rfl
theorem not_before {acs : List ByteArray} {i : Nat} {c a : ByteArray} (h : curs[i]? = some c) : (a, c) ∉ keysTo acs i := by
  intro hm
  unfold keysTo at hm
  obtain ⟨c', hc', hm⟩ := List.mem_flatMap.1 hm
  obtain ⟨a', _, he⟩ := List.mem_map.1 hm
  simp only [Prod.mk.injEq] at he
  obtain ⟨_, rfl⟩ := he
  rcases i with _ | _ | i
  · simp at hc'
  · simp [curs] at h hc'
    rw [← h] at hc'
    revert hc'
    decide
  · simp [curs] at h
theorem not_within {acs : List ByteArray} {c a : ByteArray} {j : Nat} (hn : (sX :: acs).Nodup) (h : (sX :: acs)[j]? = some a) : (a, c) ∉ keysIn acs c j := by
  intro hm
  unfold keysIn at hm
  obtain ⟨a', ha', he⟩ := List.mem_map.1 hm
  simp only [Prod.mk.injEq] at he
  obtain ⟨rfl, _⟩ := he
  obtain ⟨i, hi, hia⟩ := List.getElem_of_mem ha'
  rw [List.getElem_take] at hia
  have hi' : i < j := by simp at hi; omega
  have e1 : (sX :: acs)[i]? = some a' := by rw [← hia]; exact List.getElem?_eq_getElem _
  have := nodup_get hn e1 h
  omega
theorem bears_of {x : Acc} {n b : Int} (hf : x.floor = -1099511627776) (hh : x.held = 0) (h1 : -b ≤ x.bal) (h2 : x.bal ≤ b) (hb : b ≤ 1000000) (hn1 : -32768 ≤ n) (hn2 : n ≤ 32768) : Bears x n :=
  ⟨by omega, fun h => by omega, by omega, by omega, by omega, by omega⟩
theorem mem_keys2 {acs : List ByteArray} {a c : ByteArray} (hc : c = sEur ∨ c = sUsd) (ha : a ∈ sX :: acs) : (a, c) ∈ keysTo acs 2 := by
  unfold keysTo
  rw [List.mem_flatMap]
  exact ⟨c, by rcases hc with rfl | rfl <;> simp [curs], List.mem_map.2 ⟨a, ha, rfl⟩⟩
theorem mvE_eq {acs : List ByteArray} {n : Int} {u : Bool} {m r : Nat} {ac cu : ByteArray} (hr : r = m % acs.length) (h : acs[r]? = some ac) (hu : curOf ⟨n, u, m⟩ = cu) : mvE acs ⟨n, u, m⟩ = [⟨ac, cu, n⟩, ⟨sX, cu, -n⟩] := by
  unfold mvE acOf
  rw [hu, List.getD_eq_getElem?_getD, ← hr, h]
  rfl
end Go.Proofs.YtpkiiegadckloaaDoor
