/- A book of credits: what stays true of it, whatever is held, taken, let go. -/
import Derived.Test.YtpkiiegadckloaaDoorLes
import Derived.Test.YtpkiiegadckloaaDoorBkd
set_option linter.unusedSimpArgs false
set_option linter.unusedVariables false
namespace Go.Proofs.YtpkiiegadckloaaDoor
open Go.RowKit

abbrev sD1 : ByteArray := ⟨#[99, 114, 101, 100, 105, 116, 58, 100, 49]⟩
abbrev sD2 : ByteArray := ⟨#[99, 114, 101, 100, 105, 116, 58, 100, 50]⟩
abbrev sOther : ByteArray := ⟨#[111, 116, 104, 101, 114]⟩
abbrev sCredit : ByteArray := ⟨#[99, 114, 101, 100, 105, 116]⟩
abbrev sTake : ByteArray := ⟨#[116, 97, 107, 101, 32]⟩
abbrev sAa : ByteArray := ⟨#[97]⟩
abbrev sBb : ByteArray := ⟨#[98]⟩
/-- The few names of holds. -/
def U (id : ByteArray) : Prop := id = sD1 ∨ id = sD2 ∨ id = sOther ∨ id = sCredit
theorem U.good {id : ByteArray} (h : U id) : allB goodN id ∧ 1 ≤ id.size ∧ id.size ≤ 9 := by
  rcases h with rfl | rfl | rfl | rfl <;> exact ⟨by decide, by decide, by decide⟩

/-- An account, its numbers no greater than b. -/
def AccB (A : Key → Option Acc) (b : Int) (k : Key) : Prop := ∃ x, A k = some x ∧ -1099511627776 ≤ x.floor ∧ x.floor ≤ 0 ∧ -b ≤ x.bal ∧ x.bal ≤ b ∧ -b ≤ x.held ∧ x.held ≤ b
theorem AccB.mono {A : Key → Option Acc} {b c : Int} {k : Key} (h : AccB A b k) (hbc : b ≤ c) : AccB A c k := by
  obtain ⟨x, h1, h2, h3, h4, h5, h6, h7⟩ := h
  exact ⟨x, h1, h2, h3, by omega, by omega, by omega, by omega⟩
theorem AccB.held {A : Key → Option Acc} {b d : Int} {k j : Key} {x : Acc} {n : Int} (h : AccB A b k) (hx : A j = some x) (h2 : -1099511627776 ≤ x.floor ∧ x.floor ≤ 0 ∧ -b ≤ x.bal ∧ x.bal ≤ b ∧ -b ≤ x.held ∧ x.held ≤ b) (hn : -d ≤ n) (hn' : n ≤ d) (hd : 0 ≤ d) :
    AccB (upd A j ⟨x.floor, x.bal, x.held + n⟩) (b + d) k := by
  obtain ⟨h2, h3, h4, h5, h6, h7⟩ := h2
  unfold AccB upd
  by_cases hk : k = j
  · rw [if_pos hk]
    exact ⟨_, rfl, by simp only; omega, by simp only; omega, by simp only; omega, by simp only; omega, by simp only; omega, by simp only; omega⟩
  · rw [if_neg hk]
    exact h.mono (by omega)
theorem AccB.post {A : Key → Option Acc} {cl : List (Key × Int)} {b c : Int} {k : Key} (h : AccB A b k) (hn : ∀ p ∈ cl, -c ≤ p.2 ∧ p.2 ≤ c) (hc : 0 ≤ c) : AccB (chgA A cl) (b + c) k := by
  obtain ⟨x, hx, h1, h2, h3, h4, h5, h6⟩ := h
  unfold AccB chgA
  cases hl : lkI cl k with
  | none => exact ⟨x, hx, h1, h2, by omega, by omega, by omega, by omega⟩
  | some n =>
    unfold lkI at hl
    obtain ⟨p, hp, rfl⟩ := Option.map_eq_some_iff.1 hl
    have := hn p (List.mem_of_find?_eq_some hp)
    exact ⟨⟨x.floor, x.bal + p.2, x.held⟩, by rw [hx]; rfl, h1, h2, by simp only; omega, by simp only; omega, by simp only; omega, by simp only; omega⟩

/-- Holds are of the few names, on the account a, of small sums. -/
def HOK (hl : List (ByteArray × Value)) : Prop := ∀ id u, fnd hl id = some u → U id ∧ ∃ n : Int, u = hv id sAa sEur n ∧ 1 ≤ n ∧ n ≤ 65535
theorem HOK.put {hl : List (ByteArray × Value)} (h : HOK hl) {id : ByteArray} (hu : U id) {n : Int} (h1 : 1 ≤ n) (h2 : n ≤ 65535) : HOK (put id (hv id sAa sEur n) hl) := by
  intro j u hj
  rw [fnd_put] at hj
  by_cases hk : j = id
  · rw [if_pos hk] at hj
    subst hk
    exact ⟨hu, n, (Option.some.inj hj).symm, h1, h2⟩
  · rw [if_neg hk] at hj
    exact h j u hj
theorem HOK.del {hl : List (ByteArray × Value)} (h : HOK hl) (hn : (hl.map (·.1)).Nodup) (id : ByteArray) : HOK (del id hl) := by
  intro j u hj
  rw [fnd_del hn] at hj
  by_cases hk : j = id
  · rw [if_pos hk] at hj; cases hj
  · rw [if_neg hk] at hj
    exact h j u hj
theorem HOK.less {hl : List (ByteArray × Value)} (h : HOK hl) (hn : (hl.map (·.1)).Nodup) {id : ByteArray} (hu : U id) {n m : Int} (h0 : 0 ≤ m) (h1 : m ≤ n) (h2 : n ≤ 65535) : HOK (lessH id sAa sEur (n - m) hl) := by
  unfold lessH
  split
  · exact h.del hn id
  · exact h.put hu (by omega) (by omega)
theorem lessH_length (id ac cu : ByteArray) (d : Int) (hl : List (ByteArray × Value)) : (lessH id ac cu d hl).length ≤ hl.length + 1 := by
  unfold lessH
  split
  · exact Nat.le_succ_of_le (del_length _ _)
  · exact put_length _ _ _

/-- Posts are takes of the few names. -/
def PsOK (ps : List Pst) : Prop := ∀ p ∈ ps, (∃ id, U id ∧ p.text = sTake ++ id) ∧ p.ents.length = 2

/-- The book behind k acts. -/
def Cst (w : World) (g k base : Nat) : Prop := ∃ (A : Key → Option Acc) (ps : List Pst) (hl : List (ByteArray × Value)) (S : Nat → Prop), LedAt w g sG 2 A ps hl S ∧ AccB A (131072 * k) (sAa, sEur) ∧ AccB A (131072 * k) (sBb, sEur) ∧
  HOK hl ∧ hl.length ≤ k ∧ ps.length ≤ k ∧ PsOK ps ∧ ∀ j, S j → base ≤ j
theorem Cst.keepB {w w' : World} {g k base : Nat} (h : Cst w g k base) (hb : Below w.heap.size w w') : Cst w' g k base := by
  obtain ⟨A, ps, hl, S, h1, h2⟩ := h
  exact ⟨A, ps, hl, S, h1.keepB hb, h2⟩
theorem Cst.more {w : World} {g k base : Nat} (h : Cst w g k base) : Cst w g (k + 1) base := by
  obtain ⟨A, ps, hl, S, h1, h2, h3, h4, h5, h6, h7, h8⟩ := h
  exact ⟨A, ps, hl, S, h1, h2.mono (by omega), h3.mono (by omega), h4, by omega, by omega, h7, h8⟩
def IntRet (r : Ending) : Prop := ∃ c : Int, r = .returned (.int .i64 c)
/-- What an act leaves. -/
def Acted (w : World) (g k base : Nat) (r : Ending) (w' : World) : Prop := IntRet r ∧ Cst w' g (k + 1) base ∧ Below base w w'
theorem acted {w w' : World} {g k base : Nat} {c : Int} (h1 : Cst w' g (k + 1) base) (h2 : Below base w w') : Acted w g k base (.returned (.int .i64 c)) w' := ⟨⟨c, rfl⟩, h1, h2⟩
theorem LedAt.hnodup {w : World} {g : Nat} {ow : ByteArray} {na : Nat} {A : Key → Option Acc} {ps : List Pst} {hl : List (ByteArray × Value)} {S : Nat → Prop} (h : LedAt w g ow na A ps hl S) : (hl.map (·.1)).Nodup := by
  obtain ⟨ma, mh, v, pl, la, h, h2⟩ := h
  exact h.hld.nodup
end Go.Proofs.YtpkiiegadckloaaDoor
