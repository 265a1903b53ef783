/- Sums that one bank sends, and a beginning of them that the other one books: the plain law; rows of moves. -/
import Derived.Test.YtpkiiegadckloaaDoorLaw
set_option linter.unusedSimpArgs false
set_option linter.unusedVariables false
namespace Go.Proofs.YtpkiiegadckloaaDoor
open Go.RowKit

def mvflat : List Mv → List Value
  | [] => []
  | m :: r => .int .i16 m.n :: .bool m.usd :: .int .u8 m.acct :: mvflat r
theorem mvflat_app (l m : List Mv) : mvflat (l ++ m) = mvflat l ++ mvflat m := by
  induction l with
  | nil => rfl
  | cons p r ih => simp [mvflat, ih]
theorem mvflat_length : ∀ l : List Mv, (mvflat l).length = l.length * 3
  | [] => rfl
  | _ :: r => by simp [mvflat, mvflat_length r]; omega
theorem mvflat_one : ∀ (l : List Mv), ∀ u ∈ mvflat l, u.oneCell' = true
  | [], _, h => by cases h
  | e :: r, u, h => by
    simp only [mvflat, List.mem_cons] at h
    rcases h with rfl | rfl | rfl | h
    · rfl
    · rfl
    · rfl
    · exact mvflat_one r u h
theorem mvflat_at : ∀ (l : List Mv) (k j : Nat), k < l.length → j < 3 → (mvflat l)[k * 3 + j]? = (mvV (mv l k))[j]?
  | [], _, _, h, _ => by simp at h
  | e :: r, 0, j, _, hj => by
    rcases j with _ | _ | _ | j
    · rfl
    · rfl
    · rfl
    · omega
  | e :: r, k + 1, j, h, hj => by
    have := mvflat_at r k j (by simpa using h) hj
    rw [show (k + 1) * 3 + j = (k * 3 + j) + 1 + 1 + 1 by omega]
    simp only [mvflat, List.getElem?_cons_succ]
    exact this
theorem mvflat_set : ∀ (l : List Mv) (k : Nat) (n : Int), k < l.length → (mvflat l).set (k * 3) (.int .i16 n) = mvflat (l.set k ⟨n, (mv l k).usd, (mv l k).acct⟩)
  | [], _, _, h => by simp at h
  | q :: r, 0, n, _ => rfl
  | q :: r, k + 1, n, h => by
    have := mvflat_set r k n (by simpa using h)
    rw [show (k + 1) * 3 = k * 3 + 1 + 1 + 1 by omega]
    simp only [mvflat, List.set_cons_succ, this]
    rfl
theorem info37 : (Tryd.prog.info? 37).map (fun i => (i.zero, i.size, i.bytes)) = some (some (.agg #[.int .i16 0, .bool false, .int .u8 0]), 3, 4) := by kernel_rfl
theorem MS_of_row {w : World} {base g c : Nat} {l : List Mv} (h : w.ownsRow base 37 3 (.slice (some ⟨g, 0, none⟩) l.length c) l.length (mvflat l)) : MS w (some ⟨g, 0, none⟩) l := by
  refine Or.inr ⟨g, 0, rfl, (h.lt _ rfl).2, fun k hk => ?_⟩
  intro j v hv
  have hj : j < 3 := by
    have := (List.getElem?_eq_some_iff.1 hv).1
    simpa [mvV] using this
  rw [Nat.zero_add, h.cellAt (k * 3 + j) (by omega), mvflat_at l k j hk hj]
  exact hv

/-- A sum as it is sent, and as it is got. -/
def red (x : Nat) : Nat := x % 30000
def mvA (x : Nat) : Mv := ⟨red x + 1, false, 0⟩
def mvB (x : Nat) : Mv := ⟨-(red x : Int) - 1, false, 0⟩
theorem red_lt (x : Nat) : red x < 30000 := Nat.mod_lt _ (by decide)
theorem okA (l : List Nat) : ∀ m ∈ l.map mvA, MvOK m := by
  intro m hm
  obtain ⟨x, _, rfl⟩ := List.mem_map.1 hm
  have := red_lt x
  exact ⟨by simp only [mvA]; omega, by simp only [mvA]; omega, show 0 < 256 by decide⟩
theorem okB (l : List Nat) : ∀ m ∈ l.map mvB, MvOK m := by
  intro m hm
  obtain ⟨x, _, rfl⟩ := List.mem_map.1 hm
  have := red_lt x
  exact ⟨by simp only [mvB]; omega, by simp only [mvB]; omega, show 0 < 256 by decide⟩

theorem movP_one {ac : ByteArray} {sg : Int} (hne : ac ≠ sX) (l : List Mv) (h : ∀ m ∈ l, m.usd = false ∧ 0 < m.n * sg) : ∀ k, k ≤ l.length → movP ac sg (bkN [ac] l k) = (l.take k).map fun m => (sEur, m.n * sg)
  | 0, _ => by simp [bkN, movP]
  | k + 1, hk => by
    have ih := movP_one hne l h k (by omega)
    have hk' : k < l.length := by omega
    have hm : mv l k = l[k] := by simp [mv, List.getD_eq_getElem?_getD, hk']
    obtain ⟨hu, hp⟩ := h l[k] (List.getElem_mem hk')
    rw [bkN_succ]
    simp only [movP, List.flatMap_append, List.flatMap_cons, List.flatMap_nil, List.append_nil] at ih ⊢
    rw [ih, List.take_add_one, List.map_append, hm]
    congr 1
    simp only [movE, mvE, List.flatMap_cons, List.flatMap_nil, List.append_nil, List.getElem?_eq_getElem hk', Option.toList_some, List.map_cons, List.map_nil]
    unfold mov1
    have h1 : acOf [ac] l[k] = ac := by simp [acOf, Nat.mod_one]
    have h2 : curOf l[k] = sEur := by simp [curOf, hu]
    rw [if_pos ⟨h1, hp⟩, if_neg (fun e => hne e.1.symm), h2]
    rfl

theorem mn_map {l : List Mv} {f : Mv → Mon} {k : Nat} (hk : k < l.length) : mn (l.map f) k = f (mv l k) := by
  simp [mn, mv, List.getD_eq_getElem?_getD, hk]
theorem mv_map {l : List Nat} {f : Nat → Mv} {k : Nat} (hk : k < l.length) : mv (l.map f) k = f (l.getD k 0) := by
  simp [mv, List.getD_eq_getElem?_getD, hk]

def sentL (l : List Nat) : List Mon := (l.map mvA).map fun m => (sEur, m.n * 1)
def gotL (b : List Mv) : List Mon := b.map fun m => (sEur, m.n * (-1))
theorem sent_is (l : List Nat) : movP (vos sTo) 1 (bkN [sVosTo] (l.map mvA) (l.map mvA).length) = sentL l := by
  have h := movP_one (ac := sVosTo) (sg := 1) (by decide) (l.map mvA) (fun m hm => by
    obtain ⟨x, _, rfl⟩ := List.mem_map.1 hm
    exact ⟨rfl, by simp only [mvA]; omega⟩) _ (Nat.le_refl _)
  rw [List.take_length] at h
  exact h
theorem got_is (b : List Mv) (hb : ∀ m ∈ b, m.usd = false ∧ m.n < 0) : movP (nos sFrom) (-1) (bkN [sNosFrom] b b.length) = gotL b := by
  have h := movP_one (ac := sNosFrom) (sg := -1) (by decide) b (fun m hm => ⟨(hb m hm).1, by have := (hb m hm).2; omega⟩) _ (Nat.le_refl _)
  rw [List.take_length] at h
  exact h

theorem rem_begin (fr to : ByteArray) (l : List Nat) (t : Nat) (ht : t ≤ l.length) : remL fr to (sentL l) (gotL ((l.take t).map mvB)) = [] := by
  refine remL_none _ _ _ _ (fun j hj => ?_)
  simp [gotL] at hj
  have hjl : j < l.length := by omega
  unfold badAt
  have h1 : mn (sentL l) j = (sEur, (red (l.getD j 0) : Int) + 1) := by
    unfold sentL
    rw [mn_map (by simpa using hjl), mv_map hjl]
    simp [mvA]
  have h2 : mn (gotL ((l.take t).map mvB)) j = (sEur, (red (l.getD j 0) : Int) + 1) := by
    unfold gotL
    rw [mn_map (by simp; omega), mv_map (by simp; omega)]
    simp [mvB, List.getD_eq_getElem?_getD, List.getElem?_take, show j < t by omega]
    omega
  rw [h1, h2]
  simp [sentL]
  exact hjl
theorem remL_one (fr to : ByteArray) (sent got : List Mon) (k : Nat) (hk : k < got.length) (h : badAt sent got k = true) : (remL fr to sent got).length = 1 := by
  unfold remL
  cases hf : (List.range got.length).find? (badAt sent got) with
  | none =>
    rw [List.find?_eq_none] at hf
    exact absurd h (by simpa using hf k (List.mem_range.2 hk))
  | some j => rfl
/-- The sum at k booked otherwise. -/
def spoil (b : List Mv) (k : Nat) : List Mv := b.set k ⟨(mv b k).n - 1, (mv b k).usd, (mv b k).acct⟩
theorem spoil_ok (l : List Nat) (k : Nat) (hk : k < l.length) : ∀ m ∈ spoil (l.map mvB) k, MvOK m ∧ m.usd = false ∧ m.n < 0 := by
  intro m hm
  have key : ∀ x : Nat, MvOK (mvB x) ∧ (mvB x).usd = false ∧ (mvB x).n < 0 := fun x => by
    have := red_lt x
    exact ⟨⟨by simp only [mvB]; omega, by simp only [mvB]; omega, show 0 < 256 by decide⟩, rfl, by simp only [mvB]; omega⟩
  unfold spoil at hm
  rcases List.mem_or_eq_of_mem_set hm with h | rfl
  · obtain ⟨x, _, rfl⟩ := List.mem_map.1 h
    exact key x
  · rw [mv_map hk]
    have := red_lt (l.getD k 0)
    exact ⟨⟨by simp only [mvB]; omega, by simp only [mvB]; omega, show 0 < 256 by decide⟩, rfl, by simp only [mvB]; omega⟩
theorem rem_spoil (fr to : ByteArray) (l : List Nat) (t k : Nat) (ht : t ≤ l.length) (hk : k < t) : (remL fr to (sentL l) (gotL (spoil ((l.take t).map mvB) k))).length = 1 := by
  refine remL_one _ _ _ _ k (by simp [gotL, spoil]; omega) ?_
  have hjl : k < l.length := by omega
  unfold badAt
  have h1 : mn (sentL l) k = (sEur, (red (l.getD k 0) : Int) + 1) := by
    unfold sentL
    rw [mn_map (by simpa using hjl), mv_map hjl]
    simp [mvA]
  have hm : mv ((l.take t).map mvB) k = mvB (l.getD k 0) := by
    rw [mv_map (by simp; omega)]
    simp [List.getD_eq_getElem?_getD, List.getElem?_take, hk]
  have h2 : mn (gotL (spoil ((l.take t).map mvB) k)) k = (sEur, (red (l.getD k 0) : Int) + 2) := by
    unfold gotL
    rw [mn_map (by simp [spoil]; omega)]
    have : mv (spoil ((l.take t).map mvB) k) k = ⟨(mvB (l.getD k 0)).n - 1, false, 0⟩ := by
      unfold spoil
      rw [hm]
      unfold mv
      rw [List.getD_eq_getElem?_getD, List.getElem?_set_self (by simp; omega)]
      rfl
    rw [this]
    simp [mvB]
    omega
  rw [h1, h2]
  have hne : ¬ ((sEur, (red (l.getD k 0) : Int) + 1) : Mon) = (sEur, (red (l.getD k 0) : Int) + 2) := fun e => by
    have := (Prod.mk.inj e).2
    omega
  rw [decide_eq_false hne]
  simp
end Go.Proofs.YtpkiiegadckloaaDoor
