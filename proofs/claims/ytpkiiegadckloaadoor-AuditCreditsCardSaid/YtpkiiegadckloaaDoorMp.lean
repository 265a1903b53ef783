/- Maps as lists of keys and values, whatever the key's type: look-up, update, 'm[k] += v', a range. -/
import Derived.Below
import Derived.Maps.RangeRun
import Derived.Laws.OwnMore
namespace Go.Proofs.YtpkiiegadckloaaDoor
open Go.RowKit
open Go.ChangeMaps (setBlock)

section
variable {P : Program} {α : Type} [DecidableEq α]

/-- Where a key stands, and what it holds. -/
def idx (a : α) : List (α × Value) → Nat → Option (Nat × Value)
  | [], _ => none
  | (b, v) :: r, i => if a = b then some (i, v) else idx a r (i + 1)
/-- What a key holds; z where it isn't there. -/
def look (l : List (α × Value)) (a : α) (z : Value) : Value := ((idx a l 0).map (·.2)).getD z
def isin (l : List (α × Value)) (a : α) : Bool := (idx a l 0).isSome
/-- The map with a value put at a key. -/
def put (a : α) (v : Value) : List (α × Value) → List (α × Value)
  | [] => [(a, v)]
  | (b, u) :: r => if a = b then (b, v) :: r else (b, u) :: put a v r

theorem idx_none {a : α} {l : List (α × Value)} {i : Nat} (h : idx a l i = none) (v : Value) : put a v l = l ++ [(a, v)] := by
  induction l generalizing i with
  | nil => rfl
  | cons p r ih =>
    obtain ⟨b, u⟩ := p
    simp only [idx] at h
    split at h
    · cases h
    · rename_i hne
      simp only [put, if_neg hne, List.cons_append, ih h]
theorem idx_some {a : α} {l : List (α × Value)} {i j : Nat} {u : Value} (h : idx a l i = some (j, u)) : i ≤ j ∧ l[j - i]? = some (a, u) ∧ ∀ v, put a v l = l.set (j - i) (a, v) := by
  induction l generalizing i with
  | nil => cases h
  | cons p r ih =>
    obtain ⟨b, u'⟩ := p
    simp only [idx] at h
    split at h
    · rename_i he
      cases h
      subst he
      exact ⟨Nat.le_refl _, by simp, fun v => by simp [put]⟩
    · rename_i hne
      obtain ⟨h1, h2, h3⟩ := ih h
      refine ⟨by omega, ?_, fun v => ?_⟩
      · rw [show j - i = (j - (i + 1)) + 1 by omega, List.getElem?_cons_succ]; exact h2
      · rw [show j - i = (j - (i + 1)) + 1 by omega, List.set_cons_succ, put, if_neg hne, h3 v]

theorem put_mem {a b : α} {v : Value} {l : List (α × Value)} (h : b ∈ (put a v l).map (·.1)) : b = a ∨ b ∈ l.map (·.1) := by
  induction l with
  | nil => simp [put] at h; exact Or.inl h
  | cons p r ih =>
    obtain ⟨c, u⟩ := p
    simp only [put] at h
    split at h
    · simp only [List.map_cons, List.mem_cons] at h ⊢
      exact Or.inr h
    · simp only [List.map_cons, List.mem_cons] at h ⊢
      rcases h with h | h
      · exact Or.inr (Or.inl h)
      · exact (ih h).imp id Or.inr
theorem put_nodup {a : α} {v : Value} {l : List (α × Value)} (h : (l.map (·.1)).Nodup) : ((put a v l).map (·.1)).Nodup := by
  induction l with
  | nil => simp [put]
  | cons p r ih =>
    obtain ⟨c, u⟩ := p
    simp only [List.map_cons, List.nodup_cons] at h
    simp only [put]
    split
    · simp only [List.map_cons, List.nodup_cons]; exact h
    · rename_i hne
      simp only [List.map_cons, List.nodup_cons]
      refine ⟨fun hm => ?_, ih h.2⟩
      rcases put_mem hm with e | hm
      · exact hne e.symm
      · exact h.1 hm
theorem idx_of_get {a : α} {u : Value} {l : List (α × Value)} (h : (l.map (·.1)).Nodup) {j : Nat} (hj : l[j]? = some (a, u)) (i : Nat) : idx a l i = some (i + j, u) := by
  induction l generalizing i j with
  | nil => simp at hj
  | cons p r ih =>
    obtain ⟨c, u'⟩ := p
    simp only [List.map_cons, List.nodup_cons] at h
    cases j with
    | zero => simp at hj; obtain ⟨rfl, rfl⟩ := hj; simp [idx]
    | succ j =>
      rw [List.getElem?_cons_succ] at hj
      have hne : a ≠ c := fun e => h.1 (e ▸ List.mem_map.2 ⟨(a, u), List.mem_of_getElem? hj, rfl⟩)
      simp only [idx, if_neg hne]
      rw [ih h.2 hj]
      congr 2
      omega

/-- What the laws need of a key's type. -/
structure KL (P : Program) (K : TypeId) (enc : α → Value) : Prop where
  inj : ∀ {a b : α}, enc a = enc b → a = b
  check : ∀ (w : World) (em : Bool) (a : α), (Instr.checkKey em 10000 K (enc a)).run P w = .ok () w
  find : ∀ (w : World) (a : α) (l : List (α × Value)) (es : List MapEntry), es.map (fun e => (e.key, e.val)) = l.map (fun p => (enc p.1, p.2)) → (Instr.findKey K (enc a) es).run P w = .ok (idx a l 0) w
  stays : ∀ (w : World) (a : α), (Instr.keyThatStays (enc a) (enc a)).run P w = .ok (enc a) w

/-- The block m is a map of these entries. -/
structure MapE (enc : α → Value) (w : World) (m : Nat) (l : List (α × Value)) (es : Array MapEntry) (clock : Nat) : Prop where
  blk : w.heap[m]? = some (.map es clock)
  ents : es.toList.map (fun e => (e.key, e.val)) = l.map (fun p => (enc p.1, p.2))
  born : ∀ e ∈ es.toList, e.born < clock
  nodup : (es.toList.map (·.born)).Nodup
  keys : (l.map (·.1)).Nodup
def MapAt (enc : α → Value) (w : World) (m : Nat) (l : List (α × Value)) : Prop := ∃ es clock, MapE enc w m l es clock

variable {enc : α → Value} {w : World} {m : Nat} {l : List (α × Value)} {T K E : TypeId}

theorem set_heap (w : World) (m : Nat) (o : Obj) (h : m < w.heap.size) : (setBlock w m o).heap[m]? = some o := by simp [setBlock, h]
theorem grown_set (w : World) (m : Nat) (o : Obj) : w.grownBy (setBlock w m o) (some m) :=
  ⟨rfl, rfl, rfl, by simp [setBlock], fun k _ hne => by simp only [setBlock]; rw [Array.getElem?_setIfInBounds_ne (fun e => hne (by rw [e]))]⟩

omit [DecidableEq α] in
theorem MapAt.lt (h : MapAt enc w m l) : m < w.heap.size := by
  obtain ⟨es, clock, h⟩ := h
  exact (Array.getElem?_eq_some_iff.1 h.blk).1
omit [DecidableEq α] in
theorem MapE.keep {es : Array MapEntry} {clock : Nat} {w' : World} (h : MapE enc w m l es clock) (hb : w'.heap[m]? = w.heap[m]?) : MapE enc w' m l es clock := ⟨hb.trans h.blk, h.ents, h.born, h.nodup, h.keys⟩
omit [DecidableEq α] in
theorem MapAt.keep {w' : World} (h : MapAt enc w m l) (hb : w'.heap[m]? = w.heap[m]?) : MapAt enc w' m l := let ⟨es, clock, h⟩ := h; ⟨es, clock, h.keep hb⟩

omit [DecidableEq α] in
theorem MapAt.made (w : World) : MapAt enc (w.alloc (.map #[] 0)) w.heap.size [] :=
  ⟨#[], 0, ⟨by show (w.heap.push _)[w.heap.size]? = _; simp, rfl, (fun e h => by simp at h), by simp, by simp⟩⟩

theorem run_look (L : KL P K enc) (h : MapAt enc w m l) (ht : P.underlying T = some (.map K E)) {z : Value} (hz : (zeroValue E).run P w = .ok z w) (a : α) (c : Bool) :
    (Instr.lookup T (.map (some m)) (enc a) c).run P w = .ok (if c then .tuple #[look l a z, .bool (isin l a)] else look l a z) w := by
  obtain ⟨es, clock, h⟩ := h
  unfold Instr.lookup
  simp only [Sem.run_bind, run_underlying ht, MapKept.run_getObj_map h.blk, Sem.run_pure, Result.andThen_ok, L.check, L.find w a l es.toList h.ents]
  unfold look isin
  cases hi : idx a l 0 with
  | none => cases c <;> simp [hz]
  | some p => obtain ⟨j, u⟩ := p; cases c <;> simp

/-- 'm[k] = v'. -/
theorem run_put (L : KL P K enc) (h : MapAt enc w m l) (ht : P.underlying T = some (.map K E)) (a : α) (v : Value) :
    ∃ w', (Instr.mapUpdate T (.map (some m)) (enc a) v).run P w = .ok () w' ∧ MapAt enc w' m (put a v l) ∧ w.grownBy w' (some m) ∧ w'.heap.size = w.heap.size := by
  have hlt := h.lt
  obtain ⟨es, clock, h⟩ := h
  have hf := L.find w a l es.toList h.ents
  cases hi : idx a l 0 with
  | none =>
    rw [hi] at hf
    refine ⟨setBlock w m (.map (es.push ⟨enc a, v, clock⟩) (clock + 1)), ?_, ⟨_, _, ⟨set_heap w m _ hlt, ?_, ?_, ?_, put_nodup h.keys⟩⟩, grown_set w m _, by simp [setBlock]⟩
    · simp [Instr.mapUpdate, run_underlying ht, MapKept.run_getObj_map h.blk, L.check w false a, hf, MapKept.run_setObj_map _ h.blk, Result.andThen, setBlock]
    · rw [idx_none hi v]
      simp [h.ents]
    · intro e he
      simp only [Array.toList_push, List.mem_append, List.mem_singleton] at he
      rcases he with he | rfl
      · have := h.born e he; omega
      · simp
    · simp only [Array.toList_push, List.map_append, List.map_cons, List.map_nil]
      rw [List.nodup_append]
      refine ⟨h.nodup, by simp, fun x hx y hy => ?_⟩
      obtain ⟨e, he, rfl⟩ := List.mem_map.1 hx
      have := h.born e he
      simp at hy
      omega
  | some p =>
    obtain ⟨j, u⟩ := p
    rw [hi] at hf
    obtain ⟨_, h2, h3⟩ := idx_some hi
    rw [Nat.sub_zero] at h2 h3
    have hen : (es.toList.map (fun e => (e.key, e.val)))[j]? = some (enc a, u) := by rw [h.ents, List.getElem?_map, h2]; rfl
    rw [List.getElem?_map] at hen
    obtain ⟨e0, he0, hek⟩ := Option.map_eq_some_iff.1 hen
    have hj : es[j]? = some e0 := by simpa using he0
    simp only [Prod.mk.injEq] at hek
    have hjl : j < es.size := (Array.getElem?_eq_some_iff.1 hj).1
    refine ⟨setBlock w m (.map (es.modify j fun e' => { e' with key := enc a, val := v }) clock), ?_, ⟨_, _, ⟨set_heap w m _ hlt, ?_, ?_, ?_, put_nodup h.keys⟩⟩, grown_set w m _, by simp [setBlock]⟩
    · simp [Instr.mapUpdate, run_underlying ht, MapKept.run_getObj_map h.blk, L.check w false a, hf, hj, hek.1, L.stays w a, MapKept.run_setObj_map _ h.blk, Result.andThen, setBlock]
    · rw [h3 v, List.map_set, ← h.ents]
      rw [Array.toList_modify]
      apply List.ext_getElem?
      intro i
      simp only [List.getElem?_map, List.getElem?_modify, List.getElem?_set, List.length_map]
      by_cases hij : j = i
      · subst hij
        simp [hjl]
      · simp [hij]
    · intro e he
      rw [Array.toList_modify] at he
      obtain ⟨i, hi', rfl⟩ := List.getElem_of_mem he
      have hi2 : i < es.toList.length := by simpa using hi'
      have := h.born es.toList[i] (List.getElem_mem hi2)
      simp only [List.getElem_modify]
      split <;> exact this
    · rw [Array.toList_modify]
      have : (es.toList.modify j fun e' => { e' with key := enc a, val := v }).map (·.born) = es.toList.map (·.born) := by
        apply List.ext_getElem?
        intro i
        simp only [List.getElem?_map, List.getElem?_modify]
        split
        · cases es.toList[i]? <;> rfl
        · cases es.toList[i]? <;> rfl
      rw [this]
      exact h.nodup

theorem nodup_get {β : Type} {l : List β} (h : l.Nodup) {i j : Nat} {x : β} (hi : l[i]? = some x) (hj : l[j]? = some x) : i = j := by
  induction l generalizing i j with
  | nil => simp at hi
  | cons y r ih =>
    simp only [List.nodup_cons] at h
    cases i with
    | zero =>
      cases j with
      | zero => rfl
      | succ j => simp at hi hj; subst hi; exact absurd (List.mem_of_getElem? hj) h.1
    | succ i =>
      cases j with
      | zero => simp at hi hj; subst hj; exact absurd (List.mem_of_getElem? hi) h.1
      | succ j => simp at hi hj; rw [ih h.2 hi hj]

/-- The entry of a key bears this stamp. -/
def Stamp (enc : α → Value) (w : World) (m : Nat) (a : α) (s : Nat) : Prop := ∃ (es : Array MapEntry) (clock j : Nat) (e : MapEntry), w.heap[m]? = some (.map es clock) ∧ es[j]? = some e ∧ e.born = s ∧ e.key = enc a

/-- 'm[k] += v', its first half: the entry is there behind it. -/
theorem run_mapEntry (L : KL P K enc) (h : MapAt enc w m l) (ht : P.underlying T = some (.map K E)) {z : Value} (hz : (zeroValue E).run P w = .ok z w) (a : α) :
    ∃ (w' : World) (s : Nat), (Instr.mapEntry T (.map (some m)) (enc a)).run P w = .ok (.tuple #[look l a z, goInt s]) w' ∧ MapAt enc w' m (put a (look l a z) l) ∧ Stamp enc w' m a s ∧ w.grownBy w' (some m) ∧ w'.heap.size = w.heap.size := by
  have hlt := h.lt
  obtain ⟨es, clock, h⟩ := h
  have hf := L.find w a l es.toList h.ents
  cases hi : idx a l 0 with
  | none =>
    rw [hi] at hf
    have hz' : look l a z = z := by simp [look, hi]
    rw [hz']
    refine ⟨setBlock w m (.map (es.push ⟨enc a, z, clock⟩) (clock + 1)), clock, ?_, ⟨_, _, ⟨set_heap w m _ hlt, ?_, ?_, ?_, put_nodup h.keys⟩⟩, ⟨_, _, es.size, _, set_heap w m _ hlt, Array.getElem?_push_size, rfl, rfl⟩, grown_set w m _, by simp [setBlock]⟩
    · simp [Instr.mapEntry, run_underlying ht, MapKept.run_getObj_map h.blk, L.check w false a, hf, hz, MapKept.run_setObj_map _ h.blk, Result.andThen, setBlock]
    · rw [idx_none hi z]
      simp [h.ents]
    · intro e he
      simp only [Array.toList_push, List.mem_append, List.mem_singleton] at he
      rcases he with he | rfl
      · have := h.born e he; omega
      · simp
    · simp only [Array.toList_push, List.map_append, List.map_cons, List.map_nil]
      rw [List.nodup_append]
      refine ⟨h.nodup, by simp, fun x hx y hy => ?_⟩
      obtain ⟨e, he, rfl⟩ := List.mem_map.1 hx
      have := h.born e he
      simp at hy
      omega
  | some p =>
    obtain ⟨j, u⟩ := p
    rw [hi] at hf
    have hz' : look l a z = u := by simp [look, hi]
    rw [hz']
    obtain ⟨_, h2, h3⟩ := idx_some hi
    rw [Nat.sub_zero] at h2 h3
    have hen : (es.toList.map (fun e => (e.key, e.val)))[j]? = some (enc a, u) := by rw [h.ents, List.getElem?_map, h2]; rfl
    rw [List.getElem?_map] at hen
    obtain ⟨e0, he0, hek⟩ := Option.map_eq_some_iff.1 hen
    have hj : es[j]? = some e0 := by simpa using he0
    simp only [Prod.mk.injEq] at hek
    have hjl : j < es.size := (Array.getElem?_eq_some_iff.1 hj).1
    have hmod : es.modify j (fun e => { e with key := enc a }) = es := by
      apply Array.ext_getElem?
      intro i
      rw [Array.getElem?_modify]
      split
      · rename_i hij
        subst hij
        rw [hj, ← hek.1]
        rfl
      · rfl
    refine ⟨setBlock w m (.map es clock), e0.born, ?_, ⟨_, _, ⟨set_heap w m _ hlt, ?_, h.born, h.nodup, put_nodup h.keys⟩⟩, ⟨_, _, j, e0, set_heap w m _ hlt, hj, rfl, hek.1⟩, grown_set w m _, by simp [setBlock]⟩
    · simp [Instr.mapEntry, run_underlying ht, MapKept.run_getObj_map h.blk, L.check w false a, hf, hj, hek.1, L.stays w a, MapKept.run_setObj_map _ h.blk, Result.andThen, setBlock]
      rw [← hek.1] at hmod
      simp only [hek.1] at hmod ⊢
      rw [hmod]
    · rw [h3 u, h.ents, List.map_set]
      apply List.ext_getElem?
      intro i
      rw [List.getElem?_set]
      split
      · rename_i hij
        subst hij
        rw [List.getElem?_map, h2]
        simp
        exact (List.getElem?_eq_some_iff.1 h2).1
      · rfl

/-- 'm[k] += v', its second half. -/
theorem run_entryStore (L : KL P K enc) (h : MapAt enc w m l) {a : α} {s : Nat} (hs : Stamp enc w m a s) (v : Value) :
    ∃ w', (Instr.entryStore T (.map (some m)) (goInt s) v).run P w = .ok () w' ∧ MapAt enc w' m (put a v l) ∧ w.grownBy w' (some m) ∧ w'.heap.size = w.heap.size := by
  have hlt := h.lt
  obtain ⟨es, clock, h⟩ := h
  obtain ⟨es', clock', j, e0, hb, hj, rfl, hk⟩ := hs
  rw [h.blk] at hb
  cases hb
  have hjl : j < es.size := (Array.getElem?_eq_some_iff.1 hj).1
  have he0 : es.toList[j]? = some e0 := by simpa using hj
  have hlj : ∃ u, l[j]? = some (a, u) := by
    have : (l.map (fun p => (enc p.1, p.2)))[j]? = some (e0.key, e0.val) := by rw [← h.ents, List.getElem?_map, he0]; rfl
    rw [List.getElem?_map] at this
    obtain ⟨p, hp, hpe⟩ := Option.map_eq_some_iff.1 this
    simp only [Prod.mk.injEq] at hpe
    exact ⟨p.2, by rw [hp]; congr 1; exact Prod.ext (L.inj (hpe.1.trans hk)) rfl⟩
  obtain ⟨u, hlj⟩ := hlj
  have hi := idx_of_get h.keys hlj 0
  obtain ⟨_, _, h3⟩ := idx_some hi
  rw [Nat.zero_add, Nat.sub_zero] at h3
  have hfind : es.findIdx? (fun e => (e.born : Int) == (e0.born : Int)) = some j := by
    rw [Array.findIdx?_eq_some_iff_getElem]
    refine ⟨hjl, ?_, fun i hij => ?_⟩
    · have : es[j] = e0 := (Array.getElem?_eq_some_iff.1 hj).2
      simp [this]
    · have hne : es.toList[i]'(by simp; omega) ≠ e0 ∧ (es.toList[i]'(by simp; omega)).born ≠ e0.born := by
        have hb : (es.toList[i]'(by simp; omega)).born ≠ e0.born := by
          intro hbe
          have hn := h.nodup
          have h1 : (es.toList.map (·.born))[i]? = some e0.born := by
            rw [List.getElem?_map, List.getElem?_eq_getElem (by simp; omega), Option.map_some, hbe]
          have h2 : (es.toList.map (·.born))[j]? = some e0.born := by rw [List.getElem?_map, he0]; rfl
          have := nodup_get hn h1 h2
          omega
        exact ⟨fun e => hb (by rw [e]), hb⟩
      simp only [Array.getElem_toList] at hne
      simp
      exact fun e => hne.2 (by omega)
  refine ⟨setBlock w m (.map (es.modify j fun e => { e with val := v }) clock), ?_, ⟨_, _, ⟨set_heap w m _ hlt, ?_, ?_, ?_, put_nodup h.keys⟩⟩, grown_set w m _, by simp [setBlock]⟩
  · unfold Instr.entryStore goInt
    simp [MapKept.run_getObj_map h.blk, hfind, asInt, asIntOf, MapKept.run_setObj_map _ h.blk, Result.andThen, setBlock]
  · rw [h3 v, List.map_set, ← h.ents, Array.toList_modify]
    apply List.ext_getElem?
    intro i
    simp only [List.getElem?_map, List.getElem?_modify, List.getElem?_set, List.length_map]
    by_cases hij : j = i
    · subst hij
      have hk' : es[j].key = enc a := by rw [(Array.getElem?_eq_some_iff.1 hj).2, hk]
      simp [hjl, hk']
    · simp [hij]
  · intro e he
    rw [Array.toList_modify] at he
    obtain ⟨i, hi', rfl⟩ := List.getElem_of_mem he
    have hi2 : i < es.toList.length := by simpa using hi'
    have := h.born es.toList[i] (List.getElem_mem hi2)
    simp only [List.getElem_modify]
    split <;> exact this
  · rw [Array.toList_modify]
    have : (es.toList.modify j fun e => { e with val := v }).map (·.born) = es.toList.map (·.born) := by
      apply List.ext_getElem?
      intro i
      simp only [List.getElem?_map, List.getElem?_modify]
      split
      · cases es.toList[i]? <;> rfl
      · cases es.toList[i]? <;> rfl
    rw [this]
    exact h.nodup

/-! ### A range over a map -/

/-- The iterator r goes over the map m; these entries are still to come. -/
def IterAt (enc : α → Value) (w : World) (r m : Nat) (l left : List (α × Value)) : Prop :=
  ∃ es clock seen, MapE enc w m l es clock ∧ w.heap[r]? = some (.mapIter (some m) clock seen clock) ∧ (leftOf es seen).toList.map (fun e => (e.key, e.val)) = left.map (fun p => (enc p.1, p.2))
/-- The iterator's last step was at this entry. -/
def CurAt (enc : α → Value) (w : World) (r m : Nat) (a : α) (v : Value) : Prop :=
  ∃ (es : Array MapEntry) (clock since : Nat) (seen : Array Nat) (e : MapEntry), w.heap[r]? = some (.mapIter (some m) since (seen.push e.born) clock) ∧ w.heap[m]? = some (.map es clock) ∧ e ∈ es.toList ∧ (es.toList.map (·.born)).Nodup ∧ e.key = enc a ∧ e.val = v

omit [DecidableEq α] in
theorem IterAt.ne {r : Nat} {left : List (α × Value)} (h : IterAt enc w r m l left) : r ≠ m := by
  obtain ⟨es, clock, seen, h, hr, _⟩ := h
  intro e
  rw [e, h.blk] at hr
  cases hr
omit [DecidableEq α] in
theorem IterAt.map {r : Nat} {left : List (α × Value)} (h : IterAt enc w r m l left) : MapAt enc w m l := let ⟨es, clock, _, h, _⟩ := h; ⟨es, clock, h⟩
omit [DecidableEq α] in
theorem IterAt.lt {r : Nat} {left : List (α × Value)} (h : IterAt enc w r m l left) : r < w.heap.size := by
  obtain ⟨es, clock, seen, h, hr, _⟩ := h
  exact (Array.getElem?_eq_some_iff.1 hr).1
omit [DecidableEq α] in
theorem IterAt.keep {w' : World} {r : Nat} {left : List (α × Value)} (h : IterAt enc w r m l left) (hm : w'.heap[m]? = w.heap[m]?) (hr : w'.heap[r]? = w.heap[r]?) : IterAt enc w' r m l left :=
  let ⟨es, clock, seen, h, h2, h3⟩ := h; ⟨es, clock, seen, h.keep hm, hr.trans h2, h3⟩
omit [DecidableEq α] in
theorem CurAt.keep {w' : World} {r : Nat} {a : α} {v : Value} (h : CurAt enc w r m a v) (hm : w'.heap[m]? = w.heap[m]?) (hr : w'.heap[r]? = w.heap[r]?) : CurAt enc w' r m a v :=
  let ⟨es, clock, since, seen, e, h1, h2, h3⟩ := h; ⟨es, clock, since, seen, e, hr.trans h1, hm.trans h2, h3⟩
omit [DecidableEq α] in
theorem CurAt.run {r : Nat} {a : α} {v : Value} (h : CurAt enc w r m a v) : (Instr.entry (.pointer (some ⟨r, 0, none⟩))).run P w = .ok (.tuple #[enc a, v]) w := by
  obtain ⟨es, clock, since, seen, e, h1, h2, h3, h4, h5, h6⟩ := h
  rw [← h5, ← h6]
  exact run_entry_at w r m since seen es clock e h1 h2 h3 h4

omit [DecidableEq α] in
theorem run_range (h : MapAt enc w m l) (ht : P.underlying T = some (.map K E)) :
    ∃ w', (Instr.range T (.map (some m))).run P w = .ok (.pointer (some ⟨w.heap.size, 0, none⟩)) w' ∧ IterAt enc w' w.heap.size m l l ∧ Below w.heap.size w w' ∧ w'.heap.size = w.heap.size + 1 := by
  have hlt := h.lt
  obtain ⟨es, clock, h⟩ := h
  refine ⟨_, run_range_map w T K E m es clock ht h.blk, ⟨es, clock, #[], h.keep (Below.heap_alloc _ _ _ hlt), ?_, ?_⟩, (Below.refl _ _).alloc (Nat.le_refl _) _, by simp⟩
  · show (w.heap.push _)[w.heap.size]? = _
    simp
  · rw [← h.ents]
    have : leftOf es #[] = es := by unfold leftOf; exact Array.filter_eq_self.2 (fun x _ => by simp)
    rw [this]

theorem left_filter (L : KL P K enc) {a : α} {b : Nat} : ∀ (es : List MapEntry) (left : List (α × Value)), es.map (fun e => (e.key, e.val)) = left.map (fun p => (enc p.1, p.2)) → (∀ x ∈ es, (x.born = b ↔ x.key = enc a)) →
    (es.filter (fun e => e.born != b)).map (fun e => (e.key, e.val)) = (left.filter (fun p => decide (p.1 ≠ a))).map (fun p => (enc p.1, p.2))
  | [], [], _, _ => rfl
  | [], _ :: _, h, _ => by simp at h
  | _ :: _, [], h, _ => by simp at h
  | x :: es, p :: left, h, hx => by
    simp only [List.map_cons, List.cons.injEq, Prod.mk.injEq] at h
    obtain ⟨⟨h1, h2⟩, h3⟩ := h
    have ih := left_filter L es left h3 (fun y hy => hx y (List.mem_cons_of_mem _ hy))
    have hh := hx x (List.mem_cons_self ..)
    by_cases hp : p.1 = a
    · have : x.born = b := hh.mpr (by rw [h1, hp])
      simp [this, hp]
      simpa using ih
    · have : ¬ x.born = b := fun e => hp (L.inj (by rw [← h1, hh.mp e]))
      simp [this, hp, h1, h2]
      simpa using ih

/-- The step of a range. -/
theorem run_next (L : KL P K enc) {r : Nat} {left : List (α × Value)} (h : IterAt enc w r m l left) (ty : TypeId) :
    (left = [] ∧ (Instr.next (.pointer (some ⟨r, 0, none⟩)) false ty).run P w = .ok (.tuple #[.bool false]) w) ∨
    ∃ a v w', (a, v) ∈ left ∧ (Instr.next (.pointer (some ⟨r, 0, none⟩)) false ty).run P w = .ok (.tuple #[.bool true, enc a, v]) w' ∧
      IterAt enc w' r m l (left.filter (fun p => decide (p.1 ≠ a))) ∧ CurAt enc w' r m a v ∧ w.grownBy w' (some r) ∧ w'.heap.size = w.heap.size := by
  have hne := h.ne
  have hlt := h.lt
  obtain ⟨es, clock, seen, h, hr, hl⟩ := h
  rcases run_next_at (P := P) w ty r m clock clock seen es clock hr h.blk h.born (Nat.le_refl _) with ⟨h0, hrun⟩ | ⟨e, he, w1, hal, hrun⟩
  · refine Or.inl ⟨?_, hrun⟩
    have : (leftOf es seen).toList.length = left.length := by
      have := congrArg List.length hl
      simpa using this
    rw [Array.length_toList, h0] at this
    exact List.length_eq_zero_iff.mp this.symm
  · have hem : (e.key, e.val) ∈ left.map (fun p => (enc p.1, p.2)) := by rw [← hl]; exact List.mem_map.2 ⟨e, he, rfl⟩
    obtain ⟨⟨a, v⟩, hp, hpe⟩ := List.mem_map.1 hem
    simp only [Prod.mk.injEq] at hpe
    have hees : e ∈ es.toList := by
      unfold leftOf at he
      simp at he ⊢
      exact he.1
    have h1 : w1.heap = w.heap := by rcases hal with rfl | rfl <;> rfl
    have hg : w.grownBy (setBlock w1 r (.mapIter (some m) clock (seen.push e.born) clock)) (some r) := by
      rcases hal with rfl | rfl
      · exact grown_set _ _ _
      · exact ⟨rfl, rfl, rfl, by simp only [setBlock, Array.size_setIfInBounds]; exact Nat.le_refl _, fun k hk hne => by simp only [setBlock]; rw [Array.getElem?_setIfInBounds_ne (fun e => hne (by rw [e]))]; rfl⟩
    have hr' : (setBlock w1 r (.mapIter (some m) clock (seen.push e.born) clock)).heap[r]? = some (.mapIter (some m) clock (seen.push e.born) clock) := set_heap w1 r _ (by rw [h1]; exact hlt)
    have hm' : (setBlock w1 r (.mapIter (some m) clock (seen.push e.born) clock)).heap[m]? = w.heap[m]? := by
      simp only [setBlock]
      rw [Array.getElem?_setIfInBounds_ne hne, h1]
    refine Or.inr ⟨a, v, _, hp, by rw [hrun, hpe.1, hpe.2], ⟨es, clock, _, h.keep hm', hr', ?_⟩, ⟨es, clock, clock, seen, e, hr', hm'.trans h.blk, hees, h.nodup, hpe.1.symm, hpe.2.symm⟩, hg, by simp [setBlock, h1]⟩
    have hlf : (leftOf es (seen.push e.born)).toList = (leftOf es seen).toList.filter (fun x => x.born != e.born) := by
      unfold leftOf
      rw [Array.toList_filter, Array.toList_filter, List.filter_filter]
      apply List.filter_congr
      intro x _
      simp only [Array.contains_push]
      cases hc : seen.contains x.born <;> simp [bne, Bool.beq_comm]
    rw [hlf]
    refine left_filter L _ _ hl (fun x hx => ?_)
    have hxes : x ∈ es.toList := by
      unfold leftOf at hx
      simp at hx ⊢
      exact hx.1
    obtain ⟨i, hi⟩ := List.mem_iff_getElem?.1 hxes
    obtain ⟨j, hj⟩ := List.mem_iff_getElem?.1 hees
    constructor
    · intro hb
      have e1 : (es.toList.map (·.born))[i]? = some e.born := by rw [List.getElem?_map, hi, Option.map_some, hb]
      have e2 : (es.toList.map (·.born))[j]? = some e.born := by rw [List.getElem?_map, hj, Option.map_some]
      have hij := nodup_get h.nodup e1 e2
      subst hij
      rw [hi] at hj
      cases hj
      exact hpe.1.symm
    · intro hk
      have k1 : (l.map (fun p => (enc p.1, p.2)))[i]? = some (x.key, x.val) := by rw [← h.ents, List.getElem?_map, hi]; rfl
      have k2 : (l.map (fun p => (enc p.1, p.2)))[j]? = some (e.key, e.val) := by rw [← h.ents, List.getElem?_map, hj]; rfl
      rw [List.getElem?_map] at k1 k2
      obtain ⟨p1, q1, z1⟩ := Option.map_eq_some_iff.1 k1
      obtain ⟨p2, q2, z2⟩ := Option.map_eq_some_iff.1 k2
      simp only [Prod.mk.injEq] at z1 z2
      have a1 : p1.1 = a := L.inj (z1.1.trans hk)
      have a2 : p2.1 = a := L.inj (z2.1.trans hpe.1.symm)
      have hij := nodup_get h.keys (i := i) (j := j) (x := a) (by rw [List.getElem?_map, q1]; simp [a1]) (by rw [List.getElem?_map, q2]; simp [a2])
      subst hij
      rw [hi] at hj
      cases hj
      rfl
end
end Go.Proofs.YtpkiiegadckloaaDoor
