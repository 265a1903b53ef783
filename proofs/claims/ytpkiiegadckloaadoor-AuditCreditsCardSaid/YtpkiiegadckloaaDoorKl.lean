/- The two kinds of keys: an account's name and currency; a text. -/
import Derived.Test.YtpkiiegadckloaaDoorMp
import Derived.Test.YtpkiiegadckloaaDoorChecked
import Derived.WalkKit
import Derived.Handy
import Derived.Laws.Rows
import Derived.Lib.Hide
import Derived.Outline
import Derived.WideKeyRuns
import Derived.Laws.StructEq
set_option linter.unusedSimpArgs false
namespace Go.Proofs.YtpkiiegadckloaaDoor
open Go.RowKit

/-- An account's key. -/
abbrev Key := ByteArray × ByteArray
def ek (k : Key) : Value := .agg #[.string k.1, .string k.2]
def es (s : ByteArray) : Value := .string s

theorem now_str (a : ByteArray) : ∀ (l : List (ByteArray × Value)) (ents : List MapEntry) (i : Nat), ents.map (fun e => (e.key, e.val)) = l.map (fun p => (es p.1, p.2)) → Instr.findNow .string (.string a) ents i = some (idx a l i)
  | [], [], _, _ => rfl
  | [], _ :: _, _, h => by simp at h
  | _ :: _, [], _, h => by simp at h
  | (b, v) :: l, e :: ents, i, h => by
    simp only [List.map_cons, List.cons.injEq, Prod.mk.injEq, es] at h
    obtain ⟨⟨h1, h2⟩, h3⟩ := h
    have ih := now_str a l ents (i + 1) h3
    simp only [Instr.findNow, h1, Instr.sameNow, idx]
    by_cases hab : a = b
    · subst hab
      have : (a == a) = true := (MapKept.bytes_beq a a).mpr rfl
      simp [h2, this]
    · have : (a == b) = false := by
        rw [Bool.eq_false_iff]
        intro hh
        rw [MapKept.bytes_beq] at hh
        exact hab hh
      simp [this, hab, ih]

theorem klStr : KL Tryd.prog 9 es where
  inj h := by cases h; rfl
  check w em a := MapKept.run_checkKey (d := .string) Tryd.underlying9 (by simp [MapKept.IsKey, es]) em 9999
  find w a l ents h := MapKept.run_findKey Tryd.underlying9 (now_str a l ents 0 h)
  stays w a := MapKept.run_keyThatStays (d := .string) (by simp [MapKept.IsKey, es])



theorem plain9 : Tryd.prog.plainKey 9 = true := by kernel_rfl
theorem fields72 : Tryd.prog.fieldsOf 72 = #[⟨ "account", 9, 0, false, "", "supercargo/ledger", 0⟩, ⟨ "currency", 9, 1, false, "", "supercargo/ledger", 16⟩] := by kernel_rfl
theorem part0 (a b : ByteArray) (w : World) : (part 9 #[.string a, .string b] 0).run Tryd.prog w = .ok (.string a) w := run_part_plain w plain9 rfl
theorem part1 (a b : ByteArray) (w : World) : (part 9 #[.string a, .string b] 1).run Tryd.prog w = .ok (.string b) w := run_part_plain w plain9 rfl

theorem eq_key (a b : Key) (w : World) : (Op.equal 72 (ek a) (ek b)).run Tryd.prog w = .ok (decide (a = b)) w := by
  unfold Op.equal ek Op.maxDepth
  rw [run_equalIn_agg w 9999 72 _ _ (by rw [fields72]; exact Tryd.underlying72) (by kernel_rfl), fields72]
  simp only [Op.eqFields, Sem.run_bind, part0, part1, Result.andThen_ok]
  rw [if_pos (by decide)]
  simp only [Sem.run_bind, part0, part1, Result.andThen_ok, run_equalIn_string w _ 9 _ _ Tryd.underlying9, ← beq_toListBytes]
  obtain ⟨a1, a2⟩ := a
  obtain ⟨b1, b2⟩ := b
  by_cases h1 : a1 = b1
  · subst h1
    have : (a1 == a1) = true := (MapKept.bytes_beq _ _).mpr rfl
    simp only [this, Bool.not_true, Bool.false_eq_true, if_false]
    rw [if_pos (by decide)]
    simp only [Sem.run_bind, part0, part1, Result.andThen_ok, run_equalIn_string w _ 9 _ _ Tryd.underlying9, ← beq_toListBytes]
    by_cases h2 : a2 = b2
    · subst h2
      have : (a2 == a2) = true := (MapKept.bytes_beq _ _).mpr rfl
      simp [this]
    · have : (a2 == b2) = false := by
        rw [Bool.eq_false_iff]
        intro hh
        rw [MapKept.bytes_beq] at hh
        exact h2 hh
      simp [this, h2]
  · have : (a1 == b1) = false := by
      rw [Bool.eq_false_iff]
      intro hh
      rw [MapKept.bytes_beq] at hh
      exact h1 hh
    simp [this, h1]

theorem ask_key (a : Key) (w : World) : ∀ (l : List (Key × Value)) (ents : List MapEntry) (i : Nat), ents.map (fun e => (e.key, e.val)) = l.map (fun p => (ek p.1, p.2)) → (Instr.findAsking 72 (ek a) ents i).run Tryd.prog w = .ok (idx a l i) w
  | [], [], _, _ => rfl
  | [], _ :: _, _, h => by simp at h
  | _ :: _, [], _, h => by simp at h
  | (b, v) :: l, e :: ents, i, h => by
    simp only [List.map_cons, List.cons.injEq, Prod.mk.injEq] at h
    obtain ⟨⟨h1, h2⟩, h3⟩ := h
    have ih := ask_key a w l ents (i + 1) h3
    simp only [Instr.findAsking, h1, idx, Sem.run_bind, eq_key, Result.andThen_ok]
    by_cases hab : a = b
    · subst hab
      simp [h2]
    · simp [hab, ih]

theorem klKey : KL Tryd.prog 72 ek where
  inj h := by
    rename_i a b
    obtain ⟨a1, a2⟩ := a
    obtain ⟨b1, b2⟩ := b
    simp [ek] at h
    simp [h.1, h.2]
  check w em a := by
    unfold ek Instr.checkKey
    simp only [Sem.run_bind, run_underlying Tryd.underlying72, Result.andThen_ok]
    rw [← Array.forIn_toList]
    simp only [List.forIn_cons, List.forIn_nil]
    have c0 : ∀ (s : ByteArray), (Instr.checkKey em 9999 9 (.string s)).run Tryd.prog w = .ok () w := fun s => MapKept.run_checkKey (d := .string) Tryd.underlying9 (by simp [MapKept.IsKey]) em 9998
    simp only [show ("account" ≠ "_") = True by simp, show ("currency" ≠ "_") = True by simp, if_true, Sem.run_bind, part0, part1, Result.andThen_ok, c0, Sem.run_pure]
  find w a l ents h := by
    rw [run_findKey_eq w (by kernel_rfl)]
    exact ask_key a w l ents 0 h
  stays w a := by
    have : Instr.sameBits 10000 (ek a) (ek a) = true := by
      obtain ⟨a1, a2⟩ := a
      have h1 : (a1 == a1) = true := (MapKept.bytes_beq _ _).mpr rfl
      have h2 : (a2 == a2) = true := (MapKept.bytes_beq _ _).mpr rfl
      simp [ek, Instr.sameBits, h1, h2]
    unfold Instr.keyThatStays
    rw [if_pos this]
    rfl
end Go.Proofs.YtpkiiegadckloaaDoor
