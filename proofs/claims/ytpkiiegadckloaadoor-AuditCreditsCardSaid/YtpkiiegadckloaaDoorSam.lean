/- The reference's Same at two rows of the same texts. -/
import Derived.Test.YtpkiiegadckloaaDoorNm
import Derived.Test.YtpkiiegadckloaaDoorLed
import Derived.Deep.QuietTactic
import Derived.Deep.AppendLies
import Derived.BigQuiet
set_option linter.unusedSimpArgs false
set_option linter.unusedVariables false
namespace Go.Proofs.YtpkiiegadckloaaDoor
open Go.RowKit

/-- A row of texts. -/
abbrev SRow (w : World) (base : Nat) (v : Value) (l : List ByteArray) : Prop := w.ownsRow base 9 1 v l.length (l.map es)

theorem SRow.slice {w : World} {base : Nat} {v : Value} {l : List ByteArray} (h : SRow w base v l) : ∃ A c, v = .slice A l.length c := by
  rcases h.2 with ⟨rfl, h0⟩ | ⟨b', cap, cur, rfl, _⟩
  · exact ⟨none, 0, by rw [h0]⟩
  · exact ⟨_, _, rfl⟩

set_option maxRecDepth 100000 in
theorem Same_true (v u : Value) (l : List ByteArray) (hl : l.length ≤ 100000) (b1 b2 : Nat) (w : World) (hv : SRow w b1 v l) (hu : SRow w b2 u l) :
    Calls Tryd.prog 8 #[v, u] w fun x w' => x = .returned (.bool true) ∧ Below w.heap.size w w' := by
  obtain ⟨A, c, rfl⟩ := hv.slice
  obtain ⟨A', c', rfl⟩ := hu.slice
  have hl63 : (l.length : Int) ≤ 100000 := by omega
  have HV := Lib.hid hv
  have HU := Lib.hid hu
  clear hv hu hl
  go_enter Tryd.func8, Tryd.ntmps8
  go_wp2_with fail
  go_loopw [5] (fun i wr => ∃ k : Nat, k ≤ l.length ∧ i = .int .i64 k ∧ Below w.heap.size w wr) (fun i _ => l.length - (intOf i).toNat)
  case atStart => exact ⟨0, Nat.zero_le _, rfl, Below.refl _ _⟩
  case round =>
    obtain ⟨k, hk, rfl, hb⟩ := hrel
    by_cases hk2 : k < l.length
    · have hk1 : (k : Int) < l.length := by omega
      have hk0 : (0 : Int) ≤ k := by omega
      obtain ⟨q, cap, h1, -, -⟩ := HV.out.form (by omega)
      obtain ⟨q', cap', h2, -, -⟩ := HU.out.form (by omega)
      injection h1 with h1 _ h3
      injection h2 with h2 _ h4
      subst h1 h2 h3 h4
      obtain ⟨s, hs⟩ : ∃ s, l[k]? = some s := ⟨_, List.getElem?_eq_getElem hk2⟩
      have o1 := owns_keep HV.out hb
      have o2 := owns_keep HU.out hb
      have c1 := o1.cellAt k (by omega)
      have c2 := o2.cellAt k (by omega)
      rw [List.getElem?_map, hs] at c1 c2
      simp only [Option.map_some, es] at c1 c2
      have HB := Lib.hid hb
      clear o1 o2 hs hb hk hk2
      go_wp2_with fail
      go_quiet (fail)
      go_wp2_with fail
      go_roundw
      case rel => exact ⟨k + 1, by omega, by go_num, HB.out.trans ⟨rfl, rfl, rfl, Nat.le_refl _, fun _ _ => rfl⟩⟩
      case measure => simp [intOf]; omega
    · have hk1 : ¬ (k : Int) < l.length := by omega
      clear hk hk2
      go_wp2_with fail
      go_returns
      exact ⟨rfl, hb⟩
end Go.Proofs.YtpkiiegadckloaaDoor
