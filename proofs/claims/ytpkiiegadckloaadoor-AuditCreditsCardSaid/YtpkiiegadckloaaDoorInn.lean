/- Is a text one of some? -/
import Derived.Test.YtpkiiegadckloaaDoorHds
set_option linter.unusedSimpArgs false
set_option linter.unusedVariables false
namespace Go.Proofs.YtpkiiegadckloaaDoor
open Go.RowKit

open Classical in
/-- One of these texts? -/
noncomputable def isOne (l : List ByteArray) (s : ByteArray) : Bool := decide (s ∈ l)
theorem isOne_yes {l : List ByteArray} {s : ByteArray} (h : s ∈ l) : isOne l s = true := by unfold isOne; simp [h]
theorem isOne_no {l : List ByteArray} {s : ByteArray} (h : ¬ s ∈ l) : isOne l s = false := by unfold isOne; simp [h]

set_option maxRecDepth 100000 in
theorem in_any (v : Value) (l : List ByteArray) (s : ByteArray) (base : Nat) (w : World) (hl : l.length ≤ 100000) (hv : SRow w base v l) :
    Calls Tryd.prog 54 #[v, .string s] w fun x w' => x = .returned (.bool (isOne l s)) ∧ w = w' := by
  obtain ⟨A, c, rfl⟩ := SRow.slice hv
  have hl63 : (l.length : Int) ≤ 100000 := by omega
  have HV := Lib.hid hv
  clear hv hl
  go_enter Tryd.func54, Tryd.ntmps54
  go_wp2_with fail
  go_loopw [5] (fun i wr => ∃ k : Nat, k ≤ l.length ∧ i = .int .i64 k ∧ (∀ j t, j < k → l[j]? = some t → t ≠ s) ∧ wr = w) (fun i _ => l.length - (intOf i).toNat)
  case atStart => exact ⟨0, Nat.zero_le _, rfl, fun j t h => by omega, rfl⟩
  case round =>
    obtain ⟨k, hk, rfl, hno, rfl⟩ := hrel
    have HNO := Lib.hid hno
    clear hno
    by_cases hk2 : k < l.length
    · have hk1 : (k : Int) < l.length := by omega
      obtain ⟨q, cap, h1, -, -⟩ := World.ownsRow.form HV.out (by omega)
      injection h1 with h1 _ h3
      subst h1 h3
      obtain ⟨t, ht⟩ : ∃ t, l[k]? = some t := ⟨_, List.getElem?_eq_getElem hk2⟩
      have c1 := World.ownsRow.cellAt HV.out k (by omega)
      rw [List.getElem?_map, ht] at c1
      simp only [Option.map_some, es] at c1
      have HT := Lib.hid ht
      clear ht hk hk2
      by_cases hts : t.toList = s.toList
      · have HE := Lib.hid (toList_inj hts)
        go_wp2_with fail
        go_returns
        have hy := isOne_yes (HE.out ▸ List.mem_of_getElem? HT.out)
        exact ⟨by rw [hy]; rfl, rfl⟩
      · have htb : (t.toList == s.toList) = false := by simpa using hts
        go_wp2_with fail
        go_roundw
        case measure => simp [intOf]; omega
        case rel =>
          refine ⟨k + 1, by omega, by go_num, fun j t' hj ht' => ?_, trivial⟩
          by_cases hjk : j = k
          · subst hjk
            rw [HT.out] at ht'
            cases ht'
            exact fun e => hts (by rw [e])
          · exact HNO.out j t' (by omega) ht'
    · have hk1 : ¬ (k : Int) < l.length := by omega
      have hkl : k = l.length := by omega
      have HF := Lib.hid (show isOne l s = false from isOne_no (fun hm => by
        obtain ⟨j, hj, he⟩ := List.getElem_of_mem hm
        exact HNO.out j s (by omega) (by rw [← he]; exact List.getElem?_eq_getElem hj) rfl))
      clear hk hk2 hkl
      go_wp2_with fail
      go_returns
      exact ⟨by rw [HF.out]; rfl, rfl⟩
end Go.Proofs.YtpkiiegadckloaaDoor
