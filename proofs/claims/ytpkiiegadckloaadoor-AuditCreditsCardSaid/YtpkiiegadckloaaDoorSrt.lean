/- The keys of a map, sorted. -/
import Derived.Test.YtpkiiegadckloaaDoorItk
import Derived.Test.YtpkiiegadckloaaDoorHol
import Derived.Test.YtpkiiegadckloaaDoorSam
set_option linter.unusedSimpArgs false
set_option linter.unusedVariables false
namespace Go.Proofs.YtpkiiegadckloaaDoor
open Go.RowKit Go.Maps Go.Sort Go.WideShapes

theorem owns_of {w : World} {m : Nat} {l : List (ByteArray × Value)} (h : MapAt es w m l) (hl : l.length ≤ 100000) (hs : ∀ p ∈ l, p.1.size ≤ maxLen) :
    ∃ D0 : DataW Unit, w.ownsMap Tryd.prog 9 (fun _ => some (.nil, [])) m l.length D0 ∧ (strKeys D0).Perm (l.map fun p => p.1.data.toList) ∧ Maps.size D0 = l.length := by
  obtain ⟨ents, clock, h⟩ := h
  have hlen : ents.toList.length = l.length := by
    have := congrArg List.length h.ents
    simpa using this
  have hkeys : ents.toList.map (·.key) = l.map fun p => es p.1 := by
    have := congrArg (List.map Prod.fst) h.ents
    simpa [Function.comp_def] using this
  have hrd : ∀ x ∈ ents.toList, ∃ p ∈ l, x.key = es p.1 := by
    intro x hx
    have : x.key ∈ ents.toList.map (·.key) := List.mem_map.2 ⟨x, hx, rfl⟩
    rw [hkeys] at this
    obtain ⟨p, hp, he⟩ := List.mem_map.1 this
    exact ⟨p, hp, he.symm⟩
  have hF : WideElems.Fit Tryd.prog 9 (fun _ => some ((.nil : DataW Unit), [])) ents clock := by
    refine ⟨by unfold maxLen; have : ents.size = l.length := by simpa using hlen
               omega, ⟨h.born, h.nodup, ?_⟩, fun x hx => ?_⟩
    · rw [hkeys]
      have hk := h.keys
      have : (l.map fun p => es p.1) = (l.map (·.1)).map es := by simp [Function.comp_def]
      rw [this]
      unfold List.Nodup at hk ⊢
      rw [List.pairwise_map]
      exact hk.imp (fun hab e => hab (klStr.inj e))
    · obtain ⟨p, hp, he⟩ := hrd x hx
      refine ⟨(.string p.1.data.toList, .nil), ?_⟩
      unfold WideElems.rd
      rw [he, es, WideMaps.keyOf_string_mk Tryd.underlying9 (hs p hp)]
      rfl
  refine ⟨_, ⟨ents, clock, h.blk, hF, by have : ents.size = l.length := by simpa using hlen
                                         omega, rfl⟩, ?_, ?_⟩
  · unfold strKeys
    refine ((sorted_perm _).map _).trans ?_
    have hmm : (ents.toList.map (WideElems.rg Tryd.prog 9 (fun _ => some ((.nil : DataW Unit), [])))).map (fun p => strOf p.1) = l.map fun p => p.1.data.toList := by
      have h2 : ∀ x ∈ ents.toList, strOf (WideElems.rg Tryd.prog 9 (fun _ => some ((.nil : DataW Unit), [])) x).1 = (match x.key with | .string s => s.data.toList | _ => []) := by
        intro x hx
        obtain ⟨p, hp, he⟩ := hrd x hx
        unfold WideElems.rg WideElems.rd
        rw [he, es, WideMaps.keyOf_string_mk Tryd.underlying9 (hs p hp)]
        rfl
      rw [List.map_map, List.map_congr_left (g := fun x => match x.key with | .string s => s.data.toList | _ => []) (by simpa using h2)]
      have h3 : ents.toList.map (fun x => match x.key with | .string s => s.data.toList | _ => []) = (ents.toList.map (·.key)).map (fun k => match k with | .string s => s.data.toList | _ => []) := by simp [Function.comp_def]
      rw [h3, hkeys]
      simp [es, Function.comp_def]
    rw [hmm]
  · show (List.foldr DataW.insert [] _).length = _
    rw [(sorted_perm _).length_eq]
    simpa using hlen

/-- A text out of its bytes. -/
def ofB (b : List UInt8) : ByteArray := ⟨b.toArray⟩
theorem ofB_to (s : ByteArray) : ofB s.data.toList = s := by
  obtain ⟨⟨l⟩⟩ := s
  rfl
def leS : List UInt8 → List UInt8 → Bool := fun x y => decide (x ≤ y)
/-- These texts, risen. -/
def Risen (ls : List ByteArray) : Prop := (ls.map (·.data.toList)).Pairwise fun a b => leS a b = true
theorem enc_of (ss : List (List UInt8)) : ss.map encStr = (ss.map ofB).map es := by
  rw [List.map_map]
  rfl
theorem sorted_row {w' : World} {base : Nat} {v : Value} {ss : List (List UInt8)} {l : List (ByteArray × Value)} (hp : ss.Perm (l.map fun p => p.1.data.toList)) (hr : w'.ownsRow base 9 1 v ss.length ((ss.mergeSort (fun x y => decide (x ≤ y))).map encStr)) :
    ∃ ls : List ByteArray, SRow w' base v ls ∧ ls.Perm (l.map (·.1)) ∧ Risen ls := by
  refine ⟨(ss.mergeSort (fun x y => decide (x ≤ y))).map ofB, ?_, ?_, ?_⟩
  · unfold SRow
    rw [← enc_of, List.length_map, List.length_mergeSort]
    exact hr
  · have h1 := ((List.mergeSort_perm ss (fun x y => decide (x ≤ y))).trans hp).map ofB
    rw [List.map_map] at h1
    have h2 : l.map (ofB ∘ fun p => p.1.data.toList) = l.map (·.1) := List.map_congr_left (fun p _ => ofB_to p.1)
    rw [h2] at h1
    exact h1
  · unfold Risen
    rw [List.map_map]
    have h2 : (ss.mergeSort (fun x y => decide (x ≤ y))).map ((fun x : ByteArray => x.data.toList) ∘ ofB) = ss.mergeSort (fun x y => decide (x ≤ y)) := by
      conv => rhs; rw [← List.map_id (ss.mergeSort (fun x y => decide (x ≤ y)))]
      exact List.map_congr_left (fun b _ => by simp [ofB])
    rw [h2]
    exact List.pairwise_mergeSort (le := fun x y => decide (x ≤ y)) (fun a b c h1 h2 => by simp at *; exact List.le_trans h1 h2) (fun a b => by simp; exact List.le_total a b) ss

theorem sorted_any (m : Nat) (l : List (ByteArray × Value)) (w : World) (h : MapAt es w m l) (hl : l.length ≤ 100000) (hs : ∀ p ∈ l, p.1.size ≤ maxLen) :
    Calls Tryd.prog 38 #[.map (some m)] w fun x w' => ∃ v, x = .returned v ∧ (∃ ls, SRow w' w.heap.size v ls ∧ ls.Perm (l.map (·.1)) ∧ Risen ls) ∧ Below w.heap.size w w' := by
  obtain ⟨D0, ho, hp, hz⟩ := owns_of h hl hs
  have cK := fun W => callsIn_wide.1 (Tryd.maps_Keys_52 (some m) W)
  have cS := callsIn_wide.1 (Tryd.slices_Sorted_keys_41_52 m l.length D0 _ w ho (by unfold maxLen; omega) (by omega))
  have HP := Lib.hid hp
  have HK := Lib.hid cK
  have HS := Lib.hid cS
  clear ho hp hz cK cS h hs
  go_enter Tryd.func38, Tryd.ntmps38
  go_wp2_with fail
  refine (HK.out _).mono ?_
  rintro x w1 ⟨rfl, rfl⟩
  go_wp2_with fail
  refine HS.out.mono ?_
  rintro x w2 ⟨v, ss, rfl, hperm, hrow, -, hb⟩
  have hb1 := below_new w (.cells #[.map (some m)] 87)
  have HR := Lib.hid (sorted_row (hperm.trans HP.out) hrow)
  have HB := Lib.hid (bel2 hb1 hb)
  have HZ := Lib.hid hb1.size
  clear hperm hrow hb hb1
  go_wp2_with fail
  go_returns
  obtain ⟨ls, h1, h2, h3⟩ := HR.out
  exact ⟨_, rfl, ⟨ls, owns_base h1 HZ.out, h2, h3⟩, HB.out⟩
end Go.Proofs.YtpkiiegadckloaaDoor
