/- A hold is let go. -/
import Derived.Test.YtpkiiegadckloaaDoorCst
set_option linter.unusedSimpArgs false
set_option linter.unusedVariables false
namespace Go.Proofs.YtpkiiegadckloaaDoor
open Go.RowKit

set_option maxRecDepth 100000 in
set_option maxHeartbeats 1000000 in
theorem Let_any (g k base : Nat) (id : ByteArray) (w : World) (hk : k ≤ 40) (hbs : base ≤ w.heap.size) (h : Cst w g k base) : Calls Tryd.prog 15 #[.pointer (some ⟨g, 0, none⟩), .string id] w fun r w' => Acted w g k base r w' := by
  have hC := h
  obtain ⟨A, ps, hl, S, h1, h2, h3, h4, h5, h6, h7, h8⟩ := h
  obtain ⟨ma, mh, v, pl, hB, hps⟩ := h1.open
  have hlk := hB.hlook id true
  have c3 := hB.c3
  have HC := Lib.hid hC
  have H1 := Lib.hid h1
  have HN := Lib.hid h1.hnodup
  have hgl : g < w.heap.size := hB.lt _ hB.sg
  cases hf : fnd hl id with
  | none =>
    rw [hf] at hlk
    simp only [Option.getD_none, Option.isSome_none, if_true] at hlk
    have HF := Lib.hid hf
    clear h1 h2 h3 h4 h5 h6 h7 h8 hB hps hf hC
    go_enter Tryd.func15, Tryd.ntmps15
    go_wp2
    go_returns
    exact acted (HC.out.keepB (below_new _ _)).more ((below_new _ _).mono hbs)
  | some u =>
    obtain ⟨hu, n, rfl, hn1, hn2⟩ := h4 id u hf
    rw [hf] at hlk
    simp only [Option.getD_some, Option.isSome_some, if_true] at hlk
    obtain ⟨x, hx, x1, x2, x3, x4, x5, x6⟩ := h2
    have HF := Lib.hid hf
    have H2 := Lib.hid (And.intro hx (And.intro x1 (And.intro x2 (And.intro x3 (And.intro x4 (And.intro x5 x6))))))
    have H3 := Lib.hid h3
    have H4 := Lib.hid h4
    have H5 := Lib.hid (And.intro h5 h6)
    have H7 := Lib.hid h7
    have H8 := Lib.hid h8
    have HU := Lib.hid hu
    clear h1 h3 h4 h5 h6 h7 h8 hB hps hf hC hx x1 x2 x3 x4 x5 x6 hu
    rw [hv] at hlk
    go_enter Tryd.func15, Tryd.ntmps15
    go_wp2_with fail
    have hb1 := below_new w (.cells #[.string id, .string sAa, .string sEur, .int .i64 n] 79)
    have HB1 := Lib.hid hb1
    obtain ⟨hx, x1, x2, x3, x4, x5, x6⟩ := H2.out
    refine (less_any g sG 2 A ps hl S id sAa sEur n n x _ (H1.out.keepB hb1) hx (by omega) (by omega) (by omega) (by omega) (by omega) (by omega)).mono ?_
    clear hb1
    rintro r w2 ⟨rfl, hl2, hc2⟩
    have HFin := Lib.hid (acted (c := 0) (show Cst w2 g (k + 1) base from ⟨_, ps, _, S, hl2, (AccB.held (d := 131072) ⟨x, hx, x1, x2, x3, x4, x5, x6⟩ hx ⟨x1, x2, x3, x4, x5, x6⟩ (by omega) (by omega) (by omega)).mono (by omega), (H3.out.held (d := 131072) hx ⟨x1, x2, x3, x4, x5, x6⟩ (by omega) (by omega) (by omega)).mono (by omega),
      H4.out.less HN.out HU.out (by omega) (Int.le_refl _) hn2, Nat.le_trans (lessH_length _ _ _ _ _) (by have := H5.out.1; omega), by have := H5.out.2; omega, H7.out, H8.out⟩) ((HB1.out.mono hbs).trans (hc2.below (by have := HB1.out.size; omega) H8.out)))
    clear hl2 hc2 hx x1 x2 x3 x4 x5 x6
    go_wp2_with fail
    go_returns
    exact HFin.out
end Go.Proofs.YtpkiiegadckloaaDoor
