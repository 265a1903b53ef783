/- The walk of May. -/
import Derived.Test.YtbhpghjdclehmaaMayI
namespace Go.Proofs.Ytbhpghjdclehmaa
open Go.RowKit

/-- May: the first error. -/
def mayR (s a b e : Int) (p : Bool) (l : List Drw) (d1 d2 : Int) : Int :=
  pick5 (!(bnd s a b e && right (l ++ [(d1, d2)]))) (decide (e < d1)) (!p && decide (0 < l.length)) (decide (most s a < sumD (l ++ [(d1, d2)]))) (!p && decide (d2 < least s b))

set_option maxHeartbeats 1000000 in
theorem May_any (s a b e : Int) (p : Bool) (A : Option Addr) (c : Nat) (l : List Drw) (d1 d2 : Int) (w : World) (hd : DS w A l) (hN : l.length ≤ 100000) :
    Calls Try.prog 16 #[.agg (crd s a b e p), .slice A l.length c, .agg #[.int .i64 d1, .int .i64 d2]] w fun x w' => x = .returned (.int .i64 (mayR s a b e p l d1 d2)) ∧ Below w.heap.size w w' := by
  have HD := Lib.hid hd
  have HN := Lib.hid hN
  clear hd hN
  go_enter Try.func16, Try.ntmps16
  go_wp2_with fail
  obtain ⟨w3, hw3⟩ : ∃ w3, w3 = ((w.alloc (.cells (crd s a b e p) 27)).alloc (.cells #[.slice A l.length c] 36)).alloc (.cells #[.int .i64 d1, .int .i64 d2] 38) := ⟨_, rfl⟩
  have GB : Below w.heap.size w w3 := by rw [hw3]; go_grown
  have GS : w3.heap.size = w.heap.size + 1 + 1 + 1 := by rw [hw3]; simp
  have G0 : w3.heap[w.heap.size]? = some (.cells (crd s a b e p) 27 (0, 0)) := by
    rw [hw3, Below.heap_alloc _ _ _ (by simp; omega), Below.heap_alloc _ _ _ (by simp)]
    exact heap_alloc_new _ _
  have G1 : w3.heap[w.heap.size + 1]? = some (.cells #[.slice A l.length c] 36 (0, 0)) := by
    rw [hw3, Below.heap_alloc _ _ _ (by simp)]
    exact heap_alloc2_new _ _ _
  have G2 : w3.heap[w.heap.size + 1 + 1]? = some (.cells #[.int .i64 d1, .int .i64 d2] 38 (0, 0)) := by
    rw [hw3]
    exact (by simp : (((w.alloc (.cells (crd s a b e p) 27)).alloc (.cells #[.slice A l.length c] 36)).heap.size) = w.heap.size + 1 + 1) ▸ heap_alloc_new _ _
  rw [← hw3]
  clear hw3
  have H0 := Lib.hid G0
  have H1 := Lib.hid G1
  have H2 := Lib.hid G2
  have HB := Lib.hid GB
  have HS := Lib.hid GS
  have HDD := Lib.hid (HD.out.keep GB)
  clear G0 GB GS G1 G2
  refine region_inv (by kernel_rfl) (by kernel_rfl) (fun L x w' => ∃ s7 s8 s9 s10 s11 s12, x = mayF (crd s a b e p) A l.length c d1 d2 w.heap.size (w.heap.size + 1) (w.heap.size + 1 + 1) s7 s8 s9 s10 s11 s12 ∧ MayI w3 A c l d1 d2 L s7 s8 s9 s10 s11 s12 w') ?_ ?_ ?_
  · exact ⟨_, _, _, _, _, _, rfl, MayI.start w3⟩
  · intro i o ho L x w' hI hL hE
    obtain ⟨s7, s8, s9, s10, s11, s12, rfl, hi⟩ := hI
    rcases i with _ | _ | _ | _ | _ | _ | _ | i
    all_goals (simp at ho; try subst ho)
    all_goals refine if_wanted rfl ?_
    · exact wp_load_row1 36 (.tmp 4) rfl (w.heap.size + 1) rfl (blk_keep H1.out hi.below) Try.underlying36 rfl ⟨_, _, _, _, _, _, rfl, hi.s0⟩
    · have h0 : s8 = _ := hi.v8 (hE ⟨0, .data⟩ (by simp) rfl)
      subst h0
      refine wp_append_draws _ _ rfl w3.heap.size (.slice none 0 0) [] rfl (World.ownsRow_nil _ _ _ _) A c l rfl (HDD.out.keep hi.below) (by have := HN.out; simp; omega) hi.below.size ?_
      intro v w2 hv hg
      exact ⟨_, _, _, _, _, _, rfl, (hi.grow ⟨hg.os, hg.tape, hg.output, hg.size, fun k hk => hg.block k hk (by simp [Value.ownBlock])⟩).s1 hv⟩
    · exact wp_load_row 38 (.tmp 5) rfl (w.heap.size + 1 + 1) rfl 38 _ (0, 0) _ (blk_keep H2.out hi.below) Try.underlying38 rfl (by kernel_rfl) ⟨_, _, _, _, _, _, rfl, hi.s2⟩
    · have h2 : s10 = _ := hi.v10 (hE ⟨2, .data⟩ (by simp) rfl)
      subst h2
      exact wp_build1 (.tmp 10) d1 d2 rfl rfl ⟨_, _, _, _, _, _, rfl, (hi.grow (below_new _ _)).s3 (heap_alloc_new _ _)⟩
    · have h1 := hE ⟨1, .data⟩ (by simp) rfl
      have h3 := hE ⟨3, .data⟩ (by simp) rfl
      obtain ⟨g, rfl, hg⟩ := hi.v11 h3 hL
      refine wp_append_draws _ _ rfl w3.heap.size s9 l rfl (hi.v9 h1 hL) (some ⟨g, 0, none⟩) 1 [(d1, d2)] rfl (DS_one hg) (by have := HN.out; simp; omega) hi.below.size ?_
      intro v w2 hv hg
      exact ⟨_, _, _, _, _, _, rfl, hi.s4 h1 hL (by cases h6 : L 6 with
        | false => rfl
        | true => rw [(hi.ord h6).1] at hL; cases hL) hv hg⟩
    · exact wp_alloc36 rfl ⟨_, _, _, _, _, _, rfl, (hi.grow (below_new _ _)).s5 (by cases h6 : L 6 with
        | false => rfl
        | true => rw [(hi.ord h6).2] at hL; cases hL) hi.below.size (heap_alloc_new _ _)⟩
    · have h4 := hE ⟨4, .data⟩ (by simp) rfl
      have h5 := hE ⟨5, .data⟩ (by simp) rfl
      obtain ⟨g, rfl, -, hg⟩ := hi.v7 h5
      obtain ⟨A2, c2, rfl, -, -⟩ := DS.owned_nil (hi.v12 h4)
      exact wp_store36 (.tmp 7) (.tmp 12) g rfl rfl rfl hg ⟨_, _, _, _, _, _, rfl, hi.s6 h4 h5⟩
  · intro L x w' hL hI
    obtain ⟨s7, s8, s9, s10, s11, s12, rfl, hi⟩ := hI
    obtain ⟨g7, rfl, hg7, hb7⟩ := hi.v7 (hL 5 (by decide))
    obtain ⟨A2, c2, rfl, hd2, -⟩ := DS.owned_nil (hi.v12 (hL 4 (by decide)))
    rw [hL 6 (by decide)] at hb7
    have hb := hi.below
    clear hi hL
    have HB3 := Lib.hid hb
    have HB7 := Lib.hid hb7
    have HD2 := Lib.hid hd2
    have hs7 := hb.size
    clear hb hb7 hd2
    unfold mayF
    have hW := Lib.hid (HB3.out.trans (((Below.refl w'.heap.size w').alloc (Nat.le_refl _) (.cells (looks w.heap.size (w.heap.size + 1) (w.heap.size + 1 + 1) g7) 49)).mono hs7))
    have hW' := Lib.hid (below_new w' (.cells (looks w.heap.size (w.heap.size + 1) (w.heap.size + 1 + 1) g7) 49))
    have hn : (l ++ [(d1, d2)]).length ≤ maxLen := by have := HN.out; unfold maxLen; simp; omega
    have HL := Lib.hid hn
    clear hn
    go_wp2_with (first | (go_at_call 23; refine (first_any w.heap.size (w.heap.size + 1) (w.heap.size + 1 + 1) g7 w'.heap.size _ _ _ _ _ _ (heap_alloc_new _ _)
      (fun w2 h2 => look1 s a b e p A2 c2 (l ++ [(d1, d2)]) _ _ w2 HL.out (blk_keep H0.out (bels hW.out h2)) (cell_of_row w2 g7 0 _ _ _ (blk_keep HB7.out (bels hW'.out h2))) (HD2.out.keep (bels hW'.out h2)))
      (fun w2 h2 => look2 s a b e p d1 _ _ w2 (blk_keep H0.out (bels hW.out h2)) (cell_of_row w2 _ 0 _ _ _ (blk_keep H2.out (bels hW.out h2))))
      (fun w2 h2 => look3 s a b e p A l.length c _ _ w2 (blk_keep H0.out (bels hW.out h2)) (cell_of_row w2 _ 0 _ _ _ (blk_keep H1.out (bels hW.out h2))))
      (fun hf w2 h2 => look4 s a b e p A2 c2 (l ++ [(d1, d2)]) _ _ w2 (by simp at hf; exact hf.1) (by simp at hf; exact hf.2) (blk_keep H0.out (bels hW.out h2)) (cell_of_row w2 g7 0 _ _ _ (blk_keep HB7.out (bels hW'.out h2))) (HD2.out.keep (bels hW'.out h2)))
      (fun hf w2 h2 => look5 s a b e p d2 _ _ w2 (by simp at hf; exact hf.1) (blk_keep H0.out (bels hW.out h2)) (cell_of_row w2 _ 1 _ _ _ (blk_keep H2.out (bels hW.out h2))))).mono ?_; rintro x w4 ⟨rfl, hb4⟩))
    go_ret
    exact ⟨ret_i (by simp [mayR]), bels (bels HB.out hW.out) hb4⟩
end Go.Proofs.Ytbhpghjdclehmaa
