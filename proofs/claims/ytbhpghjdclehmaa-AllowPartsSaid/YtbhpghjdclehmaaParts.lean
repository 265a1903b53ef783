/- The walk of AllowParts. -/
import Derived.Test.YtbhpghjdclehmaaPartsO
namespace Go.Proofs.Ytbhpghjdclehmaa
open Go.RowKit

theorem set9 (s a b e a' : Int) (p : Bool) : (crd s a b e p).setIfInBounds 9 (.int .i64 a') = crd s a' b e p := rfl
theorem set10 (s a b e b' : Int) (p : Bool) : (crd s a b e p).setIfInBounds 10 (.int .i64 b') = crd s a b' e p := rfl
attribute [local go_sem] crd_n store_crd crd9 crd10 set9 set10

/-- The built-in min of two ints, of which one is given. -/
theorem wpList_min {ops : Array Oper} {rest : List Oper} {o : Oper} {a : Act} {w : World} {Q : Exit → Act → World → Prop} (hgd : o.guard = none) (x : Operand) (k : Int)
    (ho : o.op = .call { callee := .builtin .min, args := #[x, .const (.int .i64 k)], argTypes := #[3, 3] }) (n r : Int) (hx : a.eval x = .int .i64 n) (hr : r = min n k)
    (h : wpList Try.prog ops Q rest (a.put o.dst (.int .i64 r)) w) : wpList Try.prog ops Q (o :: rest) a w :=
  wpList_plain hgd fun K hK => by
    have h' := hK _ _ h
    clear h hK
    unfold Oper.wp execOp
    simp only [ho, resolve, List.map_toArray, List.map_cons, List.map_nil, hx, show a.eval (.const (.int .i64 k)) = .int .i64 k from rfl]
    clear hx ho
    go_simp
    rw [show (if k < n then k else n) = r by rw [hr]; split <;> omega]
    exact h'

set_option maxRecDepth 100000 in
set_option maxHeartbeats 4000000 in
theorem parts_in (s a b e : Int) (A : Option Addr) (c : Nat) (l : List Drw) (x y dy m : Int) (w : World) (hd : DS w A l) (hg : partsG s a b e l.length x y m) :
    Calls Try.prog 5 #[.int .i64 s, .int .i64 a, .int .i64 b, .int .i64 e, .slice A l.length c, .int .i64 x, .int .i64 y, .int .i64 dy, .int .i64 m] w fun r w' => r = .returned (.bool true) ∧ Below w.heap.size w w' := by
  obtain ⟨h1, hb, h3, h4, h5, h6, h7, h8⟩ := hg
  obtain ⟨n, hn⟩ : ∃ n, l.length = n := ⟨_, rfl⟩
  rw [hn] at h1 ⊢
  have HN := Lib.hid hn
  have HD := Lib.hid hd
  have HB := Lib.hid hb
  obtain ⟨⟨hs, hs'⟩, ⟨ha, ha'⟩, ⟨hbb, hbb'⟩, he, he'⟩ := (bnd_iff s a b e).mp hb
  clear hn hd hb
  have h1d : decide ((40 : Int) < (n : Int)) = false := by simp; omega
  obtain ⟨a', ea⟩ : ∃ a', a' = min (a + m) 1000 := ⟨_, rfl⟩
  obtain ⟨b', eb⟩ : ∃ b', b' = min (b + m) 1000 := ⟨_, rfl⟩
  have a1 : a ≤ a' := by omega
  have a2 : a' ≤ 1000 := by omega
  have b1 : b ≤ b' := by omega
  have b2 : b' ≤ 1000 := by omega
  have EA := Lib.hid ea
  have EB := Lib.hid eb
  clear ea eb
  go_enter Try.func5, Try.ntmps5
  have hbd : bnd s a' b' e = true := (bnd_iff _ _ _ _).mpr ⟨⟨hs, hs'⟩, ⟨by omega, a2⟩, ⟨by omega, b2⟩, he, he'⟩
  have HBD := Lib.hid hbd
  have mm := most_mono hs a1
  have lm := least_mono hs b1
  clear hbd
  go_wp2_with (first
    | (refine wpList_load_rowG rfl 27 (.tmp 19) rfl w2.heap.size rfl 27 (crd s a b e true) (0, 0) _ (by first | exact heap_alloc_new _ _ | assumption) Try.underlying27 rfl (crd_size ..) ?_)
    | (refine wpList_load_row rfl 27 (.tmp 19) rfl w2.heap.size rfl 27 (crd s a b e true) (0, 0) _ (by first | exact heap_alloc_new _ _ | assumption) Try.underlying27 rfl (crd_size ..) ?_)
    | (refine wpList_load_row rfl 27 (.tmp 20) rfl w3.heap.size rfl 27 (crd s a' b' e true) (0, 0) _ (by assumption) Try.underlying27 rfl (crd_size ..) ?_)
    | (refine wpList_min rfl (.tmp 79) 1000 rfl (a + m) a' rfl EA.out ?_)
    | (refine wpList_min rfl (.tmp 83) 1000 rfl (b + m) b' rfl EB.out ?_)
    | (go_at_call 7; refine (awake_any _).mono ?_; rintro r w1 ⟨rfl, hb1⟩)
    | (go_at_call 8; refine (lawBounds_any _ _ _ _ _ _).mono ?_; rintro r w2 ⟨rfl, hb2⟩)
    | (go_at_call 11; refine (Bounds_any _ _ _ _ _ _).mono ?_; rw [HB.out]; rintro r w3 ⟨rfl, hb3⟩; have hg3 := hgr (heap_alloc_new w2 (.cells (crd s a b e true) 27)) hb3;
       have hgd := heap_alloc_new w3 (.cells (crd s a' b' e true) 27);
       have hgc := hgr hg3 (below_new w3 (.cells (crd s a' b' e true) 27));
       have W3 := Lib.hid (bels (bels (bels (bels hb1 hb2) (below_new _ _)) hb3) (below_new w3 (.cells (crd s a' b' e true) 27)));
       clear hb1 hb2 hb3)
    | fail)
  obtain ⟨w4, hw4⟩ : ∃ w4, w4 = w3.alloc (.cells (crd s a' b' e true) 27) := ⟨_, rfl⟩
  rw [← hw4] at hgd hgc W3 ⊢
  clear hw4 hg3
  obtain ⟨gc, hgcn⟩ : ∃ gc, w2.heap.size = gc := ⟨_, rfl⟩
  obtain ⟨gd, hgdn⟩ : ∃ gd, w3.heap.size = gd := ⟨_, rfl⟩
  rw [hgcn] at hgc
  rw [hgdn] at hgd
  simp only [hgcn, hgdn]
  clear hgcn hgdn
  have GC := Lib.hid hgc
  have GD := Lib.hid hgd
  clear hgc hgd
  go_wp2_with (first
    | (refine wpList_load_row rfl 27 (.tmp 19) rfl gc rfl 27 (crd s a b e true) (0, 0) _ (by first | exact GC.out | assumption) Try.underlying27 rfl (crd_size ..) ?_)
    | (refine wpList_load_row rfl 27 (.tmp 20) rfl gd rfl 27 (crd s a' b' e true) (0, 0) _ (by assumption) Try.underlying27 rfl (crd_size ..) ?_)
    | (go_at_call 9; (with_reducible refine (Most_yes s a b e true _ HB.out).mono ?_); rintro r w5 ⟨rfl, hb5⟩; have hd5 := blk_keep GD.out hb5; have hc5 := blk_keep GC.out hb5)
    | (go_at_call 9; (with_reducible refine (Most_yes s a' b' e true _ HBD.out).mono ?_); rintro r w6 ⟨rfl, hb6⟩; have hc6 := blk_keep hc5 hb6; have hd6 := blk_keep hd5 hb6)
    | (go_at_call 10; (with_reducible refine (Least_yes s a b e true _ HB.out).mono ?_); rintro r w7 ⟨rfl, hb7⟩; have hd7 := blk_keep hd6 hb7; have hc7 := blk_keep hc6 hb7)
    | (go_at_call 10; (with_reducible refine (Least_yes s a' b' e true _ HBD.out).mono ?_); rintro r w8 ⟨rfl, hb8⟩; have hd8 := blk_keep hd7 hb8; have hc8 := blk_keep hc7 hb8; have hc9 := blk_keep hc8 (below_new w8 (.cells #[.int .i64 dy, .int .i64 (x + y)] 38)); have hd9' := blk_keep hd8 (below_new w8 (.cells #[.int .i64 dy, .int .i64 (x + y)] 38)); have W8 := Lib.hid (bels (bels (bels (bels (bels W3.out hb5) hb6) hb7) hb8) (below_new w8 (.cells #[.int .i64 dy, .int .i64 (x + y)] 38))))
    | fail)
  have hmay : ∀ (s a b e : Int) (d2 : Int) (W : World), DS W A l → Calls Try.prog 16 #[.agg (crd s a b e true), .slice A n c, .agg #[.int .i64 dy, .int .i64 d2]] W fun r W' => r = .returned (.int .i64 (mayR s a b e true l dy d2)) ∧ Below W.heap.size W W' := by
    intro s a b e d2 W hd
    have := May_any s a b e true A c l dy d2 W hd (by have := HN.out; omega)
    rw [HN.out] at this
    exact this
  have HMAY := Lib.hid hmay
  clear hmay hd8 hc8 hd7 hc7 hd6 hc6 hd5 hc5
  obtain ⟨g1, hg1⟩ : ∃ g, w8.heap.size = g := ⟨_, rfl⟩
  obtain ⟨w9, hw9⟩ : ∃ w9, w9 = w8.alloc (.cells #[.int .i64 dy, .int .i64 (x + y)] 38) := ⟨_, rfl⟩
  have hg9 : w9.heap[g1]? = some (.cells #[.int .i64 dy, .int .i64 (x + y)] 38 (0, 0)) := by rw [hw9, ← hg1]; exact heap_alloc_new _ _
  have hd9 := hd9'
  rw [← hw9] at hc9 hd9 W8 ⊢
  simp only [hg1]
  clear hw9 hg1 hb5 hb6 hb7 hb8 GC GD W3 hd9'
  have GC := Lib.hid hc9
  have GD := Lib.hid hd9
  have G1 := Lib.hid hg9
  clear hc9 hd9 hg9
  by_cases hm : mayR s a b e true l dy (x + y) = 0
  · have OK := Lib.hid (mayR_iff.mp hm)
    have HM := Lib.hid hm
    clear hm
    go_wp2_with (first
      | (go_at_call 16; refine (HMAY.out _ _ _ _ _ _ (HD.out.keep W8.out)).mono ?_; rw [HM.out]; rintro r w10 ⟨rfl, hb10⟩)
      | fail)
    obtain ⟨g2, hg2⟩ : ∃ g, w10.heap.size = g := ⟨_, rfl⟩
    obtain ⟨w11, hw11⟩ : ∃ w11, w11 = (w10.alloc (.cells #[.int .i64 dy, .int .i64 x] 38)).alloc (.cells #[.int .i64 dy, .int .i64 y] 38) := ⟨_, rfl⟩
    have k2 : w11.heap[g2]? = some (.cells #[.int .i64 dy, .int .i64 x] 38 (0, 0)) := by rw [hw11, ← hg2]; exact heap_alloc2_old _ _ _
    have k3 : w11.heap[g2 + 1]? = some (.cells #[.int .i64 dy, .int .i64 y] 38 (0, 0)) := by rw [hw11, ← hg2]; exact heap_alloc2_new _ _ _
    have kb : Below w9.heap.size w9 w11 := by rw [hw11]; exact bels (bels hb10 (below_new _ _)) (below_new _ _)
    rw [← hw11]
    simp only [hg2]
    clear hw11 hg2 hb10
    have G2 := Lib.hid k2
    have G3 := Lib.hid k3
    have G1' := Lib.hid (blk_keep G1.out kb)
    have GC' := Lib.hid (blk_keep GC.out kb)
    have GD' := Lib.hid (blk_keep GD.out kb)
    have W11 := Lib.hid (bels W8.out kb)
    clear k2 k3 kb GC GD G1 W8
    have HD11 := Lib.hid (HD.out.keep W11.out)
    refine region_slots [32, 147, 148, 149, 150, 151, 152] (by kernel_rfl) (by kernel_rfl) (by kernel_rfl) (fun L a w => ApI w11 A c l dy x L (got a 147) (got a 148) (got a 149) (got a 150) (got a 151) (got a 152) w ∧ (L 6 = true → L 5 = true ∧ got a 32 = got a 152)) ⟨ApI.start w11, fun h => by cases h⟩ ?_ ?_
    · intro i o ho L a w' hn hi hL hE
      obtain ⟨hi, h6⟩ := hi
      have hz : a.tmps.size = 205 := hn.size.trans rfl
      rcases i with _ | _ | _ | _ | _ | _ | _ | i
      all_goals (simp at ho; try subst ho)
      all_goals refine if_wanted rfl ?_
      · refine wp_build0 rfl ⟨hn.put _ (by simp) _, ?_⟩
        simp (disch := first | decide | omega) only [got_same, got_ne]
        exact ⟨(hi.grow (below_new _ _)).c0 hi.below.size (heap_alloc_new _ _), h6⟩
      · have e4 : a.eval (.tmp 4) = .slice A l.length c := by rw [HN.out]; exact (hn.got 4 (by decide)).trans rfl
        refine wp_move (.tmp 4) rfl ⟨hn.put _ (by simp) _, ?_⟩
        rw [e4]
        simp (disch := first | decide | omega) only [got_same, got_ne]
        exact ⟨hi.c1, h6⟩
      · have k0 := hE ⟨0, .data⟩ (by simp) rfl
        have k1 := hE ⟨1, .data⟩ (by simp) rfl
        refine wp_append_draws (.tmp 147) (.tmp 148) rfl w11.heap.size (got a 147) [] rfl (hi.own0 k0 hL) A c l (hi.src k1) (HD11.out.keep hi.below) (by have := HN.out; simp; omega) hi.below.size (fun v w2 hv hg => ⟨hn.put _ (by simp) _, ?_⟩)
        simp (disch := first | decide | omega) only [got_same, got_ne]
        exact ⟨hi.c2 k0 hL hv hg, h6⟩
      · refine wp_load_row 38 (.tmp 30) rfl g2 ((hn.got 30 (by decide)).trans rfl) 38 _ (0, 0) _ (blk_keep G2.out hi.below) Try.underlying38 rfl (by kernel_rfl) ⟨hn.put _ (by simp) _, ?_⟩
        simp (disch := first | decide | omega) only [got_same, got_ne]
        exact ⟨hi.c3, h6⟩
      · have k3 := hE ⟨3, .data⟩ (by simp) rfl
        refine wp_build1 (.tmp 150) dy x rfl (hi.ld k3) ⟨hn.put _ (by simp) _, ?_⟩
        simp (disch := first | decide | omega) only [got_same, got_ne]
        exact ⟨(hi.grow (below_new _ _)).c4 (heap_alloc_new _ _), h6⟩
      · have k2 := hE ⟨2, .data⟩ (by simp) rfl
        have k4 := hE ⟨4, .data⟩ (by simp) rfl
        obtain ⟨g, e, hg⟩ := hi.s1 k4 hL
        refine wp_append_draws (.tmp 149) (.tmp 151) rfl w11.heap.size (got a 149) l rfl (hi.v1 k2 hL) (some ⟨g, 0, none⟩) 1 [(dy, x)] e (DS_one hg) (by have := HN.out; simp; omega) hi.below.size (fun v w2 hv hg => ⟨hn.put _ (by simp) _, ?_⟩)
        simp (disch := first | decide | omega) only [got_same, got_ne]
        exact ⟨hi.c5 k2 hL hv hg, fun h => ⟨rfl, by have := (h6 h).1; rw [hL] at this; cases this⟩⟩
      · have k5 := hE ⟨5, .data⟩ (by simp) rfl
        refine wp_assign (.tmp 152) rfl ⟨hn.put _ (by simp) _, ?_⟩
        simp (disch := first | decide | omega) only [got_same, got_ne]
        exact ⟨hi.cong (fun k hk => also_ne L (by omega)), fun _ => ⟨k5, rfl⟩⟩
    · intro L a w' hL hn hi
      obtain ⟨hi, h6⟩ := hi
      have e32 := (h6 (hL 6 (by decide))).2
      obtain ⟨A2, c2, e2, hd2, -⟩ := DS.owned_nil (hi.v2 (hL 5 (by decide)))
      obtain ⟨n2, hn2⟩ : ∃ n2, (l ++ [(dy, x)]).length = n2 := ⟨_, rfl⟩
      rw [hn2] at e2
      rw [e2] at e32
      have HN2 := Lib.hid hn2
      have HD2 := Lib.hid hd2
      have ha := hn.eq
      obtain ⟨s147, q147⟩ : ∃ v, got a 147 = v := ⟨_, rfl⟩
      obtain ⟨s148, q148⟩ : ∃ v, got a 148 = v := ⟨_, rfl⟩
      obtain ⟨s149, q149⟩ : ∃ v, got a 149 = v := ⟨_, rfl⟩
      obtain ⟨s150, q150⟩ : ∃ v, got a 150 = v := ⟨_, rfl⟩
      obtain ⟨s151, q151⟩ : ∃ v, got a 151 = v := ⟨_, rfl⟩
      have hb12 := hi.below
      simp only [putAll, Act.put, e32, e2, q147, q148, q149, q150, q151, List.setIfInBounds_toArray, List.set_cons_succ, List.set_cons_zero] at ha
      rw [ha]
      clear ha hn hi h6 hL e32 e2 q147 q148 q149 q150 q151 a hn2 hd2
      have hc12 := blk_keep GC'.out hb12
      have hd12 := blk_keep GD'.out hb12
      have k12 := blk_keep G2.out hb12
      have m12 := blk_keep G3.out hb12
      have o12 := blk_keep G1'.out hb12
      have W12 := Lib.hid (bels W11.out hb12)
      clear hb12
      have O1 := Lib.hid (mayR_iff.mpr (parts_one OK.out h3 h4))
      have O2 := Lib.hid (mayR_iff.mpr (parts_two OK.out h3 h4 (by have := HN.out; omega)))
      have O3 := Lib.hid (mayR_iff.mpr (parts_more OK.out HBD.out a1))
      go_wp2_with (first
        | (refine wpList_load_row rfl 27 (.tmp 19) rfl gc rfl 27 (crd s a b e true) (0, 0) _ (by assumption) Try.underlying27 rfl (crd_size ..) ?_)
        | (refine wpList_load_rowG rfl 27 (.tmp 19) rfl gc rfl 27 (crd s a b e true) (0, 0) _ (by assumption) Try.underlying27 rfl (crd_size ..) ?_)
        | (refine wpList_load_rowG rfl 27 (.tmp 20) rfl gd rfl 27 (crd s a' b' e true) (0, 0) _ (by assumption) Try.underlying27 rfl (crd_size ..) ?_)
        | (refine wpList_load_row rfl 38 (.tmp 30) rfl g2 rfl 38 #[.int .i64 dy, .int .i64 x] (0, 0) _ (by assumption) Try.underlying38 rfl (by kernel_rfl) ?_)
        | (refine wpList_load_rowG rfl 38 (.tmp 31) rfl (g2 + 1) rfl 38 #[.int .i64 dy, .int .i64 y] (0, 0) _ (by assumption) Try.underlying38 rfl (by kernel_rfl) ?_)
        | (refine wpList_load_rowG rfl 38 (.tmp 29) rfl g1 rfl 38 #[.int .i64 dy, .int .i64 (x + y)] (0, 0) _ (by assumption) Try.underlying38 rfl (by kernel_rfl) ?_)
        | (go_at_call 16; (with_reducible refine (HMAY.out s a b e x _ (HD.out.keep W12.out)).mono ?_); rw [O1.out]; rintro r w13 ⟨rfl, hb13⟩; have hc13 := blk_keep hc12 hb13; have m13 := blk_keep m12 hb13; have hd13 := blk_keep hd12 hb13; have o13 := blk_keep o12 hb13)
        | (go_at_call 16; have hm2 := May_any s a b e true A2 c2 (l ++ [(dy, x)]) dy y w13 (HD2.out.keep hb13) (by simp; have := HN.out; omega); rw [HN2.out] at hm2; (with_reducible refine hm2.mono ?_); rw [O2.out]; rintro r w14 ⟨rfl, hb14⟩; clear hm2; have hd14 := blk_keep hd13 hb14; have o14 := blk_keep o13 hb14)
        | (go_at_call 16; (with_reducible refine (HMAY.out s a' b' e (x + y) _ (HD.out.keep (bels (bels W12.out hb13) hb14))).mono ?_); rw [O3.out]; rintro r w15 ⟨rfl, hb15⟩)
        | fail)
      have hc15 := blk_keep (blk_keep hc13 hb14) hb15
      have o15 := blk_keep o14 hb15
      have m15 := blk_keep (blk_keep m13 hb14) hb15
      have W15 := Lib.hid (bels (bels (bels W12.out hb13) hb14) hb15)
      have D2_15 := Lib.hid (((HD2.out.keep hb13).keep hb14).keep hb15)
      have D15 := Lib.hid (HD.out.keep W15.out)
      obtain ⟨R, hR⟩ : ∃ R, R = max (most s a - sumD (l ++ [(dy, x + y)])) 0 := ⟨_, rfl⟩
      have hR2 : max (most s a - sumD (l ++ [(dy, x)] ++ [(dy, y)])) 0 = R := by rw [hR, parts_sum]
      have HR1 := Lib.hid hR
      have HR2 := Lib.hid hR2
      have C15 := Lib.hid hc15
      have O15 := Lib.hid o15
      have M15 := Lib.hid m15
      clear hR hR2 hb13 hb14 hb15 hc12 hd12 k12 m12 o12 hc13 hd13 o13 m13 hd14 o14 hc15 o15 m15 HM HMAY
      refine region_slots [33, 34, 172, 173, 174, 175, 176, 177, 178, 179, 180, 181, 182] (by kernel_rfl) (by kernel_rfl) (by kernel_rfl) (fun L a_ w => ApI w15 A c l dy (x + y) (fun k => L (k + 1)) (got a_ 174) (got a_ 175) (got a_ 176) (got a_ 177) (got a_ 178) (got a_ 179) w ∧ (L 0 = true → got a_ 173 = .agg (crd s a b e true)) ∧ (L 7 = true → got a_ 180 = .tuple #[.int .i64 R, .int .i64 0]) ∧ (L 8 = true → got a_ 172 = .tuple #[.int .i64 R, .int .i64 0]) ∧ (L 9 = true → got a_ 181 = .int .i64 R) ∧ (L 10 = true → got a_ 182 = .int .i64 0) ∧ (L 11 = true → got a_ 33 = .int .i64 R) ∧ (L 12 = true → got a_ 34 = .int .i64 0)) ⟨(ApI.start w15).cong (fun _ _ => rfl), (fun h => by cases h), (fun h => by cases h), (fun h => by cases h), (fun h => by cases h), (fun h => by cases h), (fun h => by cases h), (fun h => by cases h)⟩ ?_ ?_
      · intro i o ho L a_ w' hn hi hL hE
        obtain ⟨hi, z0, z7, z8, z9, z10, z11, z12⟩ := hi
        have hz : a_.tmps.size = 205 := hn.size.trans rfl
        rcases i with _ | _ | _ | _ | _ | _ | _ | _ | _ | _ | _ | _ | _ | i
        all_goals (simp at ho; try subst ho)
        all_goals refine if_wanted rfl ?_
        · refine wp_load_row 27 (.tmp 19) rfl gc ((hn.got 19 (by decide)).trans rfl) 27 _ (0, 0) _ (blk_keep C15.out hi.below) Try.underlying27 rfl (crd_size s a b e true) ⟨hn.put _ (by simp) _, ?_⟩
          simp (disch := first | decide | omega) only [got_same, got_ne]
          exact ⟨hi.cong (fun k hk => also_ne L (by omega)), (fun _ => by first | trivial | rfl), z7, z8, z9, z10, z11, z12⟩
        · refine wp_build0 rfl ⟨hn.put _ (by simp) _, ?_⟩
          simp (disch := first | decide | omega) only [got_same, got_ne]
          exact ⟨((hi.grow (below_new _ _)).c0 hi.below.size (heap_alloc_new _ _)).cong (fun k _ => congrFun (also_shift L 0) k), z0, z7, z8, z9, z10, z11, z12⟩
        · have e4 : a_.eval (.tmp 4) = .slice A l.length c := by rw [HN.out]; exact (hn.got 4 (by decide)).trans rfl
          refine wp_move (.tmp 4) rfl ⟨hn.put _ (by simp) _, ?_⟩
          rw [e4]
          simp (disch := first | decide | omega) only [got_same, got_ne]
          exact ⟨hi.c1.cong (fun k _ => congrFun (also_shift L 1) k), z0, z7, z8, z9, z10, z11, z12⟩
        · have k0 := hE ⟨1, .data⟩ (by simp) rfl
          have k1 := hE ⟨2, .data⟩ (by simp) rfl
          refine wp_append_draws (.tmp 174) (.tmp 175) rfl w15.heap.size (got a_ 174) [] rfl (hi.own0 k0 hL) A c l (hi.src k1) (D15.out.keep hi.below) (by have := HN.out; simp; omega) hi.below.size (fun v w2 hv hg => ⟨hn.put _ (by simp) _, ?_⟩)
          simp (disch := first | decide | omega) only [got_same, got_ne]
          exact ⟨(hi.c2 k0 hL hv hg).cong (fun k _ => congrFun (also_shift L 2) k), z0, z7, z8, z9, z10, z11, z12⟩
        · refine wp_load_row 38 (.tmp 29) rfl g1 ((hn.got 29 (by decide)).trans rfl) 38 _ (0, 0) _ (blk_keep O15.out hi.below) Try.underlying38 rfl (by kernel_rfl) ⟨hn.put _ (by simp) _, ?_⟩
          simp (disch := first | decide | omega) only [got_same, got_ne]
          exact ⟨hi.c3.cong (fun k _ => congrFun (also_shift L 3) k), z0, z7, z8, z9, z10, z11, z12⟩
        · have k3 := hE ⟨4, .data⟩ (by simp) rfl
          refine wp_build1 (.tmp 177) dy (x + y) rfl (hi.ld k3) ⟨hn.put _ (by simp) _, ?_⟩
          simp (disch := first | decide | omega) only [got_same, got_ne]
          exact ⟨((hi.grow (below_new _ _)).c4 (heap_alloc_new _ _)).cong (fun k _ => congrFun (also_shift L 4) k), z0, z7, z8, z9, z10, z11, z12⟩
        · have k2 := hE ⟨3, .data⟩ (by simp) rfl
          have k4 := hE ⟨5, .data⟩ (by simp) rfl
          obtain ⟨g, e, hg⟩ := hi.s1 k4 hL
          refine wp_append_draws (.tmp 176) (.tmp 178) rfl w15.heap.size (got a_ 176) l rfl (hi.v1 k2 hL) (some ⟨g, 0, none⟩) 1 [(dy, (x + y))] e (DS_one hg) (by have := HN.out; simp; omega) hi.below.size (fun v w2 hv hg => ⟨hn.put _ (by simp) _, ?_⟩)
          simp (disch := first | decide | omega) only [got_same, got_ne]
          exact ⟨(hi.c5 k2 hL hv hg).cong (fun k _ => congrFun (also_shift L 5) k), z0, z7, z8, z9, z10, z11, z12⟩
        · have k0 := hE ⟨0, .data⟩ (by simp) rfl
          have k6 := hE ⟨6, .data⟩ (by simp) rfl
          obtain ⟨A3, c3, e3, hd3, -⟩ := DS.owned_nil (hi.v2 k6)
          refine wp_call17 (.tmp 173) (.tmp 179) _ _ rfl (z0 k0) e3 (R := fun r w2 => r = .tuple #[.int .i64 R, .int .i64 0] ∧ Below w'.heap.size w' w2) ((Left_yes s a b e true A3 c3 _ w' HB.out OK.out.right (by have := HN.out; unfold maxLen; simp; omega) hd3).mono (fun _ _ ⟨he, hb⟩ => ⟨_, he, (by rw [HR1.out]), hb⟩)) (fun r w2 ⟨hr, hb⟩ => ⟨hn.put _ (by simp) _, ?_⟩)
          subst hr
          simp (disch := first | decide | omega) only [got_same, got_ne]
          exact ⟨(hi.grow hb).cong (fun k hk => also_ne L (by omega)), z0, (fun _ => by first | trivial | rfl), z8, z9, z10, z11, z12⟩
        · have k7 := hE ⟨7, .data⟩ (by simp) rfl
          refine wp_move (.tmp 180) rfl ⟨hn.put _ (by simp) _, ?_⟩
          rw [show a_.eval (.tmp 180) = _ from z7 k7]
          simp (disch := first | decide | omega) only [got_same, got_ne]
          exact ⟨hi.cong (fun k hk => also_ne L (by omega)), z0, z7, (fun _ => by first | trivial | rfl), z9, z10, z11, z12⟩
        · have k8 := hE ⟨8, .data⟩ (by simp) rfl
          refine wp_extract (.tmp 172) 0 _ (.int .i64 (R)) rfl (z8 k8) rfl ⟨hn.put _ (by simp) _, ?_⟩
          simp (disch := first | decide | omega) only [got_same, got_ne]
          exact ⟨hi.cong (fun k hk => also_ne L (by omega)), z0, z7, z8, (fun _ => by first | trivial | rfl), z10, z11, z12⟩
        · have k8 := hE ⟨8, .data⟩ (by simp) rfl
          refine wp_extract (.tmp 172) 1 _ (.int .i64 (0)) rfl (z8 k8) rfl ⟨hn.put _ (by simp) _, ?_⟩
          simp (disch := first | decide | omega) only [got_same, got_ne]
          exact ⟨hi.cong (fun k hk => also_ne L (by omega)), z0, z7, z8, z9, (fun _ => by first | trivial | rfl), z11, z12⟩
        · have k9 := hE ⟨9, .data⟩ (by simp) rfl
          refine wp_assign (.tmp 181) rfl ⟨hn.put _ (by simp) _, ?_⟩
          rw [show a_.eval (.tmp 181) = _ from z9 k9]
          simp (disch := first | decide | omega) only [got_same, got_ne]
          exact ⟨hi.cong (fun k hk => also_ne L (by omega)), z0, z7, z8, z9, z10, (fun _ => by first | trivial | rfl), z12⟩
        · have k9 := hE ⟨10, .data⟩ (by simp) rfl
          refine wp_assign (.tmp 182) rfl ⟨hn.put _ (by simp) _, ?_⟩
          rw [show a_.eval (.tmp 182) = _ from z10 k9]
          simp (disch := first | decide | omega) only [got_same, got_ne]
          exact ⟨hi.cong (fun k hk => also_ne L (by omega)), z0, z7, z8, z9, z10, z11, (fun _ => by first | trivial | rfl)⟩
      · intro L a_ w' hL hn hi
        obtain ⟨hi, z0, z7, z8, z9, z10, z11, z12⟩ := hi
        replace z0 := z0 (hL 0 (by decide))
        replace z7 := z7 (hL 7 (by decide))
        replace z8 := z8 (hL 8 (by decide))
        replace z9 := z9 (hL 9 (by decide))
        replace z10 := z10 (hL 10 (by decide))
        replace z11 := z11 (hL 11 (by decide))
        replace z12 := z12 (hL 12 (by decide))
        have hbx := hi.below
        have ha := hn.eq
        obtain ⟨q174, y174⟩ : ∃ v, got a_ 174 = v := ⟨_, rfl⟩
        obtain ⟨q175, y175⟩ : ∃ v, got a_ 175 = v := ⟨_, rfl⟩
        obtain ⟨q176, y176⟩ : ∃ v, got a_ 176 = v := ⟨_, rfl⟩
        obtain ⟨q177, y177⟩ : ∃ v, got a_ 177 = v := ⟨_, rfl⟩
        obtain ⟨q178, y178⟩ : ∃ v, got a_ 178 = v := ⟨_, rfl⟩
        obtain ⟨q179, y179⟩ : ∃ v, got a_ 179 = v := ⟨_, rfl⟩
        simp only [putAll, Act.put, z0, z7, z8, z9, z10, z11, z12, y174, y175, y176, y177, y178, y179, List.setIfInBounds_toArray, List.set_cons_succ, List.set_cons_zero] at ha
        rw [ha]
        clear ha hn hi hL z0 z7 z8 z9 z10 z11 z12 y174 y175 y176 y177 y178 y179 a_
        have HY := Lib.hid hbx
        have hby := hbx
        clear hbx
        obtain ⟨w16, e16⟩ : ∃ w16, w16 = w' := ⟨_, rfl⟩
        rw [← e16] at HY hby ⊢
        clear e16
        go_wp2_with fail
        refine region_slots [35, 36, 183, 184, 185, 186, 187, 188, 189, 190, 191, 192, 193] (by kernel_rfl) (by kernel_rfl) (by kernel_rfl) (fun L a_ w => ApI w16 A2 c2 (l ++ [(dy, x)]) dy y (fun k => L (k + 1)) (got a_ 185) (got a_ 186) (got a_ 187) (got a_ 188) (got a_ 189) (got a_ 190) w ∧ (L 0 = true → got a_ 184 = .agg (crd s a b e true)) ∧ (L 7 = true → got a_ 191 = .tuple #[.int .i64 R, .int .i64 0]) ∧ (L 8 = true → got a_ 183 = .tuple #[.int .i64 R, .int .i64 0]) ∧ (L 9 = true → got a_ 192 = .int .i64 R) ∧ (L 10 = true → got a_ 193 = .int .i64 0) ∧ (L 11 = true → got a_ 35 = .int .i64 R) ∧ (L 12 = true → got a_ 36 = .int .i64 0)) ⟨(ApI.start w16).cong (fun _ _ => rfl), (fun h => by cases h), (fun h => by cases h), (fun h => by cases h), (fun h => by cases h), (fun h => by cases h), (fun h => by cases h), (fun h => by cases h)⟩ ?_ ?_
        · intro i o ho L a_ w' hn hi hL hE
          obtain ⟨hi, z0, z7, z8, z9, z10, z11, z12⟩ := hi
          have hz : a_.tmps.size = 205 := hn.size.trans rfl
          rcases i with _ | _ | _ | _ | _ | _ | _ | _ | _ | _ | _ | _ | _ | i
          all_goals (simp at ho; try subst ho)
          all_goals refine if_wanted rfl ?_
          · refine wp_load_row 27 (.tmp 19) rfl gc ((hn.got 19 (by decide)).trans rfl) 27 _ (0, 0) _ (blk_keep (blk_keep C15.out HY.out) hi.below) Try.underlying27 rfl (crd_size s a b e true) ⟨hn.put _ (by simp) _, ?_⟩
            simp (disch := first | decide | omega) only [got_same, got_ne]
            exact ⟨hi.cong (fun k hk => also_ne L (by omega)), (fun _ => by first | trivial | rfl), z7, z8, z9, z10, z11, z12⟩
          · refine wp_build0 rfl ⟨hn.put _ (by simp) _, ?_⟩
            simp (disch := first | decide | omega) only [got_same, got_ne]
            exact ⟨((hi.grow (below_new _ _)).c0 hi.below.size (heap_alloc_new _ _)).cong (fun k _ => congrFun (also_shift L 0) k), z0, z7, z8, z9, z10, z11, z12⟩
          · have e4 : a_.eval (.tmp 32) = .slice A2 (l ++ [(dy, x)]).length c2 := by rw [HN2.out]; exact (hn.got 32 (by decide)).trans rfl
            refine wp_move (.tmp 32) rfl ⟨hn.put _ (by simp) _, ?_⟩
            rw [e4]
            simp (disch := first | decide | omega) only [got_same, got_ne]
            exact ⟨hi.c1.cong (fun k _ => congrFun (also_shift L 1) k), z0, z7, z8, z9, z10, z11, z12⟩
          · have k0 := hE ⟨1, .data⟩ (by simp) rfl
            have k1 := hE ⟨2, .data⟩ (by simp) rfl
            refine wp_append_draws (.tmp 185) (.tmp 186) rfl w16.heap.size (got a_ 185) [] rfl (hi.own0 k0 hL) A2 c2 (l ++ [(dy, x)]) (hi.src k1) ((D2_15.out.keep HY.out).keep hi.below) (by have := HN.out; simp; omega) hi.below.size (fun v w2 hv hg => ⟨hn.put _ (by simp) _, ?_⟩)
            simp (disch := first | decide | omega) only [got_same, got_ne]
            exact ⟨(hi.c2 k0 hL hv hg).cong (fun k _ => congrFun (also_shift L 2) k), z0, z7, z8, z9, z10, z11, z12⟩
          · refine wp_load_row 38 (.tmp 31) rfl (g2 + 1) ((hn.got 31 (by decide)).trans rfl) 38 _ (0, 0) _ (blk_keep (blk_keep M15.out HY.out) hi.below) Try.underlying38 rfl (by kernel_rfl) ⟨hn.put _ (by simp) _, ?_⟩
            simp (disch := first | decide | omega) only [got_same, got_ne]
            exact ⟨hi.c3.cong (fun k _ => congrFun (also_shift L 3) k), z0, z7, z8, z9, z10, z11, z12⟩
          · have k3 := hE ⟨4, .data⟩ (by simp) rfl
            refine wp_build1 (.tmp 188) dy y rfl (hi.ld k3) ⟨hn.put _ (by simp) _, ?_⟩
            simp (disch := first | decide | omega) only [got_same, got_ne]
            exact ⟨((hi.grow (below_new _ _)).c4 (heap_alloc_new _ _)).cong (fun k _ => congrFun (also_shift L 4) k), z0, z7, z8, z9, z10, z11, z12⟩
          · have k2 := hE ⟨3, .data⟩ (by simp) rfl
            have k4 := hE ⟨5, .data⟩ (by simp) rfl
            obtain ⟨g, e, hg⟩ := hi.s1 k4 hL
            refine wp_append_draws (.tmp 187) (.tmp 189) rfl w16.heap.size (got a_ 187) (l ++ [(dy, x)]) rfl (hi.v1 k2 hL) (some ⟨g, 0, none⟩) 1 [(dy, y)] e (DS_one hg) (by have := HN.out; simp; omega) hi.below.size (fun v w2 hv hg => ⟨hn.put _ (by simp) _, ?_⟩)
            simp (disch := first | decide | omega) only [got_same, got_ne]
            exact ⟨(hi.c5 k2 hL hv hg).cong (fun k _ => congrFun (also_shift L 5) k), z0, z7, z8, z9, z10, z11, z12⟩
          · have k0 := hE ⟨0, .data⟩ (by simp) rfl
            have k6 := hE ⟨6, .data⟩ (by simp) rfl
            obtain ⟨A3, c3, e3, hd3, -⟩ := DS.owned_nil (hi.v2 k6)
            refine wp_call17 (.tmp 184) (.tmp 190) _ _ rfl (z0 k0) e3 (R := fun r w2 => r = .tuple #[.int .i64 R, .int .i64 0] ∧ Below w'.heap.size w' w2) ((Left_yes s a b e true A3 c3 _ w' HB.out (parts_two OK.out h3 h4 (by have := HN.out; omega)).right (by have := HN.out; unfold maxLen; simp; omega) hd3).mono (fun _ _ ⟨he, hb⟩ => ⟨_, he, (by rw [← HR2.out]), hb⟩)) (fun r w2 ⟨hr, hb⟩ => ⟨hn.put _ (by simp) _, ?_⟩)
            subst hr
            simp (disch := first | decide | omega) only [got_same, got_ne]
            exact ⟨(hi.grow hb).cong (fun k hk => also_ne L (by omega)), z0, (fun _ => by first | trivial | rfl), z8, z9, z10, z11, z12⟩
          · have k7 := hE ⟨7, .data⟩ (by simp) rfl
            refine wp_move (.tmp 191) rfl ⟨hn.put _ (by simp) _, ?_⟩
            rw [show a_.eval (.tmp 191) = _ from z7 k7]
            simp (disch := first | decide | omega) only [got_same, got_ne]
            exact ⟨hi.cong (fun k hk => also_ne L (by omega)), z0, z7, (fun _ => by first | trivial | rfl), z9, z10, z11, z12⟩
          · have k8 := hE ⟨8, .data⟩ (by simp) rfl
            refine wp_extract (.tmp 183) 0 _ (.int .i64 (R)) rfl (z8 k8) rfl ⟨hn.put _ (by simp) _, ?_⟩
            simp (disch := first | decide | omega) only [got_same, got_ne]
            exact ⟨hi.cong (fun k hk => also_ne L (by omega)), z0, z7, z8, (fun _ => by first | trivial | rfl), z10, z11, z12⟩
          · have k8 := hE ⟨8, .data⟩ (by simp) rfl
            refine wp_extract (.tmp 183) 1 _ (.int .i64 (0)) rfl (z8 k8) rfl ⟨hn.put _ (by simp) _, ?_⟩
            simp (disch := first | decide | omega) only [got_same, got_ne]
            exact ⟨hi.cong (fun k hk => also_ne L (by omega)), z0, z7, z8, z9, (fun _ => by first | trivial | rfl), z11, z12⟩
          · have k9 := hE ⟨9, .data⟩ (by simp) rfl
            refine wp_assign (.tmp 192) rfl ⟨hn.put _ (by simp) _, ?_⟩
            rw [show a_.eval (.tmp 192) = _ from z9 k9]
            simp (disch := first | decide | omega) only [got_same, got_ne]
            exact ⟨hi.cong (fun k hk => also_ne L (by omega)), z0, z7, z8, z9, z10, (fun _ => by first | trivial | rfl), z12⟩
          · have k9 := hE ⟨10, .data⟩ (by simp) rfl
            refine wp_assign (.tmp 193) rfl ⟨hn.put _ (by simp) _, ?_⟩
            rw [show a_.eval (.tmp 193) = _ from z10 k9]
            simp (disch := first | decide | omega) only [got_same, got_ne]
            exact ⟨hi.cong (fun k hk => also_ne L (by omega)), z0, z7, z8, z9, z10, z11, (fun _ => by first | trivial | rfl)⟩
        · intro L a_ w' hL hn hi
          obtain ⟨hi, z0, z7, z8, z9, z10, z11, z12⟩ := hi
          replace z0 := z0 (hL 0 (by decide))
          replace z7 := z7 (hL 7 (by decide))
          replace z8 := z8 (hL 8 (by decide))
          replace z9 := z9 (hL 9 (by decide))
          replace z10 := z10 (hL 10 (by decide))
          replace z11 := z11 (hL 11 (by decide))
          replace z12 := z12 (hL 12 (by decide))
          have hbx := hi.below
          have ha := hn.eq
          obtain ⟨q185, y185⟩ : ∃ v, got a_ 185 = v := ⟨_, rfl⟩
          obtain ⟨q186, y186⟩ : ∃ v, got a_ 186 = v := ⟨_, rfl⟩
          obtain ⟨q187, y187⟩ : ∃ v, got a_ 187 = v := ⟨_, rfl⟩
          obtain ⟨q188, y188⟩ : ∃ v, got a_ 188 = v := ⟨_, rfl⟩
          obtain ⟨q189, y189⟩ : ∃ v, got a_ 189 = v := ⟨_, rfl⟩
          obtain ⟨q190, y190⟩ : ∃ v, got a_ 190 = v := ⟨_, rfl⟩
          simp only [putAll, Act.put, z0, z7, z8, z9, z10, z11, z12, y185, y186, y187, y188, y189, y190, List.setIfInBounds_toArray, List.set_cons_succ, List.set_cons_zero] at ha
          rw [ha]
          clear ha hn hi hL z0 z7 z8 z9 z10 z11 z12 y185 y186 y187 y188 y189 y190 a_
          go_wp2
          go_ret
          exact ⟨rfl, bels (bels W15.out hby) hbx⟩
  · have hmb : (mayR s a b e true l dy (x + y) == 0) = false := by simpa using hm
    clear hm
    go_wp2_with (first
      | (go_at_call 16; refine (HMAY.out _ _ _ _ _ _ (HD.out.keep W8.out)).mono ?_; rintro r w10 ⟨rfl, hb10⟩))
    go_ret
    exact ⟨rfl, bels W8.out hb10⟩

theorem parts_walk (s a b e : Int) (A : Option Addr) (c : Nat) (l : List Drw) (x y dy m : Int) (w : World) (_hl : l.length ≤ maxLen) (hd : DS w A l) :
    Calls Try.prog 5 #[.int .i64 s, .int .i64 a, .int .i64 b, .int .i64 e, .slice A l.length c, .int .i64 x, .int .i64 y, .int .i64 dy, .int .i64 m] w fun r w' => r = .returned (.bool true) ∧ Below w.heap.size w w' := by
  by_cases hg : partsG s a b e l.length x y m
  · exact parts_in s a b e A c l x y dy m w hd hg
  · exact parts_out s a b e A l.length c x y dy m w hg
end Go.Proofs.Ytbhpghjdclehmaa
