/- The walk of AllowNever. -/
import Derived.Test.YtbhpghjdclehmaaNeverP
import Derived.Test.YtbhpghjdclehmaaTol
namespace Go.Proofs.Ytbhpghjdclehmaa
open Go.RowKit

attribute [local go_sem] crd_n store_crd

/-- A draw out of the middle of a row. -/
theorem loads_draw {w : World} {b off : Nat} {d1 d2 : Int} (h1 : w.cell? ⟨b, off, none⟩ = some (.int .i64 d1)) (h2 : w.cell? ⟨b, off + 1, none⟩ = some (.int .i64 d2)) :
    ∀ w', Below w.heap.size w w' → (loadVar 38 ⟨b, off, none⟩).run Try.prog w' = .ok (.agg #[.int .i64 d1, .int .i64 d2]) w' := by
  intro w' hb
  have c1 : w'.cell? ⟨b, off, none⟩ = _ := (hb.cell (block_lt_of_cell h1)).trans h1
  have c2 : w'.cell? ⟨b, off + 1, none⟩ = _ := (hb.cell (block_lt_of_cell h2)).trans h2
  go_simp

/-- The built-in append of draws in a plain region. -/
theorem wpList_append_draws {ops : Array Oper} {rest : List Oper} {o : Oper} {a : Act} {w : World} {Q : Exit → Act → World → Prop} (hgd : o.guard = none) (s x : Operand)
    (ho : o.op = .call { callee := .builtin .append, args := #[s, x], argTypes := #[36, 36] })
    (base : Nat) (v : Value) (m : List Drw) (hs : a.eval s = v) (hown : w.ownsRow base 38 2 v m.length (flat m))
    (A : Option Addr) (c : Nat) (l : List Drw) (hx : a.eval x = .slice A l.length c) (hd : DS w A l) (hlen : m.length + l.length ≤ 1000000) (hbase : base ≤ w.heap.size)
    (h : ∀ v' w', w'.ownsRow base 38 2 v' (m ++ l).length (flat (m ++ l)) → w.grownBy w' v.ownBlock → wpList Try.prog ops Q rest (a.put o.dst v') w') : wpList Try.prog ops Q (o :: rest) a w :=
  wpList_plain hgd fun _ hK => wp_append_draws s x ho base v m hs hown A c l hx hd hlen hbase fun v' w' h1 h2 => hK _ _ (h v' w' h1 h2)

set_option maxHeartbeats 1000000 in
theorem never_walk (s a b e : Int) (p : Bool) (A : Option Addr) (c : Nat) (l : List Drw) (w : World) (hN : l.length ≤ maxLen) (hd : DS w A l) :
    Calls Try.prog 6 #[.int .i64 s, .int .i64 a, .int .i64 b, .int .i64 e, .bool p, .slice A l.length c] w fun x w' => x = .returned (.bool true) ∧ Below w.heap.size w w' := by
  obtain ⟨n, hn⟩ : ∃ n, l.length = n := ⟨_, rfl⟩
  rw [hn] at hN ⊢
  unfold maxLen at hN
  have HN := Lib.hid hn
  have HD := Lib.hid hd
  clear hn hd
  by_cases h60 : n ≤ 60
  · go_enter Try.func6, Try.ntmps6
    go_wp2_with (first
      | (go_at_call 7; refine (awake_any _).mono ?_; rintro x w1 ⟨rfl, hb1⟩)
      | (go_at_call 8; refine (lawBounds_any _ _ _ _ _ _).mono ?_; rintro x w2 ⟨rfl, hb2⟩))
    have hwc : Below w.heap.size w (w2.alloc (.cells (crd s a b e p) 27)) := bels (bels hb1 hb2) (below_new _ _)
    have hgc : (w2.alloc (.cells (crd s a b e p) 27)).heap[w2.heap.size]? = some (.cells (crd s a b e p) 27 (0, 0)) := heap_alloc_new _ _
    have hsc : (w2.alloc (.cells (crd s a b e p) 27)).heap.size = w2.heap.size + 1 := by simp
    have hse : ((w2.alloc (.cells (crd s a b e p) 27)).alloc (.cells #[] 38)).heap[(w2.alloc (.cells (crd s a b e p) 27)).heap.size]? = some (.cells #[] 38 (0, 0)) := heap_alloc_new _ _
    obtain ⟨wc, hwcd⟩ : ∃ wc, wc = w2.alloc (.cells (crd s a b e p) 27) := ⟨_, rfl⟩
    rw [← hwcd] at hwc hgc hsc hse ⊢
    rw [← hsc]
    have HSC := Lib.hid hsc
    have HWC := Lib.hid hwc
    have HGC := Lib.hid hgc
    have HSE := Lib.hid hse
    clear hwcd hsc hwc hgc hse hb1 hb2
    go_loopw [14, 15] (fun v i wr => ∃ k : Nat, k ≤ n ∧ i = .int .i64 k ∧ wr.ownsRow wc.heap.size 38 2 v (hadK s a b e p l k).length (flat (hadK s a b e p l k)) ∧ Below wc.heap.size wc wr) (fun _ i _ => n - (intOf i).toNat)
    case atStart => exact ⟨0, Nat.zero_le _, rfl, ⟨rfl, Or.inr ⟨wc.heap.size, 0, #[], rfl, Nat.le_refl _, HSE.out, Nat.le_refl _, Nat.zero_le _, rfl, rfl⟩⟩, below_new _ _⟩
    case round =>
      obtain ⟨k, hk, rfl, hown, hb⟩ := hrel
      obtain ⟨A1, c1, rfl, hd1, -⟩ := DS.owned_nil hown
      have HW := Lib.hid (HWC.out.trans (hb.mono HWC.out.size))
      have HG := Lib.hid (blk_keep HGC.out hb)
      have HO := Lib.hid hown
      have HB := Lib.hid hb
      have HD1 := Lib.hid hd1
      have hsz := hb.size
      clear hown hb hd1
      by_cases hlt : k < n
      · rcases HD.out with h0 | ⟨b0, off, rfl, hlb, hc⟩
        · rw [h0] at HN; have := HN.out; simp at this; omega
        · obtain ⟨e1, e2⟩ := hc k (by rw [HN.out]; exact hlt)
          have E1 := Lib.hid ((HW.out.cell (p := ⟨b0, off + k * 2, none⟩) hlb).trans e1)
          have E2 := Lib.hid ((HW.out.cell (p := ⟨b0, off + k * 2 + 1, none⟩) hlb).trans e2)
          clear e1 e2 hc
          have hlen := hadK_len s a b e p l k
          have i0 : (0 : Int) ≤ k := Int.natCast_nonneg _
          have i1 : (k : Int) < n := by omega
          go_wp2_with fail
          refine region_below (by kernel_rfl) (by kernel_rfl) ?_
          refine wq_load rfl 27 (.tmp 13) rfl _ rfl _ (loads_row HG.out Try.underlying27 rfl (crd_size ..)) ?_
          quiet_step ((intro _; rfl))
          quiet_step ((intro _; rfl))
          quiet_step ((intro _; rfl))
          quiet_step ((intro _; rfl))
          refine wq_load rfl 38 (.tmp 47) rfl _ rfl _ (loads_draw E1.out E2.out) ?_
          quiet_step ((intro hC; go_at_call 16; exact calls_below hC (May_any _ _ _ _ _ _ _ _ _ _ _ (HD1.out.keep hC) (by omega))))
          by_cases hm : mayR s a b e p (hadK s a b e p l k) (day l k) (amt l k) = 0
          · have HM := Lib.hid hm
            have hmb : (mayR s a b e p (hadK s a b e p l k) (day l k) (amt l k) == 0) = true := by simpa using hm
            clear hm
            quiet_step ((intro _; rfl))
            refine wpQuiet_nil ?_
            intro w5 hb5
            have E3 := (hb5.cell (block_lt_of_cell E1.out)).trans E1.out
            have E4 := (hb5.cell (block_lt_of_cell E2.out)).trans E2.out
            have HO5 := Lib.hid (owns_keep (owns_keep HO.out hb5) (below_new w5 (.cells #[.int .i64 (day l k), .int .i64 (amt l k)] 38)))
            have HB5 := Lib.hid ((HB.out.trans (hb5.mono hsz)).trans ((below_new w5 (.cells #[.int .i64 (day l k), .int .i64 (amt l k)] 38)).mono (Nat.le_trans hsz hb5.size)))
            have HS5 := Lib.hid (Nat.le_trans hsz hb5.size)
            clear hb5
            go_wp2_with (first | (at_builtin; refine wpList_append_draws rfl (.tmp 51) (.tmp 56) rfl wc.heap.size _ (hadK s a b e p l k) rfl HO5.out (some ⟨w5.heap.size, 0, none⟩) 1 [(day l k, amt l k)] rfl (DS_one (heap_alloc_new _ _)) (by simp; omega) HB5.out.size ?_; intro v6 w6 hv6 hg6))
            have hk1 : hadK s a b e p l (k + 1) = hadK s a b e p l k ++ [(day l k, amt l k)] := if_pos HM.out
            go_roundw
            case rel => exact ⟨k + 1, by omega, by go_num, by rw [hk1]; exact hv6, HB5.out.grown hg6 HB5.out.size (fun g hg => (HO5.out.lt g hg).1)⟩
            case measure => simp [intOf]; omega
          · have HM := Lib.hid hm
            have hmb : (mayR s a b e p (hadK s a b e p l k) (day l k) (amt l k) == 0) = false := by simpa using hm
            clear hm
            quiet_step ((intro _; rfl))
            refine wpQuiet_nil ?_
            intro w5 hb5
            have HO5 := Lib.hid (owns_keep HO.out hb5)
            have HB5 := Lib.hid (HB.out.trans (hb5.mono hsz))
            clear hb5
            go_wp2
            have hk1 : hadK s a b e p l (k + 1) = hadK s a b e p l k := if_neg HM.out
            go_roundw
            case rel => exact ⟨k + 1, by omega, by go_num, by rw [hk1]; exact HO5.out, HB5.out⟩
            case measure => simp [intOf]; omega
      · obtain rfl : k = n := by omega
        have hlen := hadK_len s a b e p l k
        cases hbd : bnd s a b e
        · have hno := hadK_no (p := p) hbd l k
          rw [hno] at HD1 ⊢
          have HBD := Lib.hid hbd
          clear hbd hno HO hlen
          go_wp2_with (first
            | (refine wpList_load_row rfl 27 (.tmp 13) rfl w2.heap.size rfl 27 (crd s a b e p) (0, 0) _ (by assumption) Try.underlying27 rfl (crd_size ..) ?_)
            | (go_at_call 18; refine (Drawn_yes A1 c1 [] _ rfl (by simp [maxLen]) HD1.out).mono ?_; rintro x w7 ⟨rfl, hb7⟩; have hg7 := blk_keep HG.out hb7)
            | (go_at_call 11; refine (Bounds_any _ _ _ _ _ _).mono ?_; rw [HBD.out]; rintro x w8 ⟨rfl, hb8⟩))
          go_ret
          exact ⟨rfl, bels (bels HW.out hb7) hb8⟩
        · have hok := hadK_ok (p := p) hbd l k
          obtain ⟨h, hh⟩ : ∃ h, hadK s a b e p l k = h := ⟨_, rfl⟩
          rw [hh] at HD1 hok hlen ⊢
          have HOK := Lib.hid hok
          have HBD := Lib.hid hbd
          have HR := Lib.hid hok.right
          have hmx : h.length ≤ maxLen := by unfold maxLen; omega
          have HMX := Lib.hid hmx
          obtain ⟨y1, y2⟩ := sumD_bd h hok.right
          have y3 := hok.most
          have hleft : max (most s a - sumD h) 0 = most s a - sumD h := by omega
          have HLEFT := Lib.hid hleft
          obtain ⟨⟨hs, hs'⟩, ⟨ha, ha'⟩, ⟨hb, hb'⟩, _⟩ := (bnd_iff s a b e).mp hbd
          obtain ⟨z1, z2⟩ := most_ge s a hs ha ha'
          clear hbd hh HO hok hmx hleft
          go_wp2_with (first
            | (refine wpList_load_row rfl 27 (.tmp 13) rfl w2.heap.size rfl 27 (crd s a b e p) (0, 0) _ (by assumption) Try.underlying27 rfl (crd_size ..) ?_)
            | (go_at_call 18; refine (Drawn_yes A1 c1 h _ HR.out HMX.out HD1.out).mono ?_; rintro x w7 ⟨rfl, hb7⟩; have hg7 := blk_keep HG.out hb7)
            | (go_at_call 11; refine (Bounds_any _ _ _ _ _ _).mono ?_; rw [HBD.out]; rintro x w8 ⟨rfl, hb8⟩; have hg8 := blk_keep hg7 hb8)
            | (go_at_call 9; refine (Most_yes _ _ _ _ _ _ HBD.out).mono ?_; rintro x w9 ⟨rfl, hb9⟩; have hg9 := blk_keep hg8 hb9)
            | (go_at_call 10; refine (Least_yes _ _ _ _ _ _ HBD.out).mono ?_; rintro x w10 ⟨rfl, hb10⟩; have hg10 := blk_keep hg9 hb10)
            | (go_at_call 17; refine (Left_yes _ _ _ _ _ A1 c1 h _ HBD.out HR.out HMX.out ((((HD1.out.keep hb7).keep hb8).keep hb9).keep hb10)).mono ?_; rw [HLEFT.out]; rintro x w11 ⟨rfl, hb11⟩))
          have HD11 := Lib.hid (((((HD1.out.keep hb7).keep hb8).keep hb9).keep hb10).keep hb11)
          have HF := Lib.hid (bels (bels (bels (bels (bels HW.out hb7) hb8) hb9) hb10) hb11)
          clear hb7 hb8 hb9 hb10 hb11 hg7 hg8 hg9 hg10
          go_loop [24] (fun i => ∃ j : Nat, j ≤ h.length ∧ i = .int .i64 j) (fun i => h.length - (intOf i).toNat)
          case atStart => exact ⟨0, Nat.zero_le _, rfl⟩
          case round =>
            obtain ⟨j, hj, rfl⟩ := hrel
            by_cases hjl : j < h.length
            · rcases HD11.out with h0 | ⟨b1, off1, rfl, hlb1, hc1⟩
              · rw [h0] at hjl; simp at hjl
              · obtain ⟨e1, -⟩ := hc1 j hjl
                have hday := HOK.out.day j hjl
                clear hc1
                have hjn : (0 : Int) ≤ j := Int.natCast_nonneg _
                have hji : (j : Int) < h.length := by omega
                go_wp2
                go_round
                case rel => exact ⟨j + 1, by omega, by go_num⟩
                case measure => simp [intOf]; omega
            · obtain rfl : j = h.length := by omega
              have h1 := HOK.out.one
              have h2 := HOK.out.least
              cases p
              · have h1 := h1 rfl
                by_cases h0 : h = []
                · have hl0 : h.length = 0 := by rw [h0]; rfl
                  have hl1 : ((h.length : Int) == 0) = true := by rw [hl0]; rfl
                  clear h0 h2 hl0
                  go_wp2
                  all_goals (go_ret; exact ⟨rfl, HF.out⟩)
                · have h2 := h2 rfl h0
                  have hl1 : ((h.length : Int) == 0) = false := by
                    have : h.length ≠ 0 := fun h => h0 (List.length_eq_zero_iff.mp h)
                    simp; exact h0
                  clear h0
                  go_wp2
                  all_goals (go_ret; exact ⟨rfl, HF.out⟩)
              · clear h1 h2
                go_wp2
                go_ret
                exact ⟨rfl, HF.out⟩
  · go_enter Try.func6, Try.ntmps6
    go_wp2_with (first
      | (go_at_call 7; refine (awake_any _).mono ?_; rintro x w1 ⟨rfl, hb1⟩))
    go_ret
    exact ⟨rfl, hb1⟩
end Go.Proofs.Ytbhpghjdclehmaa
