/- A region that draws its order, whose operations read and whose callees lay new memory alone, walked once in the order of the text, at the class of worlds 'Below'. -/
import Derived.Test.YtbhpghjdclehmaaSums
namespace Go.Proofs.Ytbhpghjdclehmaa
open Go.RowKit

section
variable {P : Program} {ops : Array Oper} {Q : Act → Prop} {a : Act} {o : Oper} {rest : List Oper} {w : World}

theorem region_below {id : Nat} {Q : Exit → Act → World → Prop} {l : List Oper} (hm : P.follows .mixedOrders = true) (hB : Region.lexB .any l.toArray = true)
    (h : wpQuiet P l.toArray (Below w.heap.size w) (fun a' => ∀ w', Below w.heap.size w w' → Q .normal a' w') l a) : (Code.region id l.toArray true).wp P Q a w :=
  wp_region_quiet (C := Below w.heap.size w) hm hB ⟨rfl, rfl, rfl, Nat.le_refl _, fun _ _ => rfl⟩ (by simpa using h)

theorem wq_load (hgd : Region.wanted o (yielded ops a.tmps) = true) (ty : TypeId) (x : Operand) (ho : o.op = .load ty x) (p : Addr) (hx : a.eval x = .pointer (some p)) (v : Value)
    (hrun : ∀ w', Below w.heap.size w w' → (loadVar ty p).run P w' = .ok v w')
    (h : wpQuiet P ops (Below w.heap.size w) Q rest (a.put o.dst v)) : wpQuiet P ops (Below w.heap.size w) Q (o :: rest) a :=
  wpQuiet_step fun K hK => by
    rw [if_pos hgd]
    refine ⟨v, fun w' hw' => ?_, hK _ h⟩
    unfold Oper.quietAt execOp
    simp only [ho, hx, Instr.loadAt, Instr.sureAddr, Sem.run_bind, Sem.run_pure, Result.andThen_ok, hrun w' hw', Oper.quietUpon, and_self]

/-- The run of a load of a whole variable whose block is known. -/
theorem loads_row {g : Nat} {t ty : TypeId} {cs : Array Value} {fr : Nat × Nat} {d : TypeDesc} (hg : w.heap[g]? = some (.cells cs t fr))
    (hu : P.underlying ty = some d) (hd : (match d with | .struct _ | .array _ _ => true | _ => false) = true) (hi : (P.info? ty).map (·.size) = some cs.size) :
    ∀ w', Below w.heap.size w w' → (loadVar ty ⟨g, 0, none⟩).run P w' = .ok (.agg cs) w' := fun w' hb =>
  run_loadVar_row w' g t ty cs fr d ((hb.block g (by
    by_cases h : g < w.heap.size
    · exact h
    · rw [Array.getElem?_eq_none (by omega)] at hg; cases hg)).trans hg) hu hd hi

theorem run_loadVar_one {p : Addr} {ty : TypeId} {d : TypeDesc} {v : Value} (hc : w.cell? p = some v) (hu : P.underlying ty = some d) (hd : (match d with | .struct _ | .array _ _ => true | _ => false) = false) :
    (loadVar ty p).run P w = .ok v w := by
  have hagg : (isAgg ty).run P w = .ok false w := by
    unfold isAgg
    rw [Sem.run_bind, run_underlying hu w]
    cases d <;> simp_all
  simp [loadVar, Sem.run_bind, hagg, hc]

/-- The run of a load of one cell. -/
theorem loads_one {p : Addr} {ty : TypeId} {d : TypeDesc} {v : Value} (hc : w.cell? p = some v) (hu : P.underlying ty = some d) (hd : (match d with | .struct _ | .array _ _ => true | _ => false) = false) :
    ∀ w', Below w.heap.size w w' → (loadVar ty p).run P w' = .ok v w' := fun _ hb =>
  run_loadVar_one ((hb.cell (block_lt_of_cell hc)).trans hc) hu hd

/-- A callee's contract, met in a world of the class. -/
theorem calls_below {f : FuncId} {args : Array Value} {v : Value} {w' : World} (hb : Below w.heap.size w w')
    (h : Calls P f args w' fun e w'' => e = .returned v ∧ Below w'.heap.size w' w'') : Calls P f args w' fun e w'' => e = .returned v ∧ Below w.heap.size w w'' :=
  h.mono fun _ _ ⟨he, hb'⟩ => ⟨he, bels hb hb'⟩
end

/-- Is more drawn than the most? -/
theorem look4 (s a b e : Int) (p : Bool) (A : Option Addr) (c : Nat) (l : List Drw) (g m : Nat) (w : World) (hb : bnd s a b e = true) (hr : right l = true)
    (hg : w.heap[g]? = some (.cells (crd s a b e p) 27 (0, 0))) (hm : w.cell? ⟨m, 0, none⟩ = some (.slice A l.length c)) (hd : DS w A l) :
    Calls Try.prog 28 #[.pointer (some ⟨m, 0, none⟩), .pointer (some ⟨g, 0, none⟩)] w fun x w' => x = .returned (.bool (decide (most s a < sumD l))) ∧ Below w.heap.size w w' := by
  obtain ⟨⟨hs, hs'⟩, ⟨ha, ha'⟩, _⟩ := (bnd_iff s a b e).mp hb
  have HG := Lib.hid hg
  have HM := Lib.hid hm
  have HD := Lib.hid hd
  have HR := Lib.hid hr
  clear hg hm hd hb hr
  go_enter Try.func28, Try.ntmps28
  go_wp2
  refine region_below (by kernel_rfl) (by kernel_rfl) ?_
  refine wq_load rfl 36 (.tmp 0) rfl _ rfl _ (loads_one HM.out Try.underlying36 rfl) ?_
  quiet_step ((intro hC; go_at_call 29; exact calls_below hC (sum_any A c l _ HR.out (HD.out.keep hC))))
  refine wq_load rfl 27 (.tmp 1) rfl _ rfl _ (loads_row HG.out Try.underlying27 rfl (crd_size ..)) ?_
  quiet_step ((intro hC; go_at_call 20; exact calls_below hC (most_any _ _ _ _ _ _ hs hs' ha ha')))
  quiet_step ((intro _; rfl))
  quiet_step ((intro _; rfl))
  refine wpQuiet_nil ?_
  intro w' hb'
  go_wp2
  go_ret
  exact ⟨rfl, hb'⟩
end Go.Proofs.Ytbhpghjdclehmaa
