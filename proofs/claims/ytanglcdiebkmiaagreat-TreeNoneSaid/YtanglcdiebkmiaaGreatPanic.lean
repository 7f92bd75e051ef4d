/- fault: Stop, Check, Catch where a fault is met. -/
import Derived.Recover
import Derived.Test.YtanglcdiebkmiaaGreatFault
set_option linter.unusedSimpArgs false
set_option linter.unusedVariables false
namespace Go.Proofs.YtanglcdiebkmiaaGreat
open Go.RowKit Tw

/-- A fault, as a panic's value. -/
def faultV (c at_ : Int) : Value := .iface 75 (.agg #[.int .i64 c, .int .i64 at_])
/-- A call that gives up with a fault. -/
def Stops (c at_ : Int) : Ending := .panicked [{ v := faultV c at_, recovered := false }]

theorem Stop_stops {c at_ : Int} (w : World) (hc : c ≠ 0) : Calls Tryz.prog 80 #[.int .i64 c, .int .i64 at_] w fun e w' => e = Stops c at_ ∧ w' = w := by
  have b : (c != 0) = true := by rw [bne_iff_ne]; exact hc
  go_enter Tryz.func80, Tryz.ntmps80
  go_wp2_with (fail)
  exact ⟨rfl, rfl, rfl⟩

theorem Check_stops {c : Int} (w : World) (hc : c ≠ 0) : Calls Tryz.prog 54 #[.int .i64 c] w fun e w' => e = Stops c 0 ∧ w' = w := by
  go_enter Tryz.func54, Tryz.ntmps54
  go_wp2_with (fail)
  refine (Stop_stops w hc).mono ?_
  rintro e w' ⟨rfl, rfl⟩
  exact ⟨rfl, rfl, rfl⟩

theorem assert_fault (v : Value) (w : World) : (Instr.typeAssert (.iface 75 v) 20 75 true).run Tryz.prog w = .ok (.tuple #[v, .bool true]) w := by kernel_rfl

set_option maxRecDepth 100000 in
theorem Catch1_caught (c at_ : Int) (b : Nat) (w : World) (hb : w.heap[b]? = some (.cells #[.int .i64 0, .int .i64 0] 75 (0, 0))) :
    CallsD Tryz.prog 60 #[.pointer (some ⟨b, 0, none⟩)] (.panicking [{ v := faultV c at_, recovered := false }]) w fun e u' w' =>
      e = .returned (.tuple #[]) ∧ u' = .panicking [{ v := faultV c at_, recovered := true }] ∧ w'.heap[b]? = some (.cells #[.int .i64 c, .int .i64 at_] 75 (0, 0)) ∧ Ext (Only b) w w' := by
  have c0 : w.cell? ⟨b, 0, none⟩ = some (.int .i64 0) := (cell_at hb 0).trans rfl
  have c1 : w.cell? ⟨b, 1, none⟩ = some (.int .i64 0) := (cell_at hb 1).trans rfl
  have k0 : ∀ O, (w.alloc O).cell? ⟨b, 0, none⟩ = some (.int .i64 0) := fun O => (cell_at (((Ext.refl No w).alloc O).heapNo hb) 0).trans rfl
  have k1 : ∀ O, (w.alloc O).cell? ⟨b, 1, none⟩ = some (.int .i64 0) := fun O => (cell_at (((Ext.refl No w).alloc O).heapNo hb) 1).trans rfl
  have z0 : ∀ O, (w.alloc O).frozen? ⟨b, 0, none⟩ = false := fun O => frozen_at (((Ext.refl No w).alloc O).heapNo hb) 0
  have z1 : ∀ O, (w.alloc O).frozen? ⟨b, 1, none⟩ = false := fun O => frozen_at (((Ext.refl No w).alloc O).heapNo hb) 1
  refine callsD_of_wpS Tryz.func60 rfl fun c₀ cs hu => ?_
  apply wpS_seq
  apply wpS_region
  simp [wpOpsS, go_sem, recoverD, hu, Tryz.ntmps60, Exit.thenS]
  refine wpS_of_wp ?_
  obtain ⟨Q, hQ⟩ : ∃ Q : Exit → Act → World → Prop, Q = (fun e a' w' =>
      bodyPostS Tryz.prog Tryz.f60 c₀ cs
        (fun e u' w' =>
          e = Ending.returned (Value.tuple #[]) ∧
            u' = FrameMode.panicking [{ v := faultV c at_, recovered := true }] ∧
              w'.heap[b]? = some (Obj.cells #[Value.int IntKind.i64 c, Value.int IntKind.i64 at_] 75) ∧
                Ext (Only b) w w')
        e a'
        ({ fn := c₀.fn, tmps := c₀.tmps, todo := c₀.todo, defers := c₀.defers,
            mode := FrameMode.panicking [{ v := faultV c at_, recovered := true }], kind := c₀.kind,
            roundOf := c₀.roundOf } ::
          cs)
        w') := ⟨_, rfl⟩
  rw [← hQ]
  have HU := Lib.hid hu
  have HB := Lib.hid hb
  have HQ := Lib.hid hQ
  clear hu hb hQ
  have ht : #[Value.pointer (some ⟨b, 0, none⟩)] ++ ((Array.replicate 15 undef).setIfInBounds 3 (faultV c at_)).setIfInBounds 0 (faultV c at_) =
      #[Value.pointer (some ⟨b, 0, none⟩), faultV c at_, undef, undef, faultV c at_, undef, undef, undef, undef, undef, undef, undef, undef, undef, undef, undef] := rfl
  rw [ht]
  clear ht
  have hta := fun v w => assert_fault v w
  unfold faultV
  go_wp2_with (fail)
  rw [HQ.out]
  have e1 : Ext No w (w.alloc (.cells #[.int .i64 c, .int .i64 at_] 75)) := (Ext.refl No w).alloc _
  refine ⟨rfl, _, rfl, .tuple #[], by simp [results, Tryz.results60], rfl, rfl, ?_, ?_⟩
  · exact (heap_setCell_at (heap_setCell_at (e1.heapNo HB.out) 0 _) 1 _).trans rfl
  · exact ((e1.ofNo (F := Only b)).setCell (p := ⟨b, 0, none⟩) (.inl rfl) _).setCell (p := ⟨b, 1, none⟩) (.inl rfl) _

/-- How a function that may give up ends: c = 0: it returns. -/
def Ends (c at_ : Int) (e : Ending) : Prop := (c = 0 ∧ at_ = 0 ∧ e = .returned (.tuple #[])) ∨ (c ≠ 0 ∧ e = Stops c at_)

set_option maxRecDepth 100000 in
set_option maxHeartbeats 400000 in
/-- CATCH: what the function gives up with. -/
theorem Catch_any {g : Nat} (first caps : Array Value) (w : World) (Q : Int → Int → World → Prop)
    (hg : ∀ args w, (callFunc g args).run Tryz.prog w = .ok (.enter g args) w)
    (hf : Calls Tryz.prog g (first ++ caps) (w.alloc (.cells #[.int .i64 0, .int .i64 0] 75)) fun e w2 => ∃ c at_, Ends c at_ e ∧ Q c at_ w2)
    (hQ : ∀ c at_ w2, Q c at_ w2 → w2.heap[w.heap.size]? = some (.cells #[.int .i64 0, .int .i64 0] 75 (0, 0))) :
    Calls Tryz.prog 35 #[.func (.func g) first caps] w fun e w' => ∃ c at_, e = .returned (.agg #[.int .i64 c, .int .i64 at_]) ∧ ∃ w2, Q c at_ w2 ∧ Ext (Only w.heap.size) w2 w' := by
  have hmf : ∀ (fn : Fn) (first cap : Array Value) (w : World), (Instr.makeFunc fn first cap).run Tryz.prog w = .ok (.func fn first cap) w := fun _ _ _ _ => rfl
  have HF := Lib.hid hf
  clear hf
  go_enter_defers Tryz.func35, Tryz.ntmps35
  go_wp2_with (fail)
  refine HF.out.mono ?_
  rintro e w2 ⟨c, at_, hend, hq⟩
  have hb := hQ _ _ _ hq
  have c0 : w2.cell? ⟨w.heap.size, 0, none⟩ = some (.int .i64 0) := by rw [cell_at hb]; rfl
  have c1 : w2.cell? ⟨w.heap.size, 1, none⟩ = some (.int .i64 0) := by rw [cell_at hb]; rfl
  have z0 := frozen_at hb 0
  have z1 := frozen_at hb 1
  have HQ := Lib.hid hq
  have HB := Lib.hid hb
  clear hq hb
  rcases hend with ⟨rfl, rfl, rfl⟩ | ⟨hc, rfl⟩
  · go_wp2_with (fail)
    have eF : Ext (Only w.heap.size) w2 ((w2.setCell ⟨w.heap.size, 0, none⟩ (.int .i64 0)).setCell ⟨w.heap.size, 1, none⟩ (.int .i64 0)) :=
      ((Ext.refl (Only w.heap.size) w2).setCell (p := ⟨w.heap.size, 0, none⟩) (.inl rfl) _).setCell (p := ⟨w.heap.size, 1, none⟩) (.inl rfl) _
    refine leaves_cons (f := 60) (args := #[.pointer (some ⟨w.heap.size, 0, none⟩)]) (by simp) (by simp [go_sem]) ?_
    refine (Catch1_idle ⟨w.heap.size, 0, none⟩ _).mono ?_
    rintro e u' w'' ⟨rfl, rfl, rfl⟩
    have d0 : ((w2.setCell ⟨w.heap.size, 0, none⟩ (.int .i64 0)).setCell ⟨w.heap.size, 1, none⟩ (.int .i64 0)).cell? ⟨w.heap.size, 0, none⟩ = some (.int .i64 0) := by go_simp
    have d1 : ((w2.setCell ⟨w.heap.size, 0, none⟩ (.int .i64 0)).setCell ⟨w.heap.size, 1, none⟩ (.int .i64 0)).cell? ⟨w.heap.size, 1, none⟩ = some (.int .i64 0) := by go_simp
    have hfin : ∃ w3, Q 0 0 w3 ∧ Ext (Only w.heap.size) w3 ((w2.setCell ⟨w.heap.size, 0, none⟩ (.int .i64 0)).setCell ⟨w.heap.size, 1, none⟩ (.int .i64 0)) := ⟨w2, HQ.out, eF⟩
    generalize (w2.setCell ⟨w.heap.size, 0, none⟩ (.int .i64 0)).setCell ⟨w.heap.size, 1, none⟩ (.int .i64 0) = w5 at *
    have HFIN := Lib.hid hfin
    clear hfin eF
    simp [Leaves, settle, results, Tryz.results35, go_sem, d0, d1]
    exact ⟨0, 0, ⟨rfl, rfl⟩, HFIN.out⟩
  · unfold Stops
    go_wp2_with (fail)
    show Leaves Tryz.prog Tryz.f35 _ _ _ (.panicking _) w2
    refine leaves_cons (f := 60) (args := #[.pointer (some ⟨w.heap.size, 0, none⟩)]) (by simp) (by simp [go_sem]) ?_
    refine (Catch1_caught c at_ w.heap.size w2 HB.out).mono ?_
    rintro e u' w3 ⟨rfl, rfl, hb3, hx3⟩
    have d0 : w3.cell? ⟨w.heap.size, 0, none⟩ = some (.int .i64 c) := (cell_at hb3 0).trans rfl
    have d1 : w3.cell? ⟨w.heap.size, 1, none⟩ = some (.int .i64 at_) := (cell_at hb3 1).trans rfl
    have HFIN := Lib.hid (show ∃ w2, Q c at_ w2 ∧ Ext (Only w.heap.size) w2 w3 from ⟨w2, HQ.out, hx3⟩)
    clear hb3 hx3 c0 c1 hQ
    simp [Leaves, settle, results, Tryz.results35, go_sem, d0, d1]
    exact ⟨c, at_, ⟨rfl, rfl⟩, HFIN.out⟩
end Go.Proofs.YtanglcdiebkmiaaGreat
