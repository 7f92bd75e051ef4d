/- fault: Check, Catch. -/
import Derived.Recover
import Derived.Test.YtanglcdiebkmiaaGreatPage2
set_option linter.unusedSimpArgs false
set_option linter.unusedVariables false
namespace Go.Proofs.YtanglcdiebkmiaaGreat
open Go.RowKit Tw

theorem Stop_ok (at_ : Int) (w : World) : Calls Tryz.prog 80 #[.int .i64 0, .int .i64 at_] w fun e w' => e = .returned (.tuple #[]) ∧ w' = w := by
  go_enter Tryz.func80, Tryz.ntmps80
  go_wp2
  go_end0
  exact ⟨rfl, rfl⟩

theorem Check_ok (w : World) : Calls Tryz.prog 54 #[.int .i64 0] w fun e w' => e = .returned (.tuple #[]) ∧ w' = w := by
  go_enter Tryz.func54, Tryz.ntmps54
  go_wp2_with (go_at_call 80; refine (Stop_ok _ _).mono ?_; rintro e w' ⟨rfl, rfl⟩)
  go_end0
  exact ⟨rfl, rfl⟩

theorem Catch1_idle (p : Addr) (w : World) :
    CallsD Tryz.prog 60 #[.pointer (some p)] .returning w fun e u' w' => e = .returned (.tuple #[]) ∧ u' = .returning ∧ w' = w := by
  refine callsD_of_wpS Tryz.func60 rfl fun c₀ cs hu => ?_
  apply wpS_seq
  apply wpS_region
  simp [wpOpsS, go_sem, recoverD, hu, Tryz.ntmps60, Exit.thenS]
  apply wpS_seq
  apply wpS_region
  simp [wpOpsS, go_sem, Array.replicate_succ, Exit.thenS]
  refine wpS_cond (t := false) (by simp [Act.eval]) ?_
  simp only [Bool.false_eq_true, if_false]
  refine wpS_of_wp (wp_skip ?_)
  cases c₀
  simp_all [bodyPostS, results, Tryz.results60]

set_option maxHeartbeats 400000 in
theorem Catch_ok {g : Nat} (first caps : Array Value) (w : World) (Q : World → Prop)
    (hg : ∀ args w, (callFunc g args).run Tryz.prog w = .ok (.enter g args) w)
    (hf : Calls Tryz.prog g (first ++ caps) (w.alloc (.cells #[.int .i64 0, .int .i64 0] 75)) fun e w2 => e = .returned (.tuple #[]) ∧ Q w2)
    (hQ : ∀ w2, Q w2 → w2.heap[w.heap.size]? = some (.cells #[.int .i64 0, .int .i64 0] 75 (0, 0))) :
    Calls Tryz.prog 35 #[.func (.func g) first caps] w fun e w' => e = .returned (.agg #[.int .i64 0, .int .i64 0]) ∧ ∃ w2, Q w2 ∧ Ext (Only w.heap.size) w2 w' := by
  have hmf : ∀ (fn : Fn) (first cap : Array Value) (w : World), (Instr.makeFunc fn first cap).run Tryz.prog w = .ok (.func fn first cap) w := fun _ _ _ _ => rfl
  have HF := Lib.hid hf
  clear hf
  go_enter_defers Tryz.func35, Tryz.ntmps35
  go_wp2_with (fail)
  refine HF.out.mono ?_
  rintro e w2 ⟨rfl, hq⟩
  have hb := hQ _ hq
  have c0 : w2.cell? ⟨w.heap.size, 0, none⟩ = some (.int .i64 0) := by rw [cell_at hb]; rfl
  have c1 : w2.cell? ⟨w.heap.size, 1, none⟩ = some (.int .i64 0) := by rw [cell_at hb]; rfl
  have z0 := frozen_at hb 0
  have z1 := frozen_at hb 1
  have HQ := Lib.hid hq
  clear hq hb
  go_wp2_with (fail)
  have eF : Ext (Only w.heap.size) w2 ((w2.setCell ⟨w.heap.size, 0, none⟩ (.int .i64 0)).setCell ⟨w.heap.size, 1, none⟩ (.int .i64 0)) :=
    ((Ext.refl (Only w.heap.size) w2).setCell (p := ⟨w.heap.size, 0, none⟩) (.inl rfl) _).setCell (p := ⟨w.heap.size, 1, none⟩) (.inl rfl) _
  refine leaves_cons (f := 60) (args := #[.pointer (some ⟨w.heap.size, 0, none⟩)]) (by simp) (by simp [go_sem]) ?_
  refine (Catch1_idle ⟨w.heap.size, 0, none⟩ _).mono ?_
  rintro e u' w'' ⟨rfl, rfl, rfl⟩
  have d0 : ((w2.setCell ⟨w.heap.size, 0, none⟩ (.int .i64 0)).setCell ⟨w.heap.size, 1, none⟩ (.int .i64 0)).cell? ⟨w.heap.size, 0, none⟩ = some (.int .i64 0) := by go_simp
  have d1 : ((w2.setCell ⟨w.heap.size, 0, none⟩ (.int .i64 0)).setCell ⟨w.heap.size, 1, none⟩ (.int .i64 0)).cell? ⟨w.heap.size, 1, none⟩ = some (.int .i64 0) := by go_simp
  have hfin : ∃ w3, Q w3 ∧ Ext (Only w.heap.size) w3 ((w2.setCell ⟨w.heap.size, 0, none⟩ (.int .i64 0)).setCell ⟨w.heap.size, 1, none⟩ (.int .i64 0)) := ⟨w2, HQ.out, eF⟩
  generalize (w2.setCell ⟨w.heap.size, 0, none⟩ (.int .i64 0)).setCell ⟨w.heap.size, 1, none⟩ (.int .i64 0) = w5 at *
  have HFIN := Lib.hid hfin
  clear hfin eF
  simp [Leaves, settle, results, Tryz.results35, go_sem, d0, d1]
  exact HFIN.out
end Go.Proofs.YtanglcdiebkmiaaGreat
