/- over, Each, Has, Len, Height. -/
import Derived.Test.YtanglcdiebkmiaaGreatWalk2
set_option linter.unusedSimpArgs false
set_option linter.unusedVariables false
namespace Go.Proofs.YtanglcdiebkmiaaGreat
open Go.RowKit Tw

theorem over_nil (w : World) : Calls Tryz.prog 38 #[.pointer none] w fun e w' => e = .returned (.bool true) ∧ w = w' := by
  go_enter Tryz.func38, Tryz.ntmps38
  go_wp2
  go_ret
  exact ⟨rfl, rfl⟩

theorem over_no {T A root h k : Nat} (w : World) (hT : TreeAt w T A root (h + 1) k) : Calls Tryz.prog 38 #[.pointer (some ⟨T, 0, none⟩)] w fun e w' => e = .returned (.bool false) ∧ w = w' := by
  have c2 : w.cell? ⟨T, 2, none⟩ = some (.int .i64 ((h + 1 : Nat) : Int)) := (cell_at hT 2).trans rfl
  have hb : (((h + 1 : Nat) : Int) == 0) = false := by rw [beq_eq_false_iff_ne]; omega
  clear hT
  generalize ((h + 1 : Nat) : Int) = x at *
  go_enter Tryz.func38, Tryz.ntmps38
  go_wp2
  go_ret
  exact ⟨rfl, rfl⟩

theorem over_yes {T A root k : Nat} (w : World) (hT : TreeAt w T A root 0 k) : Calls Tryz.prog 38 #[.pointer (some ⟨T, 0, none⟩)] w fun e w' => e = .returned (.bool true) ∧ w = w' := by
  have c2 : w.cell? ⟨T, 2, none⟩ = some (.int .i64 0) := (cell_at hT 2).trans rfl
  clear hT
  go_enter Tryz.func38, Tryz.ntmps38
  go_wp2
  go_ret
  exact ⟨rfl, rfl⟩

theorem Len_ok {T A root h k : Nat} (w : World) (hT : TreeAt w T A root (h + 1) k) : Calls Tryz.prog 26 #[.pointer (some ⟨T, 0, none⟩)] w fun e w' => e = .returned (.int .i64 k) ∧ w = w' := by
  have c3 : w.cell? ⟨T, 3, none⟩ = some (.int .i64 k) := (cell_at hT 3).trans rfl
  have HO := Lib.hid (over_no w hT)
  clear hT
  go_enter Tryz.func26, Tryz.ntmps26
  go_wp2_with (fail)
  refine HO.out.mono ?_
  rintro e w' ⟨rfl, rfl⟩
  go_wp2_with (fail)
  go_ret
  exact ⟨rfl, rfl⟩

theorem Height_ok {T A root h k : Nat} (w : World) (hT : TreeAt w T A root (h + 1) k) : Calls Tryz.prog 14 #[.pointer (some ⟨T, 0, none⟩)] w fun e w' => e = .returned (.int .i64 ((h + 1 : Nat) : Int)) ∧ w = w' := by
  have c2 : w.cell? ⟨T, 2, none⟩ = some (.int .i64 ((h + 1 : Nat) : Int)) := (cell_at hT 2).trans rfl
  have HO := Lib.hid (over_no w hT)
  clear hT
  generalize ((h + 1 : Nat) : Int) = x at *
  go_enter Tryz.func14, Tryz.ntmps14
  go_wp2_with (fail)
  refine HO.out.mono ?_
  rintro e w' ⟨rfl, rfl⟩
  go_wp2_with (fail)
  go_ret
  exact ⟨rfl, rfl⟩

def EachPost (J : JT) (G : Nat → Prop) (w : World) (l : List Str) (e : Ending) (w' : World) : Prop := e = .returned (.tuple #[]) ∧ Tells J l G w w'

set_option maxHeartbeats 400000 in
theorem Each_ok {g T A root h k : Nat} {first caps : Array Value} {F G : Nat → Prop} {P : List Str → Str → Prop} {go : List Str → Str → Bool} {J : JT} {st : St} {frm til : Str} {E l : List Str} (w : World)
    (C : CB g first caps P go J) (hT : TreeAt w T A root (h + 1) k) (hA : Arena w A st F) (hTG : ¬ G T) (hd : ∀ k, F k → ¬ G k) (hW : Ways st frm h root E) (hP : Asked P l E) (hJ : J l G w) :
    Calls Tryz.prog 56 #[.pointer (some ⟨T, 0, none⟩), .string frm, .string til, .func (.func g) first caps] w (EachPost J G w (tellAll go til E l).1) := by
  have HO := Lib.hid (over_no w hT)
  obtain ⟨W1, hW1⟩ : ∃ W1, W1 = w.alloc (.cells #[.pointer (some ⟨T, 0, none⟩), .string frm, .string til, .func (.func g) first caps] 130) := ⟨_, rfl⟩
  have hV : WalkAt W1 w.heap.size T frm til (.func (.func g) first caps) := by rw [hW1]; exact heap_alloc_new _ _
  have e1 : Ext No w W1 := by rw [hW1]; exact (Ext.refl No w).alloc _
  have hT1 := e1.heapNo hT
  have X : WCtx w.heap.size T A root (h + 1) k F st frm til (.func (.func g) first caps) G W1 := ⟨hV, hT1, hA.extNo e1, fun f => by have := C.lt _ _ _ hJ _ f; omega, hTG, hd⟩
  have hN := node_all C h root E l G W1 hW hP (C.more _ _ _ _ hJ e1) X
  have c1 : W1.cell? ⟨T, 1, none⟩ = some (.int .i64 root) := (cell_at hT1 1).trans rfl
  have HN := Lib.hid hN
  have HW := Lib.hid hW1
  have HE := Lib.hid e1
  clear hN hW1 X hT1 hV C hT hA hTG hd hW hJ e1 hP
  generalize tellAll go til E l = r at *
  go_enter Tryz.func56, Tryz.ntmps56
  go_wp2_with (fail)
  refine HO.out.mono ?_
  rintro e w' ⟨rfl, rfl⟩
  go_upto_region 2 with (fail)
  rw [← HW.out]
  go_wp2_with (fail)
  refine HN.out.mono ?_
  rintro e w2 ⟨rfl, ht⟩
  have HTE := Lib.hid (Tells.before HE.out ht)
  clear ht
  go_wp2_with (fail)
  go_end0
  exact ⟨rfl, HTE.out⟩
end Go.Proofs.YtanglcdiebkmiaaGreat
