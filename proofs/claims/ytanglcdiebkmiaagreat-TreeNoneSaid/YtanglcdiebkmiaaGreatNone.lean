/- A tree that isn't there. -/
import Derived.Test.YtanglcdiebkmiaaGreatAwake
import Derived.Test.YtanglcdiebkmiaaGreatPanic
import Derived.RegionDies
set_option linter.unusedSimpArgs false
set_option linter.unusedVariables false
namespace Go.Proofs.YtanglcdiebkmiaaGreat
open Go.RowKit Tw

theorem drew_ext (w : World) : Ext No w w.drew := (Ext.refl No w).drew

/-- A call that gives up with a fault, and leaves what was. -/
def GivesUp (c : Int) (w : World) (e : Ending) (w' : World) : Prop := e = Stops c 0 ∧ Ext No w w'

theorem Alloc_nil (w : World) : Calls Tryz.prog 61 #[.pointer none] w fun e w' => e = .returned (.tuple #[.int .i64 0, .int .i64 15]) ∧ w' = w := by
  go_enter Tryz.func61, Tryz.ntmps61
  go_wp2
  go_ret2
  exact ⟨rfl, rfl⟩

theorem talloc_nil {T : Nat} {l : Bool} {a b : Option Addr} {n c m d : Nat} (w : World) (c0 : w.cell? ⟨T, 0, none⟩ = some (.pointer none)) :
    Calls Tryz.prog 37 #[.pointer (some ⟨T, 0, none⟩), .agg #[.bool l, .slice a n c, .slice b m d]] w (GivesUp 15 w) := by
  have k0 : ∀ O, (w.alloc O).cell? ⟨T, 0, none⟩ = some (.pointer none) := fun O => ((Ext.refl No w).alloc O).cellSome c0 (fun f => f)
  go_enter Tryz.func37, Tryz.ntmps37
  go_wp2_with (fail)
  refine (Alloc_nil _).mono ?_
  rintro e w' ⟨rfl, rfl⟩
  go_wp2_with (fail)
  refine (Check_stops (c := 15) _ (by omega)).mono ?_
  rintro e w' ⟨rfl, rfl⟩
  exact ⟨rfl, rfl, (Ext.refl No w).alloc _⟩

theorem New1_nil {tb T : Nat} (w : World) (htb : w.heap[tb]? = some (.cells #[.pointer (some ⟨T, 0, none⟩)] 29 (0, 0))) (hT : w.heap[T]? = some (.cells #[.pointer none, .int .i64 0, .int .i64 1, .int .i64 0] 73 (0, 0))) :
    Calls Tryz.prog 36 #[.pointer (some ⟨tb, 0, none⟩)] w (GivesUp 15 w) := by
  have t0 : w.cell? ⟨tb, 0, none⟩ = some (.pointer (some ⟨T, 0, none⟩)) := (cell_at htb 0).trans rfl
  have c0 : w.cell? ⟨T, 0, none⟩ = some (.pointer none) := (cell_at hT 0).trans rfl
  have HA := Lib.hid (talloc_nil (T := T) (l := true) (a := none) (b := none) (n := 0) (c := 0) (m := 0) (d := 0) w.drew c0)
  clear htb hT
  go_enter Tryz.func36, Tryz.ntmps36
  go_wp2_with (fail)
  go_region_dies
  all_goals
    refine HA.out.mono ?_
    rintro e w' ⟨rfl, hx⟩
    exact ⟨rfl, rfl, (drew_ext w).trans hx⟩

theorem New_catch_nil {tb T : Nat} (w : World) (htb : w.heap[tb]? = some (.cells #[.pointer (some ⟨T, 0, none⟩)] 29 (0, 0))) (hT : w.heap[T]? = some (.cells #[.pointer none, .int .i64 0, .int .i64 1, .int .i64 0] 73 (0, 0))) :
    Calls Tryz.prog 35 #[.func (.func 36) #[] #[.pointer (some ⟨tb, 0, none⟩)]] w (Gives (.agg #[.int .i64 15, .int .i64 0]) w) := by
  have e1 : Ext No w (w.alloc (.cells #[.int .i64 0, .int .i64 0] 75)) := (Ext.refl No w).alloc _
  refine (Catch_any (g := 36) #[] #[.pointer (some ⟨tb, 0, none⟩)] w (fun c a w2 => c = 15 ∧ a = 0 ∧ Ext No (w.alloc (.cells #[.int .i64 0, .int .i64 0] 75)) w2) (fun args w => by kernel_rfl)
    ((New1_nil _ (e1.heapNo htb) (e1.heapNo hT)).mono fun e w' ⟨he, hx⟩ => ⟨15, 0, .inr ⟨by omega, he⟩, rfl, rfl, hx⟩) (fun c a w2 ⟨_, _, hx⟩ => hx.heapNo (heap_alloc_new w _))).mono ?_
  rintro e w' ⟨c, a, rfl, w2, ⟨rfl, rfl, hx⟩, hy⟩
  exact ⟨rfl, (e1.trans hx).trans' hy fun x h1 f => by have : x = w.heap.size := f; omega⟩

set_option maxHeartbeats 400000 in
theorem New_nil (w : World) : Calls Tryz.prog 12 #[.pointer none] w (Gives (.tuple #[.pointer none, .int .i64 15]) w) := by
  obtain ⟨W, hW⟩ : ∃ W, W = (w.alloc (.cells #[.pointer none, .int .i64 0, .int .i64 1, .int .i64 0] 73)).alloc (.cells #[.pointer (some ⟨w.heap.size, 0, none⟩)] 29) := ⟨_, rfl⟩
  have e1 : Ext No w W := by rw [hW]; exact ((Ext.refl No w).alloc _).alloc _
  have hT : W.heap[w.heap.size]? = some (.cells #[.pointer none, .int .i64 0, .int .i64 1, .int .i64 0] 73 (0, 0)) := by rw [hW]; exact (heap_alloc_lt (by simp)).trans (heap_alloc_new w _)
  have hb : W.heap[w.heap.size + 1]? = some (.cells #[.pointer (some ⟨w.heap.size, 0, none⟩)] 29 (0, 0)) := by
    have h := heap_alloc_new (w.alloc (.cells #[.pointer none, .int .i64 0, .int .i64 1, .int .i64 0] 73)) (.cells #[.pointer (some ⟨w.heap.size, 0, none⟩)] 29)
    rw [show (w.alloc (.cells #[.pointer none, .int .i64 0, .int .i64 1, .int .i64 0] 73)).heap.size = w.heap.size + 1 from by simp, ← hW] at h; exact h
  have HC := Lib.hid (New_catch_nil W hb hT)
  have HW := Lib.hid hW
  have HE := Lib.hid e1
  clear hW e1 hT hb
  go_enter Tryz.func12, Tryz.ntmps12
  go_upto_region 2 with (fail)
  rw [← HW.out]
  go_wp2_with (fail)
  refine HC.out.mono ?_
  rintro e w2 ⟨rfl, hx⟩
  have HX := Lib.hid (HE.out.trans hx)
  clear hx
  go_wp2_with (fail)
  go_quiet (fail)
  go_wp2_with (fail)
  go_ret2
  exact ⟨rfl, (HX.out.alloc _).drewN _⟩

set_option maxHeartbeats 400000 in
theorem Insert_nil (s : Str) (w : World) : Calls Tryz.prog 21 #[.pointer none, .string s] w (Gives (.int .i64 15) w) := by
  go_enter Tryz.func21, Tryz.ntmps21
  go_wp2_with (fail)
  refine (over_nil _).mono ?_
  rintro e w' ⟨rfl, rfl⟩
  go_wp2_with (fail)
  go_ret
  exact ⟨rfl, ((Ext.refl No w).alloc _).alloc _⟩

set_option maxHeartbeats 400000 in
theorem Delete_nil (s : Str) (w : World) : Calls Tryz.prog 24 #[.pointer none, .string s] w (Gives (.int .i64 15) w) := by
  go_enter Tryz.func24, Tryz.ntmps24
  go_wp2_with (fail)
  refine (over_nil _).mono ?_
  rintro e w' ⟨rfl, rfl⟩
  go_wp2_with (fail)
  go_ret
  exact ⟨rfl, ((Ext.refl No w).alloc _).alloc _⟩

theorem Each_nil (frm til : Str) (f : Value) (w : World) : Calls Tryz.prog 56 #[.pointer none, .string frm, .string til, f] w (Gives (.tuple #[]) w) := by
  go_enter Tryz.func56, Tryz.ntmps56
  go_wp2_with (fail)
  refine (over_nil _).mono ?_
  rintro e w' ⟨rfl, rfl⟩
  go_wp2_with (fail)
  go_end0
  exact ⟨rfl, Ext.refl _ _⟩

set_option maxHeartbeats 400000 in
theorem Has_nil (s : Str) (w : World) : Calls Tryz.prog 25 #[.pointer none, .string s] w (Gives (.bool false) w) := by
  have hf : ((w.alloc (.cells #[.string s] 9)).alloc (.cells #[.bool false] 4)).heap[w.heap.size + 1]? = some (.cells #[.bool false] 4 (0, 0)) := by simpa using heap_alloc_new (w.alloc (.cells #[.string s] 9)) (.cells #[.bool false] 4)
  have HF := Lib.hid hf
  clear hf
  go_enter Tryz.func25, Tryz.ntmps25
  go_wp2_with (fail)
  refine (Each_nil _ _ _ _).mono ?_
  rintro e w' ⟨rfl, hx⟩
  have c0 : w'.cell? ⟨w.heap.size + 1, 0, none⟩ = some (.bool false) := (cell_at (hx.heapNo HF.out) 0).trans rfl
  have HX := Lib.hid ((((Ext.refl No w).alloc _).alloc _).trans hx)
  clear hx
  go_wp2_with (fail)
  go_ret
  exact ⟨rfl, HX.out⟩

theorem Len_nil (w : World) : Calls Tryz.prog 26 #[.pointer none] w (Gives (.int .i64 0) w) := by
  go_enter Tryz.func26, Tryz.ntmps26
  go_wp2_with (fail)
  refine (over_nil _).mono ?_
  rintro e w' ⟨rfl, rfl⟩
  go_wp2_with (fail)
  go_ret
  exact ⟨rfl, Ext.refl _ _⟩

theorem Height_nil (w : World) : Calls Tryz.prog 14 #[.pointer none] w (Gives (.int .i64 0) w) := by
  go_enter Tryz.func14, Tryz.ntmps14
  go_wp2_with (fail)
  refine (over_nil _).mono ?_
  rintro e w' ⟨rfl, rfl⟩
  go_wp2_with (fail)
  go_ret
  exact ⟨rfl, Ext.refl _ _⟩

set_option maxHeartbeats 400000 in
theorem All_nil (w : World) : Calls Tryz.prog 28 #[.pointer none] w (Gives (.slice none 0 0) w) := by
  have hf : (w.alloc (.cells #[.slice none 0 0] 33)).heap[w.heap.size]? = some (.cells #[.slice none 0 0] 33 (0, 0)) := heap_alloc_new _ _
  have HF := Lib.hid hf
  clear hf
  go_enter Tryz.func28, Tryz.ntmps28
  go_wp2_with (fail)
  refine (Each_nil _ _ _ _).mono ?_
  rintro e w' ⟨rfl, hx⟩
  have c0 : w'.cell? ⟨w.heap.size, 0, none⟩ = some (.slice none 0 0) := (cell_at (hx.heapNo HF.out) 0).trans rfl
  have HX := Lib.hid (((Ext.refl No w).alloc _).trans hx)
  clear hx
  go_wp2_with (fail)
  go_ret
  exact ⟨rfl, HX.out⟩
end Go.Proofs.YtanglcdiebkmiaaGreat
