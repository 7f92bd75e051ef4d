/- Insert: the walk. -/
import Derived.Test.YtanglcdiebkmiaaGreatIns3
set_option linter.unusedSimpArgs false
set_option linter.unusedVariables false
namespace Go.Proofs.YtanglcdiebkmiaaGreat
open Go.RowKit Tw

def tp (T : Nat) : Value := .pointer (some ⟨T, 0, none⟩)

theorem boxes {w : World} {T : Nat} {s : Str} : InBox ((w.alloc (.cells #[.pointer (some ⟨T, 0, none⟩)] 29)).alloc (.cells #[.string s] 9)) w.heap.size (w.heap.size + 1) T s :=
  ⟨(heap_alloc_lt (by simp)).trans (heap_alloc_new w _), by
    have h := heap_alloc_new (w.alloc (.cells #[.pointer (some ⟨T, 0, none⟩)] 29)) (.cells #[.string s] 9)
    have e : (w.alloc (.cells #[.pointer (some ⟨T, 0, none⟩)] 29)).heap.size = w.heap.size + 1 := by simp
    rw [e] at h; exact h⟩

set_option maxHeartbeats 400000 in
/-- A text that is no entry. -/
theorem Insert_arg {T A root h k : Nat} {s : Str} (w : World) (hT : TreeAt w T A root (h + 1) k) (hs : s.size < 1 ∨ 400 < s.size) (hm : s.size ≤ maxLen) :
    Calls Tryz.prog 21 #[.pointer (some ⟨T, 0, none⟩), .string s] w (Gives (.int .i64 15) w) := by
  unfold maxLen at hm
  obtain ⟨W, hW⟩ : ∃ W, W = (w.alloc (.cells #[.pointer (some ⟨T, 0, none⟩)] 29)).alloc (.cells #[.string s] 9) := ⟨_, rfl⟩
  have hB : InBox W w.heap.size (w.heap.size + 1) T s := by rw [hW]; exact boxes
  have e1 : Ext No w W := by rw [hW]; exact ((Ext.refl No w).alloc _).alloc _
  have HO := Lib.hid (over_no W (e1.heapNo hT))
  have t0 : W.cell? ⟨w.heap.size, 0, none⟩ = some (.pointer (some ⟨T, 0, none⟩)) := (cell_at hB.t 0).trans rfl
  have s0 : W.cell? ⟨w.heap.size + 1, 0, none⟩ = some (.string s) := (cell_at hB.s 0).trans rfl
  have HW := Lib.hid hW
  have HE := Lib.hid e1
  clear hB hW e1 hT
  by_cases h1 : s.size < 1
  · have b1 : decide ((s.size : Int) < 1) = true := by simp; omega
    go_enter Tryz.func21, Tryz.ntmps21
    go_upto_region 1 with (fail)
    rw [← HW.out]
    go_wp2_with (fail)
    refine HO.out.mono ?_
    rintro e w' ⟨rfl, rfl⟩
    go_wp2_with (fail)
    go_ret
    exact ⟨rfl, HE.out⟩
  · have h2 : 400 < s.size := by omega
    have b1 : decide ((s.size : Int) < 1) = false := by simp; omega
    have b2 : decide ((400 : Int) < (s.size : Int)) = true := by simp; omega
    go_enter Tryz.func21, Tryz.ntmps21
    go_upto_region 1 with (fail)
    rw [← HW.out]
    go_wp2_with (fail)
    refine HO.out.mono ?_
    rintro e w' ⟨rfl, rfl⟩
    go_wp2_with (fail)
    go_ret
    exact ⟨rfl, HE.out⟩

set_option maxHeartbeats 400000 in
/-- An entry that is there. -/
theorem Insert_there {T A root h k : Nat} {F : Nat → Prop} {st : St} {s : Str} {E : List Str} (w : World) (hT : TreeAt w T A root (h + 1) k) (hA : Arena w A st F) (h1 : 1 ≤ s.size) (h2 : s.size ≤ 400) (hW : Ways st s h root E) (hi : headIs E s = true) :
    Calls Tryz.prog 21 #[.pointer (some ⟨T, 0, none⟩), .string s] w (Gives (.int .i64 3) w) := by
  obtain ⟨W, hW1⟩ : ∃ W, W = (w.alloc (.cells #[.pointer (some ⟨T, 0, none⟩)] 29)).alloc (.cells #[.string s] 9) := ⟨_, rfl⟩
  have hB : InBox W w.heap.size (w.heap.size + 1) T s := by rw [hW1]; exact boxes
  have e1 : Ext No w W := by rw [hW1]; exact ((Ext.refl No w).alloc _).alloc _
  have HO := Lib.hid (over_no W (e1.heapNo hT))
  have hH := Has_ok W (e1.heapNo hT) (hA.extNo e1) hW
  rw [hi] at hH
  have t0 : W.cell? ⟨w.heap.size, 0, none⟩ = some (.pointer (some ⟨T, 0, none⟩)) := (cell_at hB.t 0).trans rfl
  have s0 : W.cell? ⟨w.heap.size + 1, 0, none⟩ = some (.string s) := (cell_at hB.s 0).trans rfl
  have HW := Lib.hid hW1
  have HE := Lib.hid e1
  have HH := Lib.hid hH
  have b1 : decide ((s.size : Int) < 1) = false := by simp; omega
  have b2 : decide ((400 : Int) < (s.size : Int)) = false := by simp; omega
  clear hB hW1 e1 hT hA hW hi hH
  go_enter Tryz.func21, Tryz.ntmps21
  go_upto_region 1 with (fail)
  rw [← HW.out]
  go_wp2_with (fail)
  refine HO.out.mono ?_
  rintro e w' ⟨rfl, rfl⟩
  go_wp2_with (fail)
  refine HH.out.mono ?_
  rintro e w1 ⟨rfl, he1⟩
  have HX := Lib.hid (HE.out.trans he1)
  clear he1
  go_wp2_with (fail)
  go_ret
  exact ⟨rfl, HX.out⟩

set_option maxHeartbeats 1000000 in
/-- Pages lack. -/
theorem Insert_quota {T A root h k : Nat} {F : Nat → Prop} {st : St} {s : Str} {E : List Str} (w : World) (hT : TreeAt w T A root (h + 1) k) (hA : Arena w A st F) (h1 : 1 ≤ s.size) (h2 : s.size ≤ 400) (hW : Ways st s h root E) (hi : headIs E s = false) (hh : h ≤ 100000) (hq : st.left < h + 2) :
    Calls Tryz.prog 21 #[.pointer (some ⟨T, 0, none⟩), .string s] w (Gives (.int .i64 9) w) := by
  obtain ⟨W, hW1⟩ : ∃ W, W = (w.alloc (.cells #[.pointer (some ⟨T, 0, none⟩)] 29)).alloc (.cells #[.string s] 9) := ⟨_, rfl⟩
  have hB : InBox W w.heap.size (w.heap.size + 1) T s := by rw [hW1]; exact boxes
  have e1 : Ext No w W := by rw [hW1]; exact ((Ext.refl No w).alloc _).alloc _
  have HO := Lib.hid (over_no W (e1.heapNo hT))
  have hH := Has_ok W (e1.heapNo hT) (hA.extNo e1) hW
  rw [hi] at hH
  have t0 : W.cell? ⟨w.heap.size, 0, none⟩ = some (.pointer (some ⟨T, 0, none⟩)) := (cell_at hB.t 0).trans rfl
  have s0 : W.cell? ⟨w.heap.size + 1, 0, none⟩ = some (.string s) := (cell_at hB.s 0).trans rfl
  have HLF := Lib.hid (fun w' (he : Ext No W w') => Left_ok w' (hA.extNo (e1.trans he)))
  have HW := Lib.hid hW1
  have HE := Lib.hid e1
  have HH := Lib.hid hH
  have HB := Lib.hid hB
  have HT := Lib.hid (e1.heapNo hT)
  have b1 : decide ((s.size : Int) < 1) = false := by simp; omega
  have b2 : decide ((400 : Int) < (s.size : Int)) = false := by simp; omega
  clear hB hW1 e1 hT hA hW hi hH
  go_enter Tryz.func21, Tryz.ntmps21
  go_upto_region 1 with (fail)
  rw [← HW.out]
  go_wp2_with (fail)
  refine HO.out.mono ?_
  rintro e w' ⟨rfl, rfl⟩
  go_wp2_with (fail)
  refine HH.out.mono ?_
  rintro e w1 ⟨rfl, he1⟩
  have hB1 := HB.out.ext he1 (fun f => f) (fun f => f)
  have hT1 := he1.heapNo HT.out
  have t0 : w1.cell? ⟨w.heap.size, 0, none⟩ = some (.pointer (some ⟨T, 0, none⟩)) := (cell_at hB1.t 0).trans rfl
  have c0 : w1.cell? ⟨T, 0, none⟩ = some (.pointer (some ⟨A, 0, none⟩)) := (cell_at hT1 0).trans rfl
  have c2 : w1.cell? ⟨T, 2, none⟩ = some (.int .i64 ((h + 1 : Nat) : Int)) := (cell_at hT1 2).trans rfl
  have hw : IntKind.i64.wrap (((h + 1 : Nat) : Int) + 1) = ((h + 1 : Nat) : Int) + 1 := IntWalk.i64_in _ (by omega)
  have bq : decide ((st.left : Int) < ((h + 1 : Nat) : Int) + 1) = true := by simp; omega
  have HL1 := Lib.hid (fun n => HLF.out (w1.drewN n) (he1.drewN n))
  have HX := Lib.hid (HE.out.trans he1)
  clear he1 hB1 hT1 s0
  generalize ((h + 1 : Nat) : Int) = hz at *
  go_wp2_with (fail)
  go_quiet ((go_at_call 40; exact Calls.quiet_of (HL1.out _)))
  go_wp2_with (fail)
  go_ret
  exact ⟨rfl, HX.out.drewN _⟩

theorem InsRes.wrap {T A root h k : Nat} {F : Nat → Prop} {Q0 : St → Prop} {Q1 : Nat → St → Prop} {w w1 w2 w3 : World} (e1 : Ext No w w1) (hr : InsRes T A root h k F Q0 Q1 w1 w2) (hF : ∀ k, F k → k < w.heap.size) (hT : T < w.heap.size) {b : Nat} (hb : w.heap.size ≤ b) (hbl : b < w1.heap.size) (e2 : Ext (Only b) w2 w3) : InsRes T A root h k F Q0 Q1 w w3 := by
  obtain ⟨st', F', root', h', hA, hX, hG, hT', hQ⟩ := hr
  have hG' : Grow F F' w := fun q hq => (hG q hq).imp id fun g => by have := e1.size; omega
  have hbF : ¬ F' b := fun f => (hG b f).elim (fun g => by have := hF b g; omega) (fun g => by omega)
  have hbT : T ≠ b := by omega
  exact ⟨st', F', root', h', hA.ext e2 (fun q f g => by have : q = b := g; subst this; exact hbF f), (e1.noTrans hX).trans' e2 (fun x hx g => by have : x = b := g; omega), hG', TreeAt.ext hT' e2 hbT, hQ⟩
theorem InsRes.before {T A root h k : Nat} {F : Nat → Prop} {Q0 : St → Prop} {Q1 : Nat → St → Prop} {w w1 w2 : World} (e1 : Ext No w w1) (hr : InsRes T A root h k F Q0 Q1 w1 w2) : InsRes T A root h k F Q0 Q1 w w2 := by
  obtain ⟨st', F', root', h', hA, hX, hG, hT', hQ⟩ := hr
  exact ⟨st', F', root', h', hA, e1.noTrans hX, fun q hq => (hG q hq).imp id fun g => by have := e1.size; omega, hT', hQ⟩
theorem InsRes.then {T A root h k : Nat} {F : Nat → Prop} {Q0 : St → Prop} {Q1 : Nat → St → Prop} {w w2 w3 : World} (hr : InsRes T A root h k F Q0 Q1 w w2) (e2 : Ext No w2 w3) : InsRes T A root h k F Q0 Q1 w w3 := by
  obtain ⟨st', F', root', h', hA, hX, hG, hT', hQ⟩ := hr
  exact ⟨st', F', root', h', hA.extNo e2, hX.transNo e2, hG, e2.heapNo hT', hQ⟩

def InsOKPost (T A root h k : Nat) (F : Nat → Prop) (Q0 : St → Prop) (Q1 : Nat → St → Prop) (w : World) (e : Ending) (w' : World) : Prop := e = .returned (.int .i64 0) ∧ InsRes T A root h k F Q0 Q1 w w'

/-- Catch over Insert's inner function. -/
theorem Insert_catch {tb sb T A root hh h k : Nat} {st : St} {F : Nat → Prop} {s : Str} {Q0 : St → Prop} {Q1 : Nat → St → Prop} (w : World) (hB : InBox w tb sb T s) (hT : TreeAt w T A root hh k) (hA : Arena w A st F) (hTF : ¬ F T) (h1 : ¬ F tb) (h2 : ¬ F sb)
    (hh4 : hh ≤ 100000) (hk4 : k ≤ 1000000000) (hW : RootW s h st root Q0 Q1) :
    Calls Tryz.prog 35 #[.func (.func 49) #[] #[.pointer (some ⟨tb, 0, none⟩), .pointer (some ⟨sb, 0, none⟩)]] w fun e w' => e = .returned (.agg #[.int .i64 0, .int .i64 0]) ∧ InsRes T A root hh k F Q0 Q1 w w' := by
  have e1 : Ext No w (w.alloc (.cells #[.int .i64 0, .int .i64 0] 75)) := (Ext.refl No w).alloc _
  have hI := Insert1_ok (w.alloc (.cells #[.int .i64 0, .int .i64 0] 75)) (hB.ext e1 (fun f => f) (fun f => f)) (e1.heapNo hT) (hA.extNo e1) hTF h1 h2 hh4 hk4 hW
  have hTl := lt_of_heap hT
  refine (Catch_ok (g := 49) #[] #[.pointer (some ⟨tb, 0, none⟩), .pointer (some ⟨sb, 0, none⟩)] w (InsRes T A root hh k F Q0 Q1 (w.alloc (.cells #[.int .i64 0, .int .i64 0] 75))) (fun args w => by kernel_rfl) (hI.mono fun e w' hh => hh) (fun w2 hq => ?_)).mono ?_
  · obtain ⟨st', F', root', h', hA', hX, hG, hT', hQ⟩ := hq
    exact hX.heap (heap_alloc_new w _) (fun f => f.elim (fun g => by have := hA.lt _ g; omega) (fun g => by omega))
  · rintro e w' ⟨he, w2, hq, hx⟩
    exact ⟨he, hq.wrap e1 hA.lt hTl (Nat.le_refl _) (by simp) hx⟩

set_option maxHeartbeats 1000000 in
/-- A new entry. -/
theorem Insert_new {T A root h k : Nat} {F : Nat → Prop} {st : St} {s : Str} {E : List Str} {Q0 : St → Prop} {Q1 : Nat → St → Prop} (w : World) (hT : TreeAt w T A root (h + 1) k) (hA : Arena w A st F) (hTF : ¬ F T) (h1 : 1 ≤ s.size) (h2 : s.size ≤ 400) (hW : Ways st s h root E) (hi : headIs E s = false)
    (hh : h ≤ 10000) (hk : k ≤ 1000000000) (hq : h + 2 ≤ st.left) (hR : RootW s h st root Q0 Q1) :
    Calls Tryz.prog 21 #[.pointer (some ⟨T, 0, none⟩), .string s] w (InsOKPost T A root (h + 1) k F Q0 Q1 w) := by
  obtain ⟨W, hW1⟩ : ∃ W, W = (w.alloc (.cells #[.pointer (some ⟨T, 0, none⟩)] 29)).alloc (.cells #[.string s] 9) := ⟨_, rfl⟩
  have hB : InBox W w.heap.size (w.heap.size + 1) T s := by rw [hW1]; exact boxes
  have e1 : Ext No w W := by rw [hW1]; exact ((Ext.refl No w).alloc _).alloc _
  have HO := Lib.hid (over_no W (e1.heapNo hT))
  have hH := Has_ok W (e1.heapNo hT) (hA.extNo e1) hW
  rw [hi] at hH
  have t0 : W.cell? ⟨w.heap.size, 0, none⟩ = some (.pointer (some ⟨T, 0, none⟩)) := (cell_at hB.t 0).trans rfl
  have s0 : W.cell? ⟨w.heap.size + 1, 0, none⟩ = some (.string s) := (cell_at hB.s 0).trans rfl
  have HLF := Lib.hid (fun w' (he : Ext No W w') => Left_ok w' (hA.extNo (e1.trans he)))
  have HCT := Lib.hid (fun w' (he : Ext No W w') => Insert_catch w' (hB.ext he (fun f => f) (fun f => f)) (he.heapNo (e1.heapNo hT)) (hA.extNo (e1.trans he)) hTF (fun f => by have := hA.lt _ f; omega) (fun f => by have := hA.lt _ f; omega) (by omega) hk hR)
  have HW := Lib.hid hW1
  have HE := Lib.hid e1
  have HH := Lib.hid hH
  have HB := Lib.hid hB
  have HT := Lib.hid (e1.heapNo hT)
  have HTl := Lib.hid (lt_of_heap hT)
  have HLT := Lib.hid hA.lt
  have b1 : decide ((s.size : Int) < 1) = false := by simp; omega
  have b2 : decide ((400 : Int) < (s.size : Int)) = false := by simp; omega
  clear hB hW1 e1 hT hA hW hi hH hTF hR
  go_enter Tryz.func21, Tryz.ntmps21
  go_upto_region 1 with (fail)
  rw [← HW.out]
  go_wp2_with (fail)
  refine HO.out.mono ?_
  rintro e w' ⟨rfl, rfl⟩
  go_wp2_with (fail)
  refine HH.out.mono ?_
  rintro e w1 ⟨rfl, he1⟩
  have hB1 := HB.out.ext he1 (fun f => f) (fun f => f)
  have hT1 := he1.heapNo HT.out
  have t0 : w1.cell? ⟨w.heap.size, 0, none⟩ = some (.pointer (some ⟨T, 0, none⟩)) := (cell_at hB1.t 0).trans rfl
  have c0 : w1.cell? ⟨T, 0, none⟩ = some (.pointer (some ⟨A, 0, none⟩)) := (cell_at hT1 0).trans rfl
  have c2 : w1.cell? ⟨T, 2, none⟩ = some (.int .i64 ((h + 1 : Nat) : Int)) := (cell_at hT1 2).trans rfl
  have hw : IntKind.i64.wrap (((h + 1 : Nat) : Int) + 1) = ((h + 1 : Nat) : Int) + 1 := IntWalk.i64_in _ (by omega)
  have bq : decide ((st.left : Int) < ((h + 1 : Nat) : Int) + 1) = false := by simp; omega
  have HL1 := Lib.hid (fun n => HLF.out (w1.drewN n) (he1.drewN n))
  have HCT := Lib.hid (fun n => HCT.out (w1.drewN n) (he1.drewN n))
  have HX := Lib.hid (HE.out.trans he1)
  clear he1 hB1 hT1 s0
  generalize ((h + 1 : Nat) : Int) = hz at *
  go_wp2_with (fail)
  go_quiet ((go_at_call 40; exact Calls.quiet_of (HL1.out _)))
  go_wp2_with (fail)
  refine (HCT.out _).mono ?_
  rintro e w2 ⟨rfl, hr⟩
  have HR := Lib.hid hr
  clear hr
  go_wp2_with (fail)
  go_ret
  exact ⟨rfl, (InsRes.before (HX.out.drewN _) HR.out).then ((Ext.refl No w2).alloc _)⟩
end Go.Proofs.YtanglcdiebkmiaaGreat
