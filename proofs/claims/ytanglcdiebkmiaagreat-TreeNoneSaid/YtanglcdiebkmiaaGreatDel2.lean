/- Delete at a leaf, in a tree's words. -/
import Derived.Test.YtanglcdiebkmiaaGreatDel1
set_option linter.unusedSimpArgs false
set_option linter.unusedVariables false
namespace Go.Proofs.YtanglcdiebkmiaaGreat
open Go.RowKit Tw

theorem Delete_catch {tb sb T A root k : Nat} {st : St} {F : Nat → Prop} {s : Str} {Q : St → Prop} (w : World) (hB : InBox w tb sb T s) (hT : TreeAt w T A root 1 (k + 1)) (hA : Arena w A st F) (hTF : ¬ F T) (h1 : ¬ F tb) (h2 : ¬ F sb)
    (hk4 : k ≤ 1000000000) (hW : Rem0 s st root (fun st' => Q st' ∧ ∃ n, st'.node root = some n ∧ n.leaf = true)) :
    Calls Tryz.prog 35 #[.func (.func 51) #[] #[.pointer (some ⟨tb, 0, none⟩), .pointer (some ⟨sb, 0, none⟩)]] w fun e w' => e = .returned (.agg #[.int .i64 0, .int .i64 0]) ∧ ∃ st' F', Arena w' A st' F' ∧ Ext (fun x => F x ∨ x = T) w w' ∧ Grow F F' w ∧ TreeAt w' T A root 1 k ∧ Q st' := by
  have e1 : Ext No w (w.alloc (.cells #[.int .i64 0, .int .i64 0] 75)) := (Ext.refl No w).alloc _
  have hI := Delete1_leaf (w.alloc (.cells #[.int .i64 0, .int .i64 0] 75)) (hB.ext e1 (fun f => f) (fun f => f)) (e1.heapNo hT) (hA.extNo e1) hTF h1 h2 hk4 hW
  have hTl := lt_of_heap hT
  refine (Catch_ok (g := 51) #[] #[.pointer (some ⟨tb, 0, none⟩), .pointer (some ⟨sb, 0, none⟩)] w (fun w2 => ∃ st' F', Arena w2 A st' F' ∧ Ext (fun x => F x ∨ x = T) (w.alloc (.cells #[.int .i64 0, .int .i64 0] 75)) w2 ∧ Grow F F' (w.alloc (.cells #[.int .i64 0, .int .i64 0] 75)) ∧ TreeAt w2 T A root 1 k ∧ Q st') (fun args w => by kernel_rfl) (hI.mono fun e w' hh => hh) (fun w2 hq => ?_)).mono ?_
  · obtain ⟨st', F', hA', hX, hG, hT', hQ⟩ := hq
    exact hX.heap (heap_alloc_new w _) (fun f => f.elim (fun g => by have := hA.lt _ g; omega) (fun g => by omega))
  · rintro e w' ⟨he, w2, ⟨st', F', hA', hX, hG, hT', hQ⟩, hx⟩
    have hG' : Grow F F' w := fun q hq => (hG q hq).imp id fun g => by have := e1.size; omega
    have hbF : ¬ F' w.heap.size := fun f => (hG _ f).elim (fun g => by have := hA.lt _ g; omega) (fun g => by simp at g; omega)
    exact ⟨he, st', F', hA'.ext hx (fun q f g => by have : q = w.heap.size := g; subst this; exact hbF f), (e1.noTrans hX).trans' hx (fun x h1 g => by have : x = w.heap.size := g; omega), hG', TreeAt.ext hT' hx (fun g => by have : T = w.heap.size := g; omega), hQ⟩

def DelPost (T A root k : Nat) (F : Nat → Prop) (Q : St → Prop) (w : World) (e : Ending) (w' : World) : Prop :=
  e = .returned (.int .i64 0) ∧ ∃ st' F', Arena w' A st' F' ∧ Ext (fun x => F x ∨ x = T) w w' ∧ Grow F F' w ∧ TreeAt w' T A root 1 k ∧ Q st'

set_option maxHeartbeats 1000000 in
theorem Delete_leaf {T A root k : Nat} {F : Nat → Prop} {st : St} {s : Str} {E : List Str} {Q : St → Prop} (w : World) (hT : TreeAt w T A root 1 (k + 1)) (hA : Arena w A st F) (hTF : ¬ F T) (hW : Ways st s 0 root E) (hi : headIs E s = true)
    (hk : k ≤ 1000000000) (hR : Rem0 s st root (fun st' => Q st' ∧ ∃ n, st'.node root = some n ∧ n.leaf = true)) :
    Calls Tryz.prog 24 #[.pointer (some ⟨T, 0, none⟩), .string s] w (DelPost T A root k F Q w) := by
  obtain ⟨W, hW1⟩ : ∃ W, W = (w.alloc (.cells #[.pointer (some ⟨T, 0, none⟩)] 29)).alloc (.cells #[.string s] 9) := ⟨_, rfl⟩
  have hB : InBox W w.heap.size (w.heap.size + 1) T s := by rw [hW1]; exact boxes
  have e1 : Ext No w W := by rw [hW1]; exact ((Ext.refl No w).alloc _).alloc _
  have HO := Lib.hid (over_no W (e1.heapNo hT))
  have hH := Has_ok W (e1.heapNo hT) (hA.extNo e1) hW
  rw [hi] at hH
  have t0 : W.cell? ⟨w.heap.size, 0, none⟩ = some (.pointer (some ⟨T, 0, none⟩)) := (cell_at hB.t 0).trans rfl
  have s0 : W.cell? ⟨w.heap.size + 1, 0, none⟩ = some (.string s) := (cell_at hB.s 0).trans rfl
  have HCT := Lib.hid (fun w' (he : Ext No W w') => Delete_catch w' (hB.ext he (fun f => f) (fun f => f)) (he.heapNo (e1.heapNo hT)) (hA.extNo (e1.trans he)) hTF (fun f => by have := hA.lt _ f; omega) (fun f => by have := hA.lt _ f; omega) hk hR)
  have HW := Lib.hid hW1
  have HE := Lib.hid e1
  have HH := Lib.hid hH
  clear hB hW1 e1 hT hA hW hi hH hTF hR
  go_enter Tryz.func24, Tryz.ntmps24
  go_upto_region 1 with (fail)
  rw [← HW.out]
  go_wp2_with (fail)
  refine HO.out.mono ?_
  rintro e w' ⟨rfl, rfl⟩
  go_wp2_with (fail)
  refine HH.out.mono ?_
  rintro e w1 ⟨rfl, he1⟩
  have HCT := Lib.hid (HCT.out w1 he1)
  have HX := Lib.hid (HE.out.trans he1)
  clear he1 s0
  go_wp2_with (fail)
  refine HCT.out.mono ?_
  rintro e w2 ⟨rfl, st', F', hA', hX, hG, hT', hQ⟩
  have e3 : Ext No w2 (w2.alloc (.cells #[.int .i64 0, .int .i64 0] 75)) := (Ext.refl No w2).alloc _
  have HFIN := Lib.hid (show DelPost T A root k F Q w (.returned (.int .i64 0)) (w2.alloc (.cells #[.int .i64 0, .int .i64 0] 75)) from
    ⟨rfl, st', F', hA'.extNo e3, (HX.out.noTrans hX).transNo e3, fun q hq => (hG q hq).imp id fun g => by have := HX.out.size; omega, e3.heapNo hT', hQ⟩)
  clear hA' hX hG hT' hQ e3
  go_wp2_with (fail)
  go_ret
  exact HFIN.out

/-- What a deletion leaves, at a tree of height 1. -/
def CutPost (T A : Nat) (F : Nat → Prop) (st : St) (root : Nat) (E : List Str) (I : List Nat) (s : Str) (w : World) (e : Ending) (w' : World) : Prop :=
  e = .returned (.int .i64 0) ∧ ∃ st' F', Arena w' A st' F' ∧ Ext (fun x => F x ∨ x = T) w w' ∧ Grow F F' w ∧ TreeAt w' T A root 1 (E.length - 1) ∧
    TreeOK st' root 0 (E.eraseIdx (below E s)) I (E.length - 1) ∧ Chg st I st' I

theorem Delete_ok0 {T A root : Nat} {F : Nat → Prop} {st : St} {s : Str} {E : List Str} {I : List Nat} {m : Nat} (w : World) (hT : TreeAt w T A root 1 E.length) (hA : Arena w A st F) (hTF : ¬ F T) (t : TreeOK st root 0 E I m) (hs : s ∈ E) :
    Calls Tryz.prog 24 #[.pointer (some ⟨T, 0, none⟩), .string s] w (CutPost T A F st root E I s w) := by
  have hsm := t.small hA.wf
  have hpos := List.length_pos_of_mem hs
  have hTk : TreeAt w T A root 1 ((E.length - 1) + 1) := by rw [show E.length - 1 + 1 = E.length by omega]; exact hT
  have hwf := hA.wf
  obtain ⟨n, hn, hr, hl, hb, hE, hI, hm⟩ := id t.sub
  have hbl : below E s < E.length := ((mem_iff_below t.sorted).1 hs).choose
  have hid := node_isSome hn
  have hre := leaf_erase hr hl (below n.recs s)
  have hR : Rem0 s st root (fun st' => (TreeOK st' root 0 (E.eraseIdx (below E s)) I (E.length - 1) ∧ Chg st I st' I) ∧ ∃ n, st'.node root = some n ∧ n.leaf = true) := by
    rw [hE] at hbl ⊢
    refine ⟨n, hn, hl, hbl, ⟨⟨⟨_, by rw [St.node_put hid, if_pos rfl], hre, rfl, fun x hx => hb x (List.mem_of_mem_eraseIdx hx), rfl, hI, by rw [List.length_eraseIdx]; simp [hbl]⟩, t.nodup, fun n' hn' hl' => ?_⟩, (Chg.refl hwf t.nodup).put t.sub.id_mem hid hre⟩, _, by rw [St.node_put hid, if_pos rfl], rfl⟩
    rw [St.node_put hid, if_pos rfl] at hn'; cases hn'; cases hl'
  refine (Delete_leaf w hTk hA hTF (t.ways s) ((headIs_ge t.sorted).2 hs) (by omega) hR).mono ?_
  rintro e w' ⟨he, st', F', h1, h2, h3, h4, h5, h6⟩
  exact ⟨he, st', F', h1, h2, h3, h4, h5, h6⟩
end Go.Proofs.YtanglcdiebkmiaaGreat
