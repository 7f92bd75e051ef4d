/- tree.New, where a page is left. -/
import Derived.Test.YtanglcdiebkmiaaGreatTreeOK
set_option linter.unusedSimpArgs false
set_option linter.unusedVariables false
namespace Go.Proofs.YtanglcdiebkmiaaGreat
open Go.RowKit Tw

/-- A tree without entries, on a new page. -/
structure Fresh (st : St) (st' : St) (root : Nat) : Prop where
  ok : TreeOK st' root 0 [] [root] 0
  chg : Chg st [] st' [root]

theorem fresh_of {st : St} (hw : st.WF) (hl : st.left ≠ 0) : Fresh st (st.new.2.put st.new.1 (.node ⟨true, [], []⟩)) st.new.1 := by
  have hs := St.new_spec hw
  have hg : (st.new.2.get st.new.1).isSome := by rw [hs.2.2.1, if_pos rfl]; rfl
  have hR : (⟨true, [], []⟩ : Nd).Right := ⟨⟨fun _ => rfl, fun e => (by cases e), fun x hx => (by cases hx), Sorted.nil, fun k hk => (by cases hk)⟩, by decide⟩
  have hn : (st.new.2.put st.new.1 (.node ⟨true, [], []⟩)).node st.new.1 = some ⟨true, [], []⟩ := by rw [St.node_put hg, if_pos rfl]
  refine ⟨⟨⟨_, hn, hR, rfl, fun s hs => (by cases hs), rfl, rfl, rfl⟩, by simp, fun n hn' hl => ?_⟩, ?_⟩
  · rw [hn] at hn'; cases hn'; cases hl
  · exact ((Chg.refl hw (I := []) List.nodup_nil).new hl (fun i hi => by cases hi)).put (by simp) hg hR

def New1Post (T A : Nat) (F : Nat → Prop) (st : St) (w : World) (e : Ending) (w' : World) : Prop :=
  e = .returned (.tuple #[]) ∧ ∃ F', Arena w' A (st.new.2.put st.new.1 (.node ⟨true, [], []⟩)) F' ∧ Ext (fun x => F x ∨ x = T) w w' ∧ Grow F F' w ∧ TreeAt w' T A st.new.1 1 0

set_option maxHeartbeats 1000000 in
theorem New1_ok {tb T A : Nat} {st : St} {F : Nat → Prop} (w : World) (htb : w.heap[tb]? = some (.cells #[.pointer (some ⟨T, 0, none⟩)] 29 (0, 0))) (hT : TreeAt w T A 0 1 0) (hA : Arena w A st F) (hTF : ¬ F T) (h1 : ¬ F tb) (hl : st.left ≠ 0) :
    Calls Tryz.prog 36 #[.pointer (some ⟨tb, 0, none⟩)] w (New1Post T A F st w) := by
  have hR : (⟨true, [], []⟩ : Nd).Right := ⟨⟨fun _ => rfl, fun e => (by cases e), fun x hx => (by cases hx), Sorted.nil, fun k hk => (by cases hk)⟩, by decide⟩
  have hal := fun w' (he : Ext No w w') => talloc_ok (rc := 0) (kc := 0) (ra := none) (ka := none) (n := ⟨true, [], []⟩) w' (he.heapNo hT) (hA.extNo he) hTF hl ⟨.inl rfl, .inl rfl⟩ hR (fun k hk => by obtain ⟨p, hp, _⟩ := hk; cases hp) (fun k hk => by obtain ⟨p, hp, _⟩ := hk; cases hp)
  have t0 : w.cell? ⟨tb, 0, none⟩ = some (.pointer (some ⟨T, 0, none⟩)) := (cell_at htb 0).trans rfl
  have z1 := frozen_at hT 1
  have hne0 : ¬ T = tb := ne_of_elem hT htb (by decide)
  have hne2 : ¬ tb = T := fun e => hne0 e.symm
  have HAL := Lib.hid hal
  have HB := Lib.hid htb
  have HT := Lib.hid hT
  have HTF := Lib.hid hTF
  have HF1 := Lib.hid h1
  clear hal htb hT hA hTF h1 hl hR
  unfold nodeVal at HAL
  go_enter Tryz.func36, Tryz.ntmps36
  go_wp2_with (fail)
  go_region_held3 (fun w' => w'.cell? ⟨tb, 0, none⟩ = some (.pointer (some ⟨T, 0, none⟩)) ∧ w'.frozen? ⟨T, 1, none⟩ = false) (first | go_keep) (first
    | (go_at_call 37; refine (HAL.out _ (Ext.refl No w).drew).mono ?_; rintro e w2 ⟨rfl, F2, hA2, hX2, hG2⟩; have hX2 := (Ext.refl No w).drew.noTrans hX2; have hT2 := HT.out.ext hX2 HTF.out; have hB2 := hX2.heap HB.out HF1.out; have t0 : w2.cell? ⟨tb, 0, none⟩ = some (.pointer (some ⟨T, 0, none⟩)) := (cell_at hB2 0).trans rfl; have z1 := frozen_at hT2 1; have c1 : w2.cell? ⟨T, 1, none⟩ = some (.int .i64 0) := (cell_at hT2 1).trans rfl; have HA2 := Lib.hid hA2; have HX2 := Lib.hid hX2; have HG2 := Lib.hid hG2; have HT2 := Lib.hid hT2; clear hA2 hX2 hG2 hT2 hB2))
  have hT3 : TreeAt (w2.setCell ⟨T, 1, none⟩ (.int .i64 st.new.1)) T A st.new.1 1 0 := (heap_setCell_at HT2.out 1 _).trans rfl
  have hx : Ext (Only T) w2 (w2.setCell ⟨T, 1, none⟩ (.int .i64 st.new.1)) := (Ext.refl (Only T) w2).setCell (p := ⟨T, 1, none⟩) (.inl rfl) _
  have hTF2 : ¬ F2 T := Grow.not HG2.out HTF.out (lt_of_heap HT.out)
  have HFIN := Lib.hid (show New1Post T A F st w (.returned (.tuple #[])) (w2.setCell ⟨T, 1, none⟩ (.int .i64 st.new.1)) from
    ⟨rfl, F2, HA2.out.ext hx (fun q f g => by have : q = T := g; subst this; exact hTF2 f), (HX2.out.mono fun x f => .inl f).trans (hx.mono fun x f => .inr f), HG2.out, hT3⟩)
  clear hT3 hx hTF2
  all_goals
    first | go_end0 | (go_wp2_with (fail); go_end0)
    exact HFIN.out

/-- What New leaves. -/
def NewTPost (A : Nat) (F : Nat → Prop) (st : St) (w : World) (e : Ending) (w' : World) : Prop :=
  ∃ T, e = .returned (.tuple #[.pointer (some ⟨T, 0, none⟩), .int .i64 0]) ∧ w.heap.size ≤ T ∧ ∃ F' st' root, Fresh st st' root ∧ Arena w' A st' F' ∧ Ext F w w' ∧ Grow F F' w ∧ ¬ F' T ∧ TreeAt w' T A root 1 0

theorem New_catch {tb T A : Nat} {st : St} {F : Nat → Prop} (w : World) (htb : w.heap[tb]? = some (.cells #[.pointer (some ⟨T, 0, none⟩)] 29 (0, 0))) (hT : TreeAt w T A 0 1 0) (hA : Arena w A st F) (hTF : ¬ F T) (h1 : ¬ F tb) (hl : st.left ≠ 0) :
    Calls Tryz.prog 35 #[.func (.func 36) #[] #[.pointer (some ⟨tb, 0, none⟩)]] w fun e w' => e = .returned (.agg #[.int .i64 0, .int .i64 0]) ∧
      ∃ F', Arena w' A (st.new.2.put st.new.1 (.node ⟨true, [], []⟩)) F' ∧ Ext (fun x => F x ∨ x = T) w w' ∧ Grow F F' w ∧ TreeAt w' T A st.new.1 1 0 ∧ w'.heap[tb]? = some (.cells #[.pointer (some ⟨T, 0, none⟩)] 29 (0, 0)) := by
  have e1 : Ext No w (w.alloc (.cells #[.int .i64 0, .int .i64 0] 75)) := (Ext.refl No w).alloc _
  have hI := New1_ok (w.alloc (.cells #[.int .i64 0, .int .i64 0] 75)) (e1.heapNo htb) (e1.heapNo hT) (hA.extNo e1) hTF h1 hl
  have hTl := lt_of_heap hT
  have hbl := lt_of_heap htb
  have hne : ¬ tb = T := fun e => ne_of_elem hT htb (by decide) e.symm
  refine (Catch_ok (g := 36) #[] #[.pointer (some ⟨tb, 0, none⟩)] w (fun w2 => ∃ F', Arena w2 A (st.new.2.put st.new.1 (.node ⟨true, [], []⟩)) F' ∧ Ext (fun x => F x ∨ x = T) (w.alloc (.cells #[.int .i64 0, .int .i64 0] 75)) w2 ∧ Grow F F' (w.alloc (.cells #[.int .i64 0, .int .i64 0] 75)) ∧ TreeAt w2 T A st.new.1 1 0) (fun args w => by kernel_rfl) (hI.mono fun e w' hh => hh) (fun w2 hq => ?_)).mono ?_
  · obtain ⟨F', hA', hX, hG, hT'⟩ := hq
    exact hX.heap (heap_alloc_new w _) (fun f => f.elim (fun g => by have := hA.lt _ g; omega) (fun g => by omega))
  · rintro e w' ⟨he, w2, ⟨F', hA', hX, hG, hT'⟩, hx⟩
    have hG' : Grow F F' w := fun q hq => (hG q hq).imp id fun g => by have := e1.size; omega
    have hbF : ¬ F' w.heap.size := fun f => (hG _ f).elim (fun g => by have := hA.lt _ g; omega) (fun g => by simp at g; omega)
    refine ⟨he, F', hA'.ext hx (fun q f g => by have : q = w.heap.size := g; subst this; exact hbF f), (e1.noTrans hX).trans' hx (fun x h1 g => by have : x = w.heap.size := g; omega), hG', TreeAt.ext hT' hx (fun g => by have : T = w.heap.size := g; omega), ?_⟩
    exact hx.heap (hX.heap (e1.heapNo htb) (fun f => f.elim h1 hne)) (fun g => by have : tb = w.heap.size := g; omega)

set_option maxHeartbeats 1000000 in
theorem New_tree {A : Nat} {st : St} {F : Nat → Prop} (w : World) (hA : Arena w A st F) (hl : st.left ≠ 0) :
    Calls Tryz.prog 12 #[.pointer (some ⟨A, 0, none⟩)] w (NewTPost A F st w) := by
  obtain ⟨W, hW⟩ : ∃ W, W = (w.alloc (.cells #[.pointer (some ⟨A, 0, none⟩), .int .i64 0, .int .i64 1, .int .i64 0] 73)).alloc (.cells #[.pointer (some ⟨w.heap.size, 0, none⟩)] 29) := ⟨_, rfl⟩
  have e1 : Ext No w W := by rw [hW]; exact ((Ext.refl No w).alloc _).alloc _
  have hT : TreeAt W w.heap.size A 0 1 0 := by rw [hW]; exact (heap_alloc_lt (by simp)).trans (heap_alloc_new w _)
  have hb : W.heap[w.heap.size + 1]? = some (.cells #[.pointer (some ⟨w.heap.size, 0, none⟩)] 29 (0, 0)) := by
    have h := heap_alloc_new (w.alloc (.cells #[.pointer (some ⟨A, 0, none⟩), .int .i64 0, .int .i64 1, .int .i64 0] 73)) (.cells #[.pointer (some ⟨w.heap.size, 0, none⟩)] 29)
    rw [show (w.alloc (.cells #[.pointer (some ⟨A, 0, none⟩), .int .i64 0, .int .i64 1, .int .i64 0] 73)).heap.size = w.heap.size + 1 from by simp, ← hW] at h; exact h
  have hlt := hA.lt
  have hC := New_catch W hb hT (hA.extNo e1) (fun f => by have := hlt _ f; omega) (fun f => by have := hlt _ f; omega) hl
  have HF := Lib.hid (fresh_of hA.wf hl)
  have HW := Lib.hid hW
  have HE := Lib.hid e1
  have HC := Lib.hid hC
  have HLT := Lib.hid hlt
  clear hW e1 hT hb hC hlt hA hl
  go_enter Tryz.func12, Tryz.ntmps12
  go_upto_region 2 with (fail)
  rw [← HW.out]
  go_wp2_with (fail)
  refine HC.out.mono ?_
  rintro e w2 ⟨rfl, F', hA', hX, hG, hT', hb'⟩
  have e3 : Ext No w2 (w2.alloc (.cells #[.int .i64 0, .int .i64 0] 75)) := (Ext.refl No w2).alloc _
  have hG' : Grow F F' w := fun q hq => (hG q hq).imp id fun g => by have := HE.out.size; omega
  have hXw : Ext F w w2 := HE.out.ofNo.trans' hX (fun x hx f => f.elim id fun g => by omega)
  have hTF : ¬ F' w.heap.size := fun f => (hG _ f).elim (fun g => by have := HLT.out _ g; omega) (fun g => by have := HE.out.size; rw [HW.out] at g; simp at g; omega)
  have b0 : ∀ O, (w2.alloc O).cell? ⟨w.heap.size + 1, 0, none⟩ = some (.pointer (some ⟨w.heap.size, 0, none⟩)) := fun O => (cell_at (((Ext.refl No w2).alloc O).heapNo hb') 0).trans rfl
  have HFIN := Lib.hid (show NewTPost A F st w (.returned (.tuple #[.pointer (some ⟨w.heap.size, 0, none⟩), .int .i64 0])) (w2.alloc (.cells #[.int .i64 0, .int .i64 0] 75)) from
    ⟨w.heap.size, rfl, Nat.le_refl _, F', _, _, HF.out, hA'.extNo e3, hXw.transNo e3, hG', hTF, e3.heapNo hT'⟩)
  clear e3 hG' hXw hTF hA' hX hG hT' hb'
  go_wp2_with (fail)
  go_ret2
  exact HFIN.out
end Go.Proofs.YtanglcdiebkmiaaGreat
