/- Alloc. -/
import Derived.Test.YtanglcdiebkmiaaGreatArena
import Derived.Test.YtanglcdiebkmiaaGreatStOps
import Derived.Maps.AppendAt
set_option linter.unusedSimpArgs false
set_option linter.unusedVariables false
namespace Go.Proofs.YtanglcdiebkmiaaGreat
open Go.RowKit Tw

theorem info_ptr : (Tryz.prog.info? 96).map (fun i => (i.zero, i.size, i.bytes)) = some (some (.pointer none), 1, 8) := by kernel_rfl

theorem zeroPage : Tryz.zeroCells133 = cellsOf (Pg.raw.bytes) := by kernel_rfl

/-- What a call does to an arena. -/
def Turns (A : Nat) (st' : St) (F : Nat → Prop) (w w' : World) : Prop := ∃ F', Arena w' A st' F' ∧ Ext F w w' ∧ Grow F F' w

theorem cell_one_new' (w : World) (x : Value) (t : TypeId) {g : Nat} (hg : w.heap.size = g) : ∀ j u, [x][j]? = some u → (w.alloc (.cells #[x] t)).cell? ((⟨g, 0, none⟩ : Addr).add j) = some u := by
  subst hg; exact cell_one_new w x t

theorem Alloc_new_post {A nq : Nat} {st : St} {F : Nat → Prop} {w w' : World} {pa fa pa' : Option Addr} {pc fc pc' : Nat} {ptrs : List Value} (h : ArenaAt w A st F pa pc fa fc ptrs) (hl : st.left ≠ 0) (hf : st.free = [])
    (hown : w'.ownsRow 0 96 1 (.slice pa' (st.pages.length + 1) pc') (st.pages.length + 1) (ptrs ++ [.pointer (some ⟨w.heap.size, 0, none⟩)]))
    (hg : (((w.drewN nq).alloc (Obj.cells Tryz.zeroCells133 133)).alloc (Obj.cells #[.pointer (some ⟨w.heap.size, 0, none⟩)] 96)).grownBy w' (Value.slice pa st.pages.length pc).ownBlock)
    (hat : (Value.slice pa' (st.pages.length + 1) pc').ownBlock = (Value.slice pa st.pages.length pc).ownBlock ∨ (Value.slice pa' (st.pages.length + 1) pc').ownBlock = some (w.heap.size + 1 + 1)) :
    w'.cell? ⟨A, 0, none⟩ = some (.slice pa st.pages.length pc) ∧ w'.frozen? ⟨A, 0, none⟩ = false ∧
    w'.cell? ⟨A, 1, none⟩ = some (.slice fa st.free.length fc) ∧
    Turns A st.new.2 F w (w'.setCell ⟨A, 0, none⟩ (.slice pa' (st.pages.length + 1) pc')) := by
  have hnew : st.new.2 = { st with pages := st.pages ++ [some .raw] } := by unfold St.new; rw [hf]; rfl
  have hAlt := lt_of_heap h.blk
  have hAne : (Value.slice pa st.pages.length pc).ownBlock ≠ some A := fun e => (h.pages_block (blk_own.2 e)).1 rfl
  have e2 : Ext No w (((w.drewN nq).alloc (Obj.cells Tryz.zeroCells133 133)).alloc (Obj.cells #[.pointer (some ⟨w.heap.size, 0, none⟩)] 96)) := (((Ext.refl _ _).drewN nq).alloc _).alloc _
  have e3 : Ext (Blk pa) w w' := e2.ofNo.grownBy hg fun k hk => .inl (blk_own.2 hk)
  have hA : w'.heap[A]? = _ := e3.heap h.blk fun hk => (h.pages_block hk).1 rfl
  have e4' : Ext (fun k => k = A ∨ Blk pa k) w (w'.setCell ⟨A, 0, none⟩ (.slice pa' (st.pages.length + 1) pc')) := (e3.mono fun k hk => .inr hk).setCell (.inl (.inl rfl)) _
  have e4 : Ext (Hot A pa fa) w (w'.setCell ⟨A, 0, none⟩ (.slice pa' (st.pages.length + 1) pc')) := e4'.mono fun k hk => hk.imp id .inl
  have hA' : ∀ k, (Value.slice pa' (st.pages.length + 1) pc').ownBlock = some k → k ≠ A := fun k hk => by
    rcases hat with e | e
    · rw [e] at hk; exact (h.pages_block (blk_own.2 hk)).1
    · rw [e] at hk; simp at hk; omega
  have e5 : Ext (Only A) w' (w'.setCell ⟨A, 0, none⟩ (.slice pa' (st.pages.length + 1) pc')) := (Ext.refl _ _).setCell (.inl (show Only A A from rfl)) _
  have c1 : w'.cell? ⟨A, 1, none⟩ = some (.slice fa st.free.length fc) := by rw [cell_at hA]; rfl
  refine ⟨by rw [cell_at hA]; rfl, frozen_at hA 0, c1, ?_⟩
  rw [hnew]
  refine ArenaAt.update (pa' := pa') (pc' := pc') (fa' := fa) (fc' := fc) (ptrs' := ptrs ++ [.pointer (some ⟨w.heap.size, 0, none⟩)]) h e4 (hnew ▸ h.wf.new hl) ?_ ?_ ?_ ?_ ?_ ?_ ?_
  · rw [heap_setCell_at hA]; simp
  · simp only [List.length_append, List.length_cons, List.length_nil]
    exact ownsRow_ext hown e5 fun k hk e => hA' k hk e
  · refine ownsRow_ext h.free e4' fun k hk hh => ?_
    have hb := blk_own.2 hk
    rcases hh with e | e
    · exact (h.free_block hb).1 e
    · exact (h.free_block hb).2 e
  · simp [h.ptrs.1]
  · intro i o ho
    rcases Nat.lt_or_ge i st.pages.length with hi | hi
    · rw [List.getElem?_append_left hi] at ho
      have hp := h.ptrs.2 i o ho
      rw [List.getElem?_append_left (by rw [h.ptrs.1]; exact hi)]
      cases o with
      | none => exact hp
      | some p => exact .inl ⟨i, ho, rfl⟩
    · have hi' : i = st.pages.length := by have := (List.getElem?_eq_some_iff.1 ho).1; simp at this; omega
      subst hi'
      simp at ho; subst ho
      refine .inr ⟨w.heap.size, ?_, ?_, Nat.le_refl _⟩
      · rw [← h.ptrs.1]; simp
      · rw [← zeroPage]
        have h1 : w'.heap[w.heap.size]? = some (.cells Tryz.zeroCells133 133 (0, 0)) := by
          rw [hg.block _ (by simp; omega) (fun e => by have := blk_own.2 e.symm; have := h.lt _ (h.inP _ this); omega)]
          rw [heap_alloc_lt (by simp)]
          exact heap_alloc_new (w.drewN nq) _
        rw [heap_setCell_ne (by omega)]; exact h1
  · intro k hk
    rw [blk_own (n := st.pages.length + 1) (c := pc')] at hk
    rcases hat with e | e
    · rw [e] at hk; exact .inl (blk_own.2 hk)
    · rw [e] at hk; simp at hk; exact .inr (by omega)
  · exact fun k hk => .inl hk

set_option maxHeartbeats 400000 in
theorem Alloc_new {A : Nat} {st : St} {F : Nat → Prop} (w : World) (h : Arena w A st F) (hl : st.left ≠ 0) (hf : st.free = []) :
    Calls Tryz.prog 61 #[.pointer (some ⟨A, 0, none⟩)] w fun e w' => e = .returned (.tuple #[.int .i64 ((st.pages.length + 1 : Nat) : Int), .int .i64 0]) ∧ Turns A st.new.2 F w w' := by
  have hL := fun n => Left_ok _ (h.extNo (drewN_ext w n))
  obtain ⟨pa, pc, fa, fc, ptrs, h⟩ := h
  obtain ⟨c0, c1, _, z0, _⟩ := ArenaAt_cells h
  have hlt := h.wf.len
  have hb : ((st.left : Int) == 0) = false := by simp; omega
  have hf0 : st.free.length = 0 := by rw [hf]; rfl
  rw [hf0] at c1
  have HL := Lib.hid (hL 0)
  have H := Lib.hid h
  have HF := Lib.hid hf
  clear hL hf hf0 h
  obtain ⟨i0, hi, hz0, hz1, hz2⟩ := info_parts info_ptr
  go_enter Tryz.func61, Tryz.ntmps61
  go_wp2_with (fail)
  refine HL.out.mono ?_; rintro e w' ⟨rfl, nq, rfl⟩
  have hown := ownsRow_ext (H.out.pages) (drewN_ext (w.drewN 0) nq) (fun _ _ f => f)
  have HO := Lib.hid hown
  clear hown
  go_wp2_with (at_builtin; refine wpList_append_own_at _ rfl _ _ 61 rfl 0 96 i0 (.pointer none) 1 8 Tryz.underlying61 hi hz0 hz1 hz2 rfl (by decide) _ _ _ rfl ((HO.out.alloc _).alloc _) ⟨w.heap.size + 1, 0, none⟩ 1 1 [.pointer (some ⟨w.heap.size, 0, none⟩)] rfl rfl ?c1 ?c2 ?c3 ?c4 ?c5 ?_)
  case c1 => exact cell_one_new' _ _ _ (by simp)
  case c2 => intro u hu; simp at hu; subst hu; rfl
  case c3 => unfold maxLen; omega
  case c4 => omega
  case c5 => omega
  intro v' w1 hown' hg _ hat
  obtain ⟨pa', pc', rfl, _, _, _⟩ := ownsRow_form hown'
  obtain ⟨d0, y0, d1, hT⟩ := Alloc_new_post H.out hl HF.out hown' hg hat
  have HT := Lib.hid hT
  clear hT hat hg hown'
  go_wp2
  go_ret2
  exact ⟨rfl, HT.out⟩

theorem Alloc_old_post {A n m pb fb : Nat} {st : St} {F : Nat → Prop} {w : World} {pc fc : Nat} {ptrs : List Value} (h : ArenaAt w A st F (some ⟨pb, 0, none⟩) pc (some ⟨fb, 0, none⟩) fc ptrs) (hl : st.left ≠ 0) (hf : st.free.getLast? = some n) :
    Turns A st.new.2 F w ((((w.drewN m).setCell ⟨A, 1, none⟩ (.slice (some ⟨fb, 0, none⟩) (st.free.length - 1) fc)).setCell ⟨pb, n - 1, none⟩ (.pointer (some ⟨w.heap.size, 0, none⟩))).alloc (Obj.cells Tryz.zeroCells133 133)) := by
  have hnew : st.new.2 = { st with pages := st.pages.set (n - 1) (some .raw), free := st.free.dropLast } := by unfold St.new; rw [hf]
  have hmem := List.mem_of_getLast? hf
  have hn := (h.wf.free n).1 hmem
  have hpA : pb ≠ A := (h.pages_block ⟨_, rfl, rfl⟩).1
  have hpF : pb ≠ fb := fun e => (h.pages_block (k := pb) ⟨_, rfl, rfl⟩).2 ⟨_, rfl, e.symm⟩
  have hfA : fb ≠ A := (h.free_block ⟨_, rfl, rfl⟩).1
  have e1 : Ext (Only A) w ((w.drewN m).setCell ⟨A, 1, none⟩ (.slice (some ⟨fb, 0, none⟩) (st.free.length - 1) fc)) := ((Ext.refl _ w).drewN m).setCell (.inl (show Only A A from rfl)) _
  have e2 : Ext (fun k => k = A ∨ Blk (some ⟨pb, 0, none⟩) k) w (((w.drewN m).setCell ⟨A, 1, none⟩ (.slice (some ⟨fb, 0, none⟩) (st.free.length - 1) fc)).setCell ⟨pb, n - 1, none⟩ (.pointer (some ⟨w.heap.size, 0, none⟩))) := (e1.mono fun k hk => .inl hk).setCell (.inl (.inr ⟨_, rfl, rfl⟩)) _
  have e3 := e2.alloc (Obj.cells Tryz.zeroCells133 133)
  have hA1 : ((w.drewN m).setCell ⟨A, 1, none⟩ (.slice (some ⟨fb, 0, none⟩) (st.free.length - 1) fc)).heap[A]? = _ := heap_setCell_at (w := w.drewN m) h.blk 1 _
  have hp1 := ownsRow_set (i := n - 1) (ownsRow_ext h.pages e1 fun k hk e => by simp [Value.ownBlock] at hk; exact hpA (hk.trans e)) (.pointer (some ⟨w.heap.size, 0, none⟩))
  have hsz : (((w.drewN m).setCell ⟨A, 1, none⟩ (.slice (some ⟨fb, 0, none⟩) (st.free.length - 1) fc)).setCell ⟨pb, n - 1, none⟩ (.pointer (some ⟨w.heap.size, 0, none⟩))).heap.size = w.heap.size := by simp [World.setCell, World.drewN]
  rw [hnew]
  refine ArenaAt.update (pa' := some ⟨pb, 0, none⟩) (pc' := pc) (fa' := some ⟨fb, 0, none⟩) (fc' := fc) (ptrs' := ptrs.set (n - 1) (.pointer (some ⟨w.heap.size, 0, none⟩))) h (e3.mono fun k hk => hk.imp id .inl) (hnew ▸ h.wf.new hl) ?_ ?_ ?_ ?_ ?_ ?_ ?_
  · rw [heap_alloc_lt (by rw [hsz]; exact lt_of_heap h.blk), heap_setCell_ne hpA.symm, hA1]
    simp
  · simp only [List.length_set]
    exact ownsRow_ext (hp1.alloc _) (Ext.refl No _) fun _ _ f => f
  · rw [List.length_dropLast]
    have := ownsRow_take (ownsRow_ext h.free e3 fun k hk e => by
      simp [Value.ownBlock] at hk; subst hk
      rcases e with e | ⟨_, e, e'⟩
      · exact hfA e
      · cases e; exact hpF e') (k := st.free.length - 1) (by omega)
    rwa [List.dropLast_eq_take, List.map_take]
  · simp [h.ptrs.1]
  · intro i o ho
    simp only at ho
    by_cases hi : i = n - 1
    · subst hi
      rw [List.getElem?_set_self (by omega)] at ho
      simp at ho; subst ho
      refine .inr ⟨w.heap.size, ?_, ?_, Nat.le_refl _⟩
      · rw [List.getElem?_set_self (by rw [h.ptrs.1]; omega)]
      · rw [← zeroPage]; exact (congrArg (fun k => (World.alloc _ _).heap[k]?) hsz.symm).trans (heap_alloc_new _ _)
    · rw [List.getElem?_set_ne (Ne.symm hi)] at ho
      have hp := h.ptrs.2 i o ho
      rw [List.getElem?_set_ne (Ne.symm hi)]
      cases o with
      | none => exact hp
      | some p => exact .inl ⟨i, ho, rfl⟩
  · exact fun k hk => .inl hk
  · exact fun k hk => .inl hk

set_option maxHeartbeats 400000 in
theorem Alloc_old {A n : Nat} {st : St} {F : Nat → Prop} (w : World) (h : Arena w A st F) (hl : st.left ≠ 0) (hf : st.free.getLast? = some n) :
    Calls Tryz.prog 61 #[.pointer (some ⟨A, 0, none⟩)] w fun e w' => e = .returned (.tuple #[.int .i64 n, .int .i64 0]) ∧ Turns A st.new.2 F w w' := by
  have hL := fun n => Left_ok _ (h.extNo (drewN_ext w n))
  obtain ⟨pa, pc, fa, fc, ptrs, h⟩ := h
  obtain ⟨c0, c1, _, z0, z1, _⟩ := ArenaAt_cells h
  have hlt := h.wf.len
  have hfle := h.wf.freeLe
  have hb : ((st.left : Int) == 0) = false := by simp; omega
  have hmem := List.mem_of_getLast? hf
  have hn := (h.wf.free n).1 hmem
  have hL1 := List.length_pos_of_mem hmem
  have hb1 : (((st.free.length : Nat) : Int) == 0) = false := beq_eq_false_iff_ne.2 (by omega)
  obtain ⟨fb, rfl, _, hfblt, hfcap, hfc, _⟩ := ownsRow_open h.free hL1
  have hfc' : w.cell? ⟨fb, st.free.length - 1, none⟩ = some (.int .i64 n) := by
    rw [hfc _ (by rw [List.length_map]; omega)]; congr 1
    rw [List.getLast?_eq_getElem?] at hf
    have := (List.getElem?_eq_some_iff.1 hf).2
    simp only [List.getElem_map]; rw [this]; rfl
  obtain ⟨pb, rfl, _, hpblt, hpcap, hpc, hpf⟩ := ownsRow_open h.pages (by omega)
  obtain ⟨pv, hpv⟩ : ∃ v, w.cell? ⟨pb, n - 1, none⟩ = some v := ⟨_, hpc _ (by rw [h.ptrs.1]; omega)⟩
  have hne : pb ≠ A := (h.pages_block ⟨_, rfl, rfl⟩).1
  have k1 : ∀ m v O, (((w.drewN m).setCell ⟨A, 1, none⟩ v).alloc O).cell? ⟨pb, n - 1, none⟩ = some pv := fun m v O => by
    rw [← hpv]; exact ((((Ext.refl (Only A) w).drewN m).setCell (.inl (show Only A A from rfl)) v).alloc O).cell hpblt hne
  have k2 : ∀ m v O, (((w.drewN m).setCell ⟨A, 1, none⟩ v).alloc O).frozen? ⟨pb, n - 1, none⟩ = false := fun m v O => by
    rw [← hpf (n - 1)]; exact ((((Ext.refl (Only A) w).drewN m).setCell (.inl (show Only A A from rfl)) v).alloc O).frozen hpblt hne
  clear hpc
  have hb2 : (0 : Int) ≤ (n : Int) - 1 := by omega
  have hb3 : ((n : Int) - 1).toNat = n - 1 := by omega
  have hb4 : (n : Int) - 1 < st.pages.length := by omega
  have hs1 : IntKind.i64.wrap ((st.free.length : Int) - 1) = (st.free.length : Int) - 1 := IntWalk.i64_in _ (by omega)
  have hs2 : (0 : Int) ≤ (st.free.length : Int) - 1 := by omega
  have hs3 : ((st.free.length : Int) - 1).toNat = st.free.length - 1 := by omega
  have hs4 : (st.free.length : Int) - 1 < (st.free.length : Int) := by omega
  have hs5 : (st.free.length : Int) - 1 ≤ (fc : Int) := by omega
  have HL := Lib.hid (hL 0)
  have H := Lib.hid h
  have HF := Lib.hid hf
  clear hL hf h hmem hfc hpv hpf hne hfcap hpcap
  go_enter Tryz.func61, Tryz.ntmps61
  go_wp2_with (fail)
  refine HL.out.mono ?_; rintro e w' ⟨rfl, nq, rfl⟩
  go_wp2_with (fail)
  go_quiet (fail)
  go_wp2_with (fail)
  go_region
  go_wp2_with (fail)
  go_ret2
  refine ⟨rfl, ?_⟩
  exact Alloc_old_post H.out hl HF.out

/-- Alloc: a page, all 0. -/
theorem Alloc_ok {A : Nat} {st : St} {F : Nat → Prop} (w : World) (h : Arena w A st F) (hl : st.left ≠ 0) :
    Calls Tryz.prog 61 #[.pointer (some ⟨A, 0, none⟩)] w fun e w' => e = .returned (.tuple #[.int .i64 st.new.1, .int .i64 0]) ∧ Turns A st.new.2 F w w' := by
  cases hf : st.free.getLast? with
  | none =>
    have : st.new.1 = st.pages.length + 1 := by unfold St.new; rw [hf]
    rw [this]; exact Alloc_new w h hl (List.getLast?_eq_none_iff.1 hf)
  | some n =>
    have : st.new.1 = n := by unfold St.new; rw [hf]
    rw [this]; exact Alloc_old w h hl hf
end Go.Proofs.YtanglcdiebkmiaaGreat
