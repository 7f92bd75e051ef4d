import Derived.Test.YtanglcdiebkmiaaGreatSl
import Derived.Laws.Cover3
set_option linter.unusedSimpArgs false
set_option linter.unusedVariables false
namespace Go.Proofs.YtanglcdiebkmiaaGreat
open Go.RowKit Tw

/-- Two results: a row of the call's own, and OK. -/
def OwnedOK (T : TypeId) (xs : List Value) (w : World) (e : Ending) (w' : World) : Prop :=
  ∃ v, e = .returned (.tuple #[v, .int .i64 0]) ∧ w'.ownsRow w.heap.size T 1 v xs.length xs ∧ Ext No w w'

theorem u8_one (u : Value) {l : List UInt8} (h : u ∈ l.map u8) : u.oneCell' = true := by
  obtain ⟨b, _, rfl⟩ := List.mem_map.1 h; rfl

set_option maxHeartbeats 400000 in
theorem Load_ok {A id : Nat} {st : St} {F : Nat → Prop} {p : Pg} (w : World) (h : Arena w A st F) (hp : st.get id = some p) :
    Calls Tryz.prog 42 #[.pointer (some ⟨A, 0, none⟩), .int .i64 id] w (OwnedOK 5 (p.bytes.map u8) w) := by
  have hI := is_ok w h hp
  obtain ⟨pa, pc, fa, fc, ptrs, h⟩ := h
  obtain ⟨h1, h2, h3⟩ := St.get_some hp
  have hlen := h.wf.len
  obtain ⟨g, hg1, hg2, _⟩ := h.ptrs.2 (id - 1) (some p) h3
  obtain ⟨b, rfl, _, hblt, hcap, hc, _⟩ := ownsRow_open h.pages (by omega)
  have hcell : w.cell? ⟨b, id - 1, none⟩ = some (.pointer (some ⟨g, 0, none⟩)) := by
    rw [hc (id - 1) (by rw [h.ptrs.1]; omega)]; congr 1; exact (List.getElem?_eq_some_iff.1 hg1).2
  obtain ⟨c0, _⟩ := ArenaAt_cells h
  have hpl := Pg.len (h.wf.ok id p hp)
  have hrow : RowAt w (some ⟨g, 0, none⟩) (p.bytes.map u8) := .inr ⟨g, 0, rfl, fun i v hi => by rw [cell_at hg2]; simpa [cellsOf] using hi⟩
  have hxl : (p.bytes.map u8).length = 1024 := by rw [List.length_map]; exact hpl
  have hC := CloneB (c := 1024) w hrow (fun u hu => u8_one u hu) (by rw [hxl]; decide)
  rw [hxl] at hC
  have hb1 : (0 : Int) ≤ (id : Int) - 1 := by omega
  have hb2 : ((id : Int) - 1).toNat = id - 1 := by omega
  have hb3 : (id : Int) - 1 < st.pages.length := by omega
  have HI := Lib.hid hI
  have HC := Lib.hid hC
  have HX := Lib.hid hxl
  clear hc hg1 hg2 h h3 hI hC hp hpl hrow hxl hcap
  go_enter Tryz.func42, Tryz.ntmps42
  go_wp2_with (fail)
  refine HI.out.mono ?_; rintro e w' ⟨rfl, rfl⟩
  go_wp2_with (fail)
  refine HC.out.mono ?_; rintro e w' ⟨v, rfl, hv, he⟩
  go_wp2_with (fail)
  go_ret2
  exact ⟨v, rfl, hv, he⟩

theorem Store_post {A pb id g : Nat} {st : St} {F : Nat → Prop} {w W : World} {fa : Option Addr} {pc fc : Nat} {ptrs : List Value} {p q : Pg} (h : ArenaAt w A st F (some ⟨pb, 0, none⟩) pc fa fc ptrs) (hp : st.get id = some p) (hq : q.OK)
    (e1 : Ext No w W) (hg : W.heap[g]? = some (.cells (cellsOf q.bytes) 133 (0, 0))) (hgn : w.heap.size ≤ g) :
    Turns A (st.put id q) F w (W.setCell ⟨pb, id - 1, none⟩ (.pointer (some ⟨g, 0, none⟩))) := by
  have hpA : pb ≠ A := (h.pages_block ⟨_, rfl, rfl⟩).1
  have hplt := h.lt _ (h.inP pb ⟨_, rfl, rfl⟩)
  obtain ⟨h1, h2, h3⟩ := St.get_some hp
  have e2 : Ext (Blk (some ⟨pb, 0, none⟩)) w (W.setCell ⟨pb, id - 1, none⟩ (.pointer (some ⟨g, 0, none⟩))) := (e1.ofNo).setCell (.inl ⟨_, rfl, rfl⟩) _
  have hp1 := ownsRow_set (i := id - 1) (ownsRow_ext h.pages e1 fun _ _ f => f) (.pointer (some ⟨g, 0, none⟩))
  refine ArenaAt.update (pa' := some ⟨pb, 0, none⟩) (pc' := pc) (fa' := fa) (fc' := fc) (ptrs' := ptrs.set (id - 1) (.pointer (some ⟨g, 0, none⟩))) h (e2.mono fun k hk => .inr (.inl hk)) (h.wf.put (by rw [hp]; rfl) hq) ?_ ?_ ?_ ?_ ?_ ?_ ?_
  · rw [heap_setCell_ne hpA.symm, e1.heapNo h.blk]
    simp [St.put]
  · simpa [St.put] using hp1
  · exact ownsRow_ext h.free e2 fun k hk e => (h.free_block (blk_own.2 hk)).2 e
  · simp [St.put, h.ptrs.1]
  · intro i o ho
    simp only [St.put] at ho
    by_cases hi : i = id - 1
    · subst hi
      rw [List.getElem?_set_self (by omega)] at ho
      simp at ho; subst ho
      refine .inr ⟨g, ?_, ?_, hgn⟩
      · rw [List.getElem?_set_self (by rw [h.ptrs.1]; omega)]
      · rw [heap_setCell_ne (by omega)]; exact hg
    · rw [List.getElem?_set_ne (Ne.symm hi)] at ho
      have hp := h.ptrs.2 i o ho
      rw [List.getElem?_set_ne (Ne.symm hi)]
      cases o with
      | none => exact hp
      | some p => exact .inl ⟨i, ho, rfl⟩
  · exact fun k hk => .inl hk
  · exact fun k hk => .inl hk

set_option maxHeartbeats 400000 in
theorem Store_ok {A id b c : Nat} {st : St} {F : Nat → Prop} {p q : Pg} (w : World) (h : Arena w A st F) (hp : st.get id = some p) (hq : q.OK) {fr : Nat × Nat} (hrow : w.heap[b]? = some (.cells (cellsOf q.bytes) 5 fr)) :
    Calls Tryz.prog 85 #[.pointer (some ⟨A, 0, none⟩), .int .i64 id, .slice (some ⟨b, 0, none⟩) 1024 c] w fun e w' => e = .returned (.int .i64 0) ∧ Turns A (st.put id q) F w w' := by
  have hI := is_ok w h hp
  obtain ⟨pa, pc, fa, fc, ptrs, h⟩ := h
  obtain ⟨h1, h2, h3⟩ := St.get_some hp
  have hlen := h.wf.len
  obtain ⟨pb, rfl, _, hblt, hcap, hc, hfr⟩ := ownsRow_open h.pages (by omega)
  obtain ⟨pv, hpv⟩ : ∃ v, w.cell? ⟨pb, id - 1, none⟩ = some v := ⟨_, hc _ (by rw [h.ptrs.1]; omega)⟩
  obtain ⟨c0, _⟩ := ArenaAt_cells h
  have HI := Lib.hid hI
  have H := Lib.hid h
  have HP := Lib.hid hp
  have HR := Lib.hid hrow
  obtain ⟨W1, hW⟩ : ∃ W1, W1 = (w.alloc (.cells Tryz.zeroCells133 133)).setRow w.heap.size (cellsOf q.bytes) := ⟨_, rfl⟩
  have eW : Ext No w W1 := hW ▸ Ext.setRow ((Ext.refl _ _).alloc _) (.inr (Nat.le_refl _)) _
  have k0 : W1.cell? ⟨A, 0, none⟩ = some (.slice (some ⟨pb, 0, none⟩) st.pages.length pc) := eW.cellSome c0 (fun f => f)
  have k1 : W1.cell? ⟨pb, id - 1, none⟩ = some pv := eW.cellSome hpv (fun f => f)
  have k2 : W1.frozen? ⟨pb, id - 1, none⟩ = false := (eW.frozen hblt (fun f => f)).trans (hfr _)
  have HW := Lib.hid hW
  have HE := Lib.hid eW
  clear hI h hp hrow hc hfr hW eW
  have hb1 : (0 : Int) ≤ (id : Int) - 1 := by omega
  have hb2 : ((id : Int) - 1).toNat = id - 1 := by omega
  have hb3 : (id : Int) - 1 < st.pages.length := by omega
  have hsz : (Tryz.prog.info? 133).map (·.size) = some (cellsOf q.bytes).size := by rw [size_cellsOf, Pg.len hq]; kernel_rfl
  have HS := Lib.hid hsz
  have HZ := Lib.hid (show Tryz.zeroCells133.size = (cellsOf q.bytes).size by rw [zeroPage, size_cellsOf, size_cellsOf, Pg.len hq]; exact List.length_replicate)
  have HA := Lib.hid (show (cellsOf q.bytes).all (·.oneCell') = true by rw [Array.all_eq_true_iff_forall_mem]; intro u hu; exact u8_one u (by simpa [cellsOf] using hu))
  have hat : ∀ w, (Instr.arrayAt 133 (.slice (some ⟨b, 0, none⟩) 1024 c)).run Tryz.prog w = .ok (.pointer (some ⟨b, 0, none⟩)) w := fun w => run_arrayAt w _ _ _ _ _ _ Tryz.underlying133 (Nat.le_refl _)
  clear hsz
  go_enter Tryz.func85, Tryz.ntmps85
  go_wp2_with (fail)
  refine HI.out.mono ?_; rintro e w' ⟨rfl, rfl⟩
  go_wp2_with (first
    | ((with_reducible show wpList _ _ _ (⟨_, .load 133 _, _, _, _, _⟩ :: _) _ _); refine wpList_load_row rfl 133 _ rfl b rfl 5 _ fr _ HR.out Tryz.underlying133 rfl HS.out ?_)
    | ((with_reducible show wpList _ _ _ (⟨_, .store 133 _ _, _, _, _, _⟩ :: _) _ _); refine wpList_store_row rfl 133 _ _ rfl w.heap.size (cellsOf q.bytes) rfl rfl 133 Tryz.zeroCells133 (heap_alloc_new _ _) HS.out HZ.out HA.out ?_; rw [← HW.out]))
  go_ret
  exact ⟨rfl, Store_post H.out HP.out hq HE.out (HW.out ▸ setRow_heap _ _ _ _ _ _ (heap_alloc_new _ _)) (Nat.le_refl _)⟩

theorem Free_post {A pb id : Nat} {st : St} {F : Nat → Prop} {w w' : World} {fa fa' : Option Addr} {pc fc fc' : Nat} {ptrs : List Value} {p : Pg} (h : ArenaAt w A st F (some ⟨pb, 0, none⟩) pc fa fc ptrs) (hp : st.get id = some p)
    {O : Obj} (hown : w'.ownsRow 0 3 1 (.slice fa' (st.free.length + 1) fc') (st.free.length + 1) (st.free.map i64 ++ [i64 id]))
    (hg : ((w.setCell ⟨pb, id - 1, none⟩ (.pointer none)).alloc O).grownBy w' (Value.slice fa st.free.length fc).ownBlock)
    (hat : (Value.slice fa' (st.free.length + 1) fc').ownBlock = (Value.slice fa st.free.length fc).ownBlock ∨ (Value.slice fa' (st.free.length + 1) fc').ownBlock = some (w.heap.size + 1)) :
    w'.cell? ⟨A, 1, none⟩ = some (.slice fa st.free.length fc) ∧ w'.frozen? ⟨A, 1, none⟩ = false ∧
    Turns A (st.drop id) F w (w'.setCell ⟨A, 1, none⟩ (.slice fa' (st.free.length + 1) fc')) := by
  have hpA : pb ≠ A := (h.pages_block ⟨_, rfl, rfl⟩).1
  have hpF : ¬ Blk fa pb := (h.pages_block ⟨_, rfl, rfl⟩).2
  have hAlt := lt_of_heap h.blk
  have hplt := h.lt _ (h.inP pb ⟨_, rfl, rfl⟩)
  obtain ⟨h1, h2, h3⟩ := St.get_some hp
  have e0 : Ext (Only pb) w ((w.setCell ⟨pb, id - 1, none⟩ (.pointer none)).alloc O) := ((Ext.refl _ w).setCell (.inl (show Only pb pb from rfl)) _).alloc O
  have e1 : Ext (fun k => k = pb ∨ Blk fa k) w w' := (e0.mono fun k hk => .inl hk).grownBy hg fun k hk => .inl (.inr (blk_own.2 hk))
  have hA : w'.heap[A]? = _ := e1.heap h.blk fun hk => hk.elim (fun e => hpA e.symm) fun e => (h.free_block e).1 rfl
  have hA' : ∀ k, (Value.slice fa' (st.free.length + 1) fc').ownBlock = some k → k ≠ A := fun k hk => by
    rcases hat with e | e
    · rw [e] at hk; exact (h.free_block (blk_own.2 hk)).1
    · rw [e] at hk; simp at hk; omega
  have e4 : Ext (Hot A (some ⟨pb, 0, none⟩) fa) w (w'.setCell ⟨A, 1, none⟩ (.slice fa' (st.free.length + 1) fc')) :=
    (e1.mono fun k hk => hk.elim (fun e => .inr (.inl ⟨_, rfl, e.symm⟩)) fun e => .inr (.inr e)).setCell (.inl (.inl rfl)) _
  have e5 : Ext (Only A) w' (w'.setCell ⟨A, 1, none⟩ (.slice fa' (st.free.length + 1) fc')) := (Ext.refl _ _).setCell (.inl (show Only A A from rfl)) _
  refine ⟨by rw [cell_at hA]; rfl, frozen_at hA 1, ?_⟩
  refine ArenaAt.update (pa' := some ⟨pb, 0, none⟩) (pc' := pc) (fa' := fa') (fc' := fc') (ptrs' := ptrs.set (id - 1) (.pointer none)) h e4 (h.wf.drop (by rw [hp]; rfl)) ?_ ?_ ?_ ?_ ?_ ?_ ?_
  · rw [heap_setCell_at hA]; simp [St.drop]
  · have e6 : Ext (fun k => k = A ∨ Blk fa k) (w.setCell ⟨pb, id - 1, none⟩ (.pointer none)) (w'.setCell ⟨A, 1, none⟩ (.slice fa' (st.free.length + 1) fc')) :=
      (((Ext.refl _ _).alloc O).grownBy hg fun k hk => .inl (.inr (blk_own.2 hk))).setCell (.inl (.inl rfl)) _
    have := ownsRow_ext (ownsRow_set (i := id - 1) h.pages (.pointer none)) e6 fun k hk e => by
      simp [Value.ownBlock] at hk; subst hk
      exact e.elim hpA hpF
    simpa [St.drop] using this
  · simp only [St.drop, List.length_append, List.length_cons, List.length_nil, List.map_append, List.map_cons, List.map_nil]
    exact ownsRow_ext hown e5 fun k hk e => hA' k hk e
  · simp [St.drop, h.ptrs.1]
  · intro i o ho
    simp only [St.drop] at ho
    by_cases hi : i = id - 1
    · subst hi
      rw [List.getElem?_set_self (by omega)] at ho
      simp at ho; subst ho
      show (ptrs.set (id - 1) (.pointer none))[id - 1]? = _
      rw [List.getElem?_set_self (by rw [h.ptrs.1]; omega)]
    · rw [List.getElem?_set_ne (Ne.symm hi)] at ho
      have hp := h.ptrs.2 i o ho
      rw [List.getElem?_set_ne (Ne.symm hi)]
      cases o with
      | none => exact hp
      | some p => exact .inl ⟨i, ho, rfl⟩
  · exact fun k hk => .inl hk
  · intro k hk
    rw [blk_own (n := st.free.length + 1) (c := fc')] at hk
    rcases hat with e | e
    · rw [e] at hk; exact .inl (blk_own.2 hk)
    · rw [e] at hk; simp at hk; exact .inr (by omega)

set_option maxHeartbeats 400000 in
theorem Free_ok {A id : Nat} {st : St} {F : Nat → Prop} {p : Pg} (w : World) (h : Arena w A st F) (hp : st.get id = some p) :
    Calls Tryz.prog 55 #[.pointer (some ⟨A, 0, none⟩), .int .i64 id] w fun e w' => e = .returned (.int .i64 0) ∧ Turns A (st.drop id) F w w' := by
  have hI := is_ok w h hp
  obtain ⟨pa, pc, fa, fc, ptrs, h⟩ := h
  obtain ⟨h1, h2, h3⟩ := St.get_some hp
  have hlen := h.wf.len
  have hfle := h.wf.freeLe
  obtain ⟨pb, rfl, _, hblt, hcap, hc, hfr⟩ := ownsRow_open h.pages (by omega)
  obtain ⟨pv, hpv⟩ : ∃ v, w.cell? ⟨pb, id - 1, none⟩ = some v := ⟨_, hc _ (by rw [h.ptrs.1]; omega)⟩
  obtain ⟨c0, c1, _, _, z1, _⟩ := ArenaAt_cells h
  have hpA : pb ≠ A := (h.pages_block ⟨_, rfl, rfl⟩).1
  have hk2 := hfr (id - 1)
  have hown := ownsRow_ext h.free ((Ext.refl (Only pb) w).setCell (p := ⟨pb, id - 1, none⟩) (.inl (show Only pb pb from rfl)) (.pointer none)) fun k hk e => (h.free_block (blk_own.2 hk)).2 ⟨_, rfl, e.symm⟩
  have HI := Lib.hid hI
  have H := Lib.hid h
  have HP := Lib.hid hp
  have HO := Lib.hid hown
  clear hI h hp hc hfr hown
  have hb1 : (0 : Int) ≤ (id : Int) - 1 := by omega
  have hb2 : ((id : Int) - 1).toNat = id - 1 := by omega
  have hb3 : (id : Int) - 1 < st.pages.length := by omega
  have hx0 : (w.setCell ⟨pb, id - 1, none⟩ (.pointer none)).cell? ⟨A, 1, none⟩ = some (.slice fa st.free.length fc) := by
    rw [← c1]; exact ((Ext.refl (Only pb) w).setCell (.inl (show Only pb pb from rfl)) _).cell (H.out.lt _ H.out.inA) (fun e => hpA e.symm)
  obtain ⟨i0, hi, hz0, hz1, hz2⟩ := info_parts info_int
  go_enter Tryz.func55, Tryz.ntmps55
  go_wp2_with (fail)
  refine HI.out.mono ?_; rintro e w' ⟨rfl, rfl⟩
  go_wp2_with (at_builtin; refine wpList_append_own_at _ rfl _ _ 41 rfl 0 3 i0 (.int .i64 0) 1 8 Tryz.underlying41 hi hz0 hz1 hz2 rfl (by decide) _ _ _ rfl (HO.out.alloc _) ⟨w.heap.size, 0, none⟩ 1 1 [.int .i64 id] rfl rfl ?c1 ?c2 ?c3 ?c4 ?c5 ?_)
  case c1 => exact cell_one_new' _ _ _ (by simp)
  case c2 => intro u hu; simp at hu; subst hu; rfl
  case c3 => unfold maxLen; omega
  case c4 => omega
  case c5 => omega
  intro v' w1 hown' hg _ hat
  obtain ⟨fa', fc', rfl, _, _, _⟩ := ownsRow_form hown'
  obtain ⟨d0, y0, hT⟩ := Free_post H.out HP.out hown' hg hat
  have HT := Lib.hid hT
  clear hT hat hg hown'
  go_wp2
  go_ret
  exact ⟨rfl, HT.out⟩

/-- What the quota becomes. -/
theorem Limit_post {A : Nat} {st : St} {F : Nat → Prop} {w : World} {q : Nat} (h : Arena w A st F) (hq : q ≤ 4096) : Turns A { st with quota := q } F w (w.setCell ⟨A, 2, none⟩ (.int .i64 q)) := by
  obtain ⟨pa, pc, fa, fc, ptrs, h⟩ := h
  have e1 : Ext (Only A) w (w.setCell ⟨A, 2, none⟩ (.int .i64 q)) := (Ext.refl _ w).setCell (.inl (show Only A A from rfl)) _
  refine ArenaAt.update (pa' := pa) (pc' := pc) (fa' := fa) (fc' := fc) (ptrs' := ptrs) h (e1.mono fun k hk => .inl hk) ⟨hq, h.wf.len, h.wf.nodup, h.wf.free, h.wf.ok⟩ ?_ ?_ ?_ h.ptrs.1 ?_ (fun k hk => .inl hk) fun k hk => .inl hk
  · rw [heap_setCell_at h.blk]; simp
  · exact ownsRow_ext h.pages e1 fun k hk e => (h.pages_block (blk_own.2 hk)).1 e
  · exact ownsRow_ext h.free e1 fun k hk e => (h.free_block (blk_own.2 hk)).1 e
  · intro i o ho
    have hp := h.ptrs.2 i o ho
    cases o with
    | none => exact hp
    | some p => exact .inl ⟨i, ho, rfl⟩

set_option maxHeartbeats 400000 in
theorem Limit_ok {A : Nat} {st : St} {F : Nat → Prop} {q : Nat} (w : World) (h : Arena w A st F) (hq : q ≤ 4096) :
    Calls Tryz.prog 19 #[.pointer (some ⟨A, 0, none⟩), .int .i64 q] w fun e w' => e = .returned (.int .i64 0) ∧ Turns A { st with quota := q } F w w' := by
  have hT := Limit_post h hq
  obtain ⟨pa, pc, fa, fc, ptrs, h⟩ := h
  obtain ⟨_, _, c2, _, _, z2⟩ := ArenaAt_cells h
  have HT := Lib.hid hT
  clear hT h
  have hb1 : decide ((q : Int) < 0) = false := by simp
  have hb2 : decide ((4096 : Int) < (q : Int)) = false := by simp; omega
  go_enter Tryz.func19, Tryz.ntmps19
  go_wp2
  go_ret
  exact ⟨rfl, HT.out⟩

/-- An arena that was just made. -/
def St.empty (q : Nat) : St := { pages := [], free := [], quota := q }

theorem New_post (q : Nat) (w : World) (hq : q ≤ 4096) : Arena (w.alloc (.cells #[.slice none 0 0, .slice none 0 0, .int .i64 q] 71)) w.heap.size (St.empty q) (Only w.heap.size) :=
  ⟨none, 0, none, 0, [], ⟨hq, by simp [St.empty], by simp [St.empty], fun i => by simp [St.empty]; omega, fun i p hp => by simp [St.get, St.empty] at hp⟩,
    heap_alloc_new _ _, World.ownsRow_nil _ _ _ _, World.ownsRow_nil _ _ _ _, ⟨rfl, fun i o ho => by simp [St.empty] at ho⟩, rfl, fun k hk => by simp [Blk] at hk, fun k hk => by simp [Blk] at hk, fun k hk => by cases hk; simp⟩

def NewPost (q : Nat) (w : World) (e : Ending) (w' : World) : Prop :=
  ∃ A F, e = .returned (.tuple #[.pointer (some ⟨A, 0, none⟩), .int .i64 0]) ∧ Arena w' A (St.empty q) F ∧ Ext No w w' ∧ ∀ k, F k → w.heap.size ≤ k

set_option maxHeartbeats 400000 in
theorem New_ok {q : Nat} (w : World) (hq : q ≤ 4096) : Calls Tryz.prog 11 #[.int .i64 q] w (NewPost q w) := by
  have h0 := New_post 0 w (by omega)
  have hL := Limit_ok _ h0 hq
  have HL := Lib.hid hL
  clear hL h0
  go_enter Tryz.func11, Tryz.ntmps11
  go_wp2_with (fail)
  refine HL.out.mono ?_; rintro e w' ⟨rfl, F', h1, h2, h3⟩
  have H := Lib.hid h1
  clear h1
  go_wp2
  go_ret2
  exact ⟨_, F', rfl, H.out, ((Ext.refl No w).alloc _).trans' h2 (fun x hx e => by cases e; omega), fun k hk => (h3 k hk).elim (fun e => by cases e; exact Nat.le_refl _) fun e => by simp at e; omega⟩
end Go.Proofs.YtanglcdiebkmiaaGreat
