import Derived.Test.YtanglcdiebkmiaaGreatFind
import Derived.Deep.DeepCutAuto
set_option linter.unusedSimpArgs false
set_option linter.unusedVariables false
namespace Go.Proofs.YtanglcdiebkmiaaGreat
open Go.RowKit Tw

/-- A part of a node. -/
def part (n : Nd) (f t : Nat) : Nd := ⟨n.leaf, (n.recs.take t).drop f, if n.leaf then [] else (n.kids.take (t + 1)).drop f⟩

theorem RowAt.drop {w : World} {b off : Nat} {xs : List Value} (h : RowAt w (some ⟨b, off, none⟩) xs) (k : Nat) : RowAt w (some ⟨b, off + k, none⟩) (xs.drop k) := by
  rcases h with rfl | ⟨b', off', hb, hc⟩
  · exact .inl (by simp)
  · cases hb
    refine .inr ⟨b, off + k, rfl, fun i v hi => ?_⟩
    rw [List.getElem?_drop] at hi
    rw [Nat.add_assoc]; exact hc _ v hi

theorem str_one (u : Value) {l : List Str} (h : u ∈ l.map Value.string) : u.oneCell' = true := by
  obtain ⟨b, _, rfl⟩ := List.mem_map.1 h; rfl
theorem int_one (u : Value) {l : List Nat} (h : u ∈ l.map i64) : u.oneCell' = true := by
  obtain ⟨b, _, rfl⟩ := List.mem_map.1 h; rfl

/-- A struct of three cells, in its making. -/
theorem heap3 {w w' : World} {q : Nat} {T : TypeId} {x y z a b c : Value} (h : w.heap[q]? = some (.cells #[x, y, z] T (0, 0))) (hw : w' = ((w.setCell ⟨q, 0, none⟩ a).setCell ⟨q, 1, none⟩ b).setCell ⟨q, 2, none⟩ c) :
    w'.heap[q]? = some (.cells #[a, b, c] T (0, 0)) ∧ Ext (Only q) w w' := by
  subst hw
  refine ⟨by rw [heap_setCell_at (heap_setCell_at (heap_setCell_at h 0 a) 1 b) 2 c]; simp, ?_⟩
  exact (((Ext.refl (Only q) w).setCell (p := ⟨q, 0, none⟩) (.inl rfl) _).setCell (p := ⟨q, 1, none⟩) (.inl rfl) _).setCell (p := ⟨q, 2, none⟩) (.inl rfl) _

/-- Behind the first statement: x is block q. -/
def SomeAt (n : Nd) (f t : Nat) (w W0 wx : World) (q : Nat) : Prop := ∃ va vc,
  wx.heap[q]? = some (.cells #[.bool n.leaf, .slice va (t - f) vc, .slice none 0 0] 79 (0, 0)) ∧
  wx.ownsRow W0.heap.size 9 1 (.slice va (t - f) vc) (t - f) (((n.recs.take t).drop f).map .string) ∧ Ext No W0 wx ∧ W0.heap.size ≤ q

theorem SomeAt.mk1 {n : Nd} {f t : Nat} {w W0 w1 : World} {va : Option Addr} {vc : Nat} {xs : List Value} (hx : xs = ((n.recs.take t).drop f).map .string) (hl : xs.length = t - f) (hv : w1.ownsRow W0.heap.size 9 1 (.slice va xs.length vc) xs.length xs) (he : Ext No W0 w1) :
    SomeAt n f t w W0 (w1.alloc (.cells #[.bool n.leaf, .slice va (t - f) vc, .slice none 0 0] 79)) w1.heap.size := by
  subst hx
  rw [hl] at hv
  exact ⟨va, vc, heap_alloc_new _ _, hv.alloc _, he.alloc _, he.size⟩

theorem SomeAt.mk2 {n : Nd} {f t : Nat} {w W0 w1 : World} {va : Option Addr} {vc : Nat} {xs : List Value} (hx : xs = ((n.recs.take t).drop f).map .string) (hl : xs.length = t - f) (hv : w1.ownsRow (W0.alloc (.cells #[.bool false, .slice none 0 0, .slice none 0 0] 79)).drew.heap.size 9 1 (.slice va xs.length vc) xs.length xs)
    (hxx : w1.heap[W0.heap.size]? = some (.cells #[.bool false, .slice none 0 0, .slice none 0 0] 79 (0, 0))) (he : Ext No W0 w1) :
    SomeAt n f t w W0 (((w1.setCell ⟨W0.heap.size, 0, none⟩ (.bool n.leaf)).setCell ⟨W0.heap.size, 1, none⟩ (.slice va (t - f) vc)).setCell ⟨W0.heap.size, 2, none⟩ (.slice none 0 0)) W0.heap.size := by
  subst hx
  rw [hl] at hv
  obtain ⟨h1, h2⟩ := heap3 (a := .bool n.leaf) (b := .slice va (t - f) vc) (c := .slice none 0 0) hxx rfl
  have hsz : (W0.alloc (.cells #[.bool false, .slice none 0 0, .slice none 0 0] 79)).drew.heap.size = W0.heap.size + 1 := by show (World.alloc _ _).heap.size = _; rw [World.size_alloc]
  rw [hsz] at hv
  refine ⟨va, vc, h1, ownsRow_base (ownsRow_ext hv h2 fun k hk e => ?_) fun k hk => ?_, he.trans' h2 fun x hx e => ?_, Nat.le_refl _⟩
  · have := (hv.lt _ hk).1; unfold Only at e; omega
  · have := (hv.lt _ hk).1; omega
  · unfold Only at e; omega

theorem owns_ne_blk {w : World} {b n q : Nat} {e T : TypeId} {v : Value} {xs : List Value} {cs : Array Value} {fr : Nat × Nat} (h : w.ownsRow b e 1 v n xs) (hq : w.heap[q]? = some (.cells cs T fr)) (he : e ≠ T) : v.ownBlock ≠ some q := by
  intro hx
  rcases h.2 with ⟨rfl, _⟩ | ⟨g, c, cur, rfl, _, hg, _⟩
  · cases hx
  · simp [Value.ownBlock] at hx; subst hx; exact ne_of_elem hg hq he rfl

theorem some_post {n' : Nd} {w W0 W6 : World} {va ua : Option Addr} {vc uc : Nat} (h : NodeRows n' W0.heap.size W6 va vc ua uc) (he : Ext No w W6) (hs : W0.heap.size = w.heap.size + 2) :
    NodeOut n' w (.returned (nodeVal n' va vc ua uc)) (((W6.setCell ⟨w.heap.size + 1, 0, none⟩ (.bool n'.leaf)).setCell ⟨w.heap.size + 1, 1, none⟩ (.slice va n'.recs.length vc)).setCell ⟨w.heap.size + 1, 2, none⟩ (.slice ua n'.kids.length uc)) := by
  have e : Ext (Only (w.heap.size + 1)) W6 (((W6.setCell ⟨w.heap.size + 1, 0, none⟩ (.bool n'.leaf)).setCell ⟨w.heap.size + 1, 1, none⟩ (.slice va n'.recs.length vc)).setCell ⟨w.heap.size + 1, 2, none⟩ (.slice ua n'.kids.length uc)) :=
    (((Ext.refl (Only (w.heap.size + 1)) W6).setCell (p := ⟨w.heap.size + 1, 0, none⟩) (.inl rfl) _).setCell (p := ⟨w.heap.size + 1, 1, none⟩) (.inl rfl) _).setCell (p := ⟨w.heap.size + 1, 2, none⟩) (.inl rfl) _
  obtain ⟨h1, h2⟩ := h
  refine ⟨va, vc, ua, uc, rfl, ⟨ownsRow_base (ownsRow_ext h1 e fun k hk f => ?_) fun k hk => ?_, ownsRow_base (ownsRow_ext h2 e fun k hk f => ?_) fun k hk => ?_⟩, he.trans' e fun x hx f => ?_⟩
  · have := (h1.lt _ hk).1; unfold Only at f; omega
  · have := (h1.lt _ hk).1; omega
  · have := (h2.lt _ hk).1; unfold Only at f; omega
  · have := (h2.lt _ hk).1; omega
  · unfold Only at f; omega

set_option maxRecDepth 10000 in
set_option maxHeartbeats 1000000 in
theorem some_ok {rb kb kc f t rc : Nat} {ka : Option Addr} {n : Nd} (w : World) (h : RowAt w (some ⟨rb, 0, none⟩) (n.recs.map .string)) (h1 : f ≤ t) (h2 : t ≤ n.recs.length) (h3 : f < n.recs.length) (h4 : n.recs.length ≤ rc) (h5 : n.recs.length ≤ 1000000)
    (hk : n.leaf = false → ka = some ⟨kb, 0, none⟩ ∧ RowAt w (some ⟨kb, 0, none⟩) (n.kids.map i64) ∧ t + 1 ≤ n.kids.length ∧ n.kids.length ≤ kc ∧ n.kids.length ≤ 1000000) :
    Calls Tryz.prog 105 #[nodeVal n (some ⟨rb, 0, none⟩) rc ka kc, .int .i64 f, .int .i64 t] w (NodeOut (part n f t) w) := by
  have hrow : RowAt w (some ⟨rb, f, none⟩) (((n.recs.take t).drop f).map .string) := by
    have := RowAt.drop (h.take t) f
    rw [Nat.zero_add] at this
    rwa [List.map_drop, List.map_take]
  have hlen : (((n.recs.take t).drop f).map Value.string).length = t - f := by simp; omega
  have hC := fun w' (he : Ext No w w') c => CloneS (c := c) w' (hrow.extNo he) (fun u hu => str_one u hu) (by rw [hlen]; omega)
  rw [hlen] at hC
  have HC := Lib.hid hC
  have HLEN := Lib.hid hlen
  have HK := Lib.hid hk
  have hpl1 : (part n f t).recs.length = t - f := by unfold part; simp; omega
  have hpl2 : n.leaf = false → (part n f t).kids.length = t + 1 - f := fun e => by unfold part; simp only [e]; have := (hk e).2.2.1; simp; omega
  have HPL := Lib.hid (And.intro hpl1 hpl2)
  clear hpl1 hpl2
  clear hC hrow h hlen hk
  have hb1 : (f : Int) ≤ (t : Int) := by omega
  have hb2 : (t : Int) ≤ (rc : Int) := by omega
  have hb3 : ¬ (rc = f) := by omega
  unfold nodeVal
  generalize hlf : n.leaf = lf
  have HLF := Lib.hid hlf
  clear hlf
  go_enter Tryz.func105, Tryz.ntmps105
  go_upto_region 1 with (fail)
  obtain ⟨W0, hW0⟩ : ∃ W0, W0 = (w.alloc (.cells #[.bool lf, .slice (some ⟨rb, 0, none⟩) n.recs.length rc, .slice ka n.kids.length kc] 79)).alloc (.cells #[.bool false, .slice none 0 0, .slice none 0 0] 79) := ⟨_, rfl⟩
  have hbx0 : W0.heap[w.heap.size]? = some (.cells #[.bool lf, .slice (some ⟨rb, 0, none⟩) n.recs.length rc, .slice ka n.kids.length kc] 79 (0, 0)) := by
    rw [hW0, heap_alloc_lt (by simp)]; exact heap_alloc_new _ _
  have hrs0 : W0.heap[w.heap.size + 1]? = some (.cells #[.bool false, .slice none 0 0, .slice none 0 0] 79 (0, 0)) := by
    rw [hW0]
    have := heap_alloc_new (w.alloc (.cells #[.bool lf, .slice (some ⟨rb, 0, none⟩) n.recs.length rc, .slice ka n.kids.length kc] 79)) (.cells #[.bool false, .slice none 0 0, .slice none 0 0] 79)
    simpa using this
  have eW0 : Ext No w W0 := hW0 ▸ ((Ext.refl No w).alloc _).alloc _
  have hsz0 : W0.heap.size = w.heap.size + 2 := by rw [hW0]; simp
  rw [← hW0]
  have HBX := Lib.hid hbx0
  have HRS := Lib.hid hrs0
  have HEW := Lib.hid eW0
  have HSZ := Lib.hid hsz0
  have hszl : w.heap.size + 2 ≤ W0.heap.size := by omega
  have hszg : W0.heap.size ≤ w.heap.size + 2 := by omega
  have hne1 : ¬ (W0.heap.size = w.heap.size) := by omega
  have hne2 : ¬ (w.heap.size = W0.heap.size) := by omega
  have hne3 : ¬ (W0.heap.size = w.heap.size + 1) := by omega
  have hne4 : ¬ (w.heap.size + 1 = W0.heap.size) := by omega
  clear hbx0 hrs0 eW0 hW0 hsz0
  go_cut [7] (fun s7 wx => ∃ q : Nat, s7 = .pointer (some ⟨q, 0, none⟩) ∧ Hid (SomeAt n f t w W0 wx q))
  case first =>
    have k0 : W0.cell? ⟨w.heap.size, 0, none⟩ = some (.bool lf) := (cell_at HBX.out 0).trans rfl
    have k1 : W0.cell? ⟨w.heap.size, 1, none⟩ = some (.slice (some ⟨rb, 0, none⟩) n.recs.length rc) := (cell_at HBX.out 1).trans rfl
    go_region_held3 (fun w' => w'.cell? ⟨w.heap.size, 0, none⟩ = some (.bool lf) ∧ w'.cell? ⟨w.heap.size, 1, none⟩ = some (.slice (some ⟨rb, 0, none⟩) n.recs.length rc)) (first | go_keep) (first
    | (go_at_call 124; refine (HC.out W0.drew HEW.out.drew _).mono ?_; rintro e w1 ⟨v, rfl, hv, he⟩; have k0 : w1.cell? ⟨w.heap.size, 0, none⟩ = some (.bool lf) := (cell_at (he.heapNo (show W0.drew.heap[_]? = _ from HBX.out)) 0).trans rfl; have k1 : w1.cell? ⟨w.heap.size, 1, none⟩ = some (.slice (some ⟨rb, 0, none⟩) n.recs.length rc) := (cell_at (he.heapNo (show W0.drew.heap[_]? = _ from HBX.out)) 1).trans rfl; obtain ⟨va, vc, rfl, _, _, hvb⟩ := ownsRow_form hv; have HV := Lib.hid (SomeAt.mk1 (w := w) (W0 := W0) (n := n) rfl HLEN.out hv (Ext.trans (Ext.refl No W0).drew he)); clear hv he hvb)
    | (go_at_call 124; refine (HC.out (W0.alloc (.cells #[.bool false, .slice none 0 0, .slice none 0 0] 79)).drew (HEW.out.alloc _).drew _).mono ?_; rintro e w1 ⟨v, rfl, hv, he⟩; have hxx : w1.heap[W0.heap.size]? = some (.cells #[.bool false, .slice none 0 0, .slice none 0 0] 79 (0, 0)) := he.heapNo (heap_alloc_new W0 _); have x0 := (cell_at hxx 0).trans rfl; have x1 := (cell_at hxx 1).trans rfl; have x2 := (cell_at hxx 2).trans rfl; have y0 := frozen_at hxx 0; have y1 := frozen_at hxx 1; have y2 := frozen_at hxx 2; have k0 : w1.cell? ⟨w.heap.size, 0, none⟩ = some (.bool lf) := (cell_at (he.heapNo (show (W0.alloc _).heap[_]? = _ from (heap_alloc_lt (lt_of_heap HBX.out)).trans HBX.out)) 0).trans rfl; have k1 : w1.cell? ⟨w.heap.size, 1, none⟩ = some (.slice (some ⟨rb, 0, none⟩) n.recs.length rc) := (cell_at (he.heapNo (show (W0.alloc _).heap[_]? = _ from (heap_alloc_lt (lt_of_heap HBX.out)).trans HBX.out)) 1).trans rfl; obtain ⟨va, vc, rfl, _, _, hvb⟩ := ownsRow_form hv; have HV := Lib.hid (SomeAt.mk2 (w := w) (W0 := W0) (n := n) rfl HLEN.out hv hxx (Ext.trans ((Ext.refl No W0).alloc _).drew he)); clear hv he hvb hxx))
    all_goals (go_wp2_with (fail); go_meet; exact ⟨_, rfl, HLF.out ▸ HV.out⟩)
  case rest =>
    obtain ⟨q, rfl, hS⟩ := hcut
    obtain ⟨va, vc, hq, hv, he, hql⟩ := hS.out
    have hbx := he.heapNo HBX.out
    have hrs := he.heapNo HRS.out
    have q0 : wc.cell? ⟨q, 0, none⟩ = some (.bool n.leaf) := (cell_at hq 0).trans rfl
    have q1 : wc.cell? ⟨q, 1, none⟩ = some (.slice va (t - f) vc) := (cell_at hq 1).trans rfl
    have q2 : wc.cell? ⟨q, 2, none⟩ = some (.slice none 0 0) := (cell_at hq 2).trans rfl
    have b0 : wc.cell? ⟨w.heap.size, 0, none⟩ = some (.bool lf) := (cell_at hbx 0).trans rfl
    have b2 : wc.cell? ⟨w.heap.size, 2, none⟩ = some (.slice ka n.kids.length kc) := (cell_at hbx 2).trans rfl
    rw [HLF.out] at q0
    cases lf
    · obtain ⟨rfl, hkr, hk1, hk2, hk3⟩ := HK.out HLF.out
      have hkrow : RowAt wc (some ⟨kb, f, none⟩) (((n.kids.take (t + 1)).drop f).map i64) := by
        have := RowAt.drop (hkr.take (t + 1)) f
        rw [Nat.zero_add] at this
        rw [List.map_drop, List.map_take]
        exact this.extNo (HEW.out.trans he)
      have hklen : (((n.kids.take (t + 1)).drop f).map i64).length = t + 1 - f := by simp; omega
      have hCI := fun c => CloneI (c := c) wc hkrow (fun u hu => int_one u hu) (by rw [hklen]; omega)
      rw [hklen] at hCI
      have HCI := Lib.hid hCI
      have HKL := Lib.hid hklen
      have HFA := Lib.hid (And.intro hq (And.intro hv (And.intro he (And.intro hbx hrs))))
      clear hkr hkrow hCI hklen hq hv he hbx hrs
      have g1 : IntKind.i64.wrap ((t : Int) + 1) = (t : Int) + 1 := IntWalk.i64_in _ (by omega)
      have g2 : (f : Int) ≤ (t : Int) + 1 := by omega
      have g3 : (t : Int) + 1 ≤ (kc : Int) := by omega
      have g4 : ((t : Int) + 1).toNat = t + 1 := by omega
      have g5 : (0 : Int) ≤ (t : Int) + 1 := by omega
      have g6 : ¬ (kc = f) := by omega
      go_wp2_with (fail)
      refine (HCI.out _).mono ?_
      rintro e w5 ⟨v5, rfl, hv5, he5⟩
      obtain ⟨ua, uc, rfl, _, _, _⟩ := ownsRow_form hv5
      rw [HKL.out] at hv5 ⊢
      obtain ⟨hq, hv, he, hbx, hrs⟩ := HFA.out
      have hq5 := he5.heapNo hq
      have hrs5 := he5.heapNo hrs
      have q0 : w5.cell? ⟨q, 0, none⟩ = some (.bool n.leaf) := (cell_at hq5 0).trans rfl
      rw [HLF.out] at q0
      have q1 : w5.cell? ⟨q, 1, none⟩ = some (.slice va (t - f) vc) := (cell_at hq5 1).trans rfl
      have q2 : w5.cell? ⟨q, 2, none⟩ = some (.slice none 0 0) := (cell_at hq5 2).trans rfl
      have qf := frozen_at hq5 2
      obtain ⟨W6, hW6⟩ : ∃ W6, W6 = w5.setCell ⟨q, 2, none⟩ (.slice ua (t + 1 - f) uc) := ⟨_, rfl⟩
      have e6 : Ext (Only q) w5 W6 := hW6 ▸ (Ext.refl (Only q) w5).setCell (p := ⟨q, 2, none⟩) (.inl rfl) _
      have hq6 : W6.heap[q]? = some (.cells #[.bool n.leaf, .slice va (t - f) vc, .slice ua (t + 1 - f) uc] 79 (0, 0)) := by
        rw [hW6, heap_setCell_at hq5]; simp
      have r0 : w5.cell? ⟨w.heap.size + 1, 0, none⟩ = some (.bool false) := (cell_at hrs5 0).trans rfl
      have r1 : w5.cell? ⟨w.heap.size + 1, 1, none⟩ = some (.slice none 0 0) := (cell_at hrs5 1).trans rfl
      have r2 : w5.cell? ⟨w.heap.size + 1, 2, none⟩ = some (.slice none 0 0) := (cell_at hrs5 2).trans rfl
      have f0 := frozen_at hrs5 0
      have f1 := frozen_at hrs5 1
      have f2 := frozen_at hrs5 2
      have hq1 : ¬ (q = w.heap.size + 1) := by omega
      have hq2 : ¬ (w.heap.size + 1 = q) := by omega
      have e56 : Ext (Only q) wc W6 := he5.noTrans e6
      have hrows : NodeRows (part n f t) W0.heap.size W6 va vc ua uc := by
        unfold NodeRows
        rw [HPL.out.1, HPL.out.2 HLF.out]
        refine ⟨ownsRow_ext hv e56 fun k hk e => ?_, ?_⟩
        · unfold Only at e; subst e; exact owns_ne_blk hv hq (by decide) hk
        · have : (part n f t).kids = (n.kids.take (t + 1)).drop f := by unfold part; rw [HLF.out]; rfl
          rw [this]
          refine ownsRow_base (ownsRow_ext hv5 e6 fun k hk e => ?_) fun k hk => ?_
          · unfold Only at e; subst e; have := (hv5.lt _ hk).1; have := lt_of_heap hq; omega
          · have := (hv5.lt _ hk).1; have := he.size; omega
      have HFIN := Lib.hid (some_post hrows (HEW.out.trans (he.trans' e56 fun x hx e => by unfold Only at e; omega)) HSZ.out)
      have hpl : (part n f t).leaf = false := by unfold part; exact HLF.out
      have HV := Lib.hid (show nodeVal (part n f t) va vc ua uc = .agg #[.bool false, .slice va (t - f) vc, .slice ua (t + 1 - f) uc] by unfold nodeVal; rw [hpl, HPL.out.1, HPL.out.2 HLF.out])
      rw [HV.out, hpl] at HFIN
      rw [HPL.out.1, HPL.out.2 HLF.out] at HFIN
      clear hq hv he hbx hrs hq5 hrs5 hq6 e6 e56 hrows hpl hv5 he5 HFA
      subst hW6
      go_wp2_with (fail)
      refine bodyPost_ret (v := .agg #[.bool false, .slice va (t - f) vc, .slice ua (t + 1 - f) uc]) (by simp [results, Tryz.results105, go_sem, *]) rfl ?_
      exact HFIN.out
    · have hrows : NodeRows (part n f t) W0.heap.size wc va vc none 0 := by
        unfold NodeRows
        have : (part n f t).kids = [] := by unfold part; rw [HLF.out]; rfl
        rw [HPL.out.1, this]
        exact ⟨hv, World.ownsRow_nil _ _ _ _⟩
      have HFIN := Lib.hid (some_post hrows (HEW.out.trans he) HSZ.out)
      have hpl : (part n f t).leaf = true := by unfold part; exact HLF.out
      have hpk : (part n f t).kids.length = 0 := by unfold part; rw [HLF.out]; rfl
      have HV := Lib.hid (show nodeVal (part n f t) va vc none 0 = .agg #[.bool true, .slice va (t - f) vc, .slice none 0 0] by unfold nodeVal; rw [hpl, HPL.out.1, hpk])
      rw [HV.out, hpl] at HFIN
      rw [HPL.out.1, hpk] at HFIN
      have r0 : wc.cell? ⟨w.heap.size + 1, 0, none⟩ = some (.bool false) := (cell_at hrs 0).trans rfl
      have r1 : wc.cell? ⟨w.heap.size + 1, 1, none⟩ = some (.slice none 0 0) := (cell_at hrs 1).trans rfl
      have r2 : wc.cell? ⟨w.heap.size + 1, 2, none⟩ = some (.slice none 0 0) := (cell_at hrs 2).trans rfl
      have f0 := frozen_at hrs 0
      have f1 := frozen_at hrs 1
      have f2 := frozen_at hrs 2
      have hq1 : ¬ (q = w.heap.size + 1) := by omega
      have hq2 : ¬ (w.heap.size + 1 = q) := by omega
      clear hq hv he hbx hrs hrows hpl hpk
      go_wp2_with (fail)
      refine bodyPost_ret (v := .agg #[.bool true, .slice va (t - f) vc, .slice none 0 0]) (by simp [results, Tryz.results105, go_sem, *]) rfl ?_
      exact HFIN.out
end Go.Proofs.YtanglcdiebkmiaaGreat
