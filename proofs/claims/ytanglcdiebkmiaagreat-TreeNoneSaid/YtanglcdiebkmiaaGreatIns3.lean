/- Insert$1, Insert. -/
import Derived.Test.YtanglcdiebkmiaaGreatInsLaw
import Derived.Test.YtanglcdiebkmiaaGreatIns2
set_option linter.unusedSimpArgs false
set_option linter.unusedVariables false
namespace Go.Proofs.YtanglcdiebkmiaaGreat
open Go.RowKit Tw

/-- What the inner function of Insert finds: the boxes of t and s. -/
structure InBox (w : World) (tb sb T : Nat) (s : Str) : Prop where
  t : w.heap[tb]? = some (.cells #[.pointer (some ⟨T, 0, none⟩)] 29 (0, 0))
  s : w.heap[sb]? = some (.cells #[.string s] 9 (0, 0))

theorem InBox.ext {w w' : World} {tb sb T : Nat} {s : Str} {F : Nat → Prop} (h : InBox w tb sb T s) (he : Ext F w w') (h1 : ¬ F tb) (h2 : ¬ F sb) : InBox w' tb sb T s := ⟨he.heap h.t h1, he.heap h.s h2⟩

theorem two_a (w : World) (o1 o2 : Obj) : ((w.alloc o1).alloc o2).drew.heap[w.heap.size]? = some o1 := (heap_alloc_lt (by simp)).trans (heap_alloc_new w o1)
theorem two_b (w : World) (o1 o2 : Obj) : ((w.alloc o1).alloc o2).drew.heap[w.heap.size + 1]? = some o2 := by
  have h := heap_alloc_new (w.alloc o1) o2
  have e : (w.alloc o1).heap.size = w.heap.size + 1 := by simp
  rw [e] at h; exact h

/-- What the inner function does: Q0 where nothing was split off, Q1 where something was. -/
def RootW (s : Str) (h : Nat) (st : St) (root : Nat) (Q0 : St → Prop) (Q1 : Nat → St → Prop) : Prop :=
  InsW s h st root (fun sep right st' => if right = 0 then Q0 st' else
    st'.left ≠ 0 ∧ (⟨false, [sep], [root, right]⟩ : Nd).Right ∧ Q1 st'.new.1 (st'.new.2.put st'.new.1 (.node ⟨false, [sep], [root, right]⟩)))

def InsRes (T A root h k : Nat) (F : Nat → Prop) (Q0 : St → Prop) (Q1 : Nat → St → Prop) (w w' : World) : Prop :=
  ∃ st' F' root' h', Arena w' A st' F' ∧ Ext (fun x => F x ∨ x = T) w w' ∧ Grow F F' w ∧ TreeAt w' T A root' h' (k + 1) ∧
    ((root' = root ∧ h' = h ∧ Q0 st') ∨ (h' = h + 1 ∧ Q1 root' st'))
def Ins1Post (T A root h k : Nat) (F : Nat → Prop) (Q0 : St → Prop) (Q1 : Nat → St → Prop) (w : World) (e : Ending) (w' : World) : Prop :=
  e = .returned (.tuple #[]) ∧ InsRes T A root h k F Q0 Q1 w w'

set_option maxRecDepth 10000 in
set_option maxHeartbeats 2000000 in
theorem Insert1_ok {tb sb T A root hh h k : Nat} {st : St} {F : Nat → Prop} {s : Str} {Q0 : St → Prop} {Q1 : Nat → St → Prop} (w : World) (hB : InBox w tb sb T s) (hT : TreeAt w T A root hh k) (hA : Arena w A st F) (hTF : ¬ F T) (h1 : ¬ F tb) (h2 : ¬ F sb)
    (hh4 : hh ≤ 100000) (hk4 : k ≤ 1000000000) (hW : RootW s h st root Q0 Q1) :
    Calls Tryz.prog 49 #[.pointer (some ⟨tb, 0, none⟩), .pointer (some ⟨sb, 0, none⟩)] w (Ins1Post T A root hh k F Q0 Q1 w) := by
  have hI := fun w' (he : Ext No w w') => insert_ok (s := s) h (F := F) w' (hT.ext he fun f => f) (hA.extNo he) hTF hW
  have t0 : w.cell? ⟨tb, 0, none⟩ = some (.pointer (some ⟨T, 0, none⟩)) := (cell_at hB.t 0).trans rfl
  have s0 : w.cell? ⟨sb, 0, none⟩ = some (.string s) := (cell_at hB.s 0).trans rfl
  have c1 : w.cell? ⟨T, 1, none⟩ = some (.int .i64 root) := (cell_at hT 1).trans rfl
  have HI := Lib.hid hI
  have HB := Lib.hid hB
  have HT := Lib.hid hT
  have HTF := Lib.hid hTF
  have HF1 := Lib.hid h1
  have HF2 := Lib.hid h2
  have HH := Lib.hid hh4
  have HK := Lib.hid hk4
  clear hI hB hT hTF h1 h2 hA hW hh4 hk4
  go_enter Tryz.func49, Tryz.ntmps49
  go_wp2_with (fail)
  go_region_held3 (fun w' => w'.cell? ⟨tb, 0, none⟩ = some (.pointer (some ⟨T, 0, none⟩)) ∧ w'.cell? ⟨sb, 0, none⟩ = some (.string s) ∧ w'.cell? ⟨T, 1, none⟩ = some (.int .i64 root)) (first | go_keep) (first
    | (go_at_call 50; refine (HI.out _ (Ext.refl No w).drew).mono ?_; rintro e w1 ⟨sep, right, st1, rfl, hQ, F1, hA1, hX1, hG1⟩; have hX1 := (Ext.refl No w).drew.noTrans hX1; have hB1 := HB.out.ext hX1 HF1.out HF2.out; have hT1 := HT.out.ext hX1 HTF.out; have t0 : w1.cell? ⟨tb, 0, none⟩ = some (.pointer (some ⟨T, 0, none⟩)) := (cell_at hB1.t 0).trans rfl; have s0 : w1.cell? ⟨sb, 0, none⟩ = some (.string s) := (cell_at hB1.s 0).trans rfl; have c1 : w1.cell? ⟨T, 1, none⟩ = some (.int .i64 root) := (cell_at hT1 1).trans rfl; have HQ := Lib.hid hQ; have HA1 := Lib.hid hA1; have HX1 := Lib.hid hX1; have HG1 := Lib.hid hG1; have HT1 := Lib.hid hT1; have HB1 := Lib.hid hB1; clear hQ hA1 hX1 hG1 hT1 hB1))
  clear hX1 s0
  have c3 : w1.cell? ⟨T, 3, none⟩ = some (.int .i64 k) := (cell_at HT1.out 3).trans rfl
  have z3 := frozen_at HT1.out 3
  have kb : (k : Int) ≤ 1000000000 := by have := HK.out; omega
  have kw : IntKind.i64.wrap ((k : Int) + 1) = (k : Int) + 1 := IntWalk.i64_in _ (by omega)
  by_cases hr : right = 0
  · subst hr
    have HQ0 := Lib.hid (show Q0 st1 from by have := HQ.out; rwa [if_pos rfl] at this)
    have hT2 : TreeAt (w1.setCell ⟨T, 3, none⟩ (.int .i64 ((k : Int) + 1))) T A root hh (k + 1) := (heap_setCell_at HT1.out 3 _).trans rfl
    have hx : Ext (Only T) w1 (w1.setCell ⟨T, 3, none⟩ (.int .i64 ((k : Int) + 1))) := (Ext.refl (Only T) w1).setCell (p := ⟨T, 3, none⟩) (.inl rfl) _
    have hTF1 : ¬ F1 T := Grow.not HG1.out HTF.out (lt_of_heap HT.out)
    have HFIN := Lib.hid (show Ins1Post T A root hh k F Q0 Q1 w (.returned (.tuple #[])) (w1.setCell ⟨T, 3, none⟩ (.int .i64 ((k : Int) + 1))) from
      ⟨rfl, st1, F1, root, hh, HA1.out.ext hx (fun q f g => by have : q = T := g; subst this; exact hTF1 f), (HX1.out.mono fun x f => .inl f).trans (hx.mono fun x f => .inr f), HG1.out, hT2, .inl ⟨rfl, rfl, HQ0.out⟩⟩)
    clear hT2 hx hTF1
    go_wp2_with (fail)
    go_end0
    exact HFIN.out
  · have hQ := HQ.out
    rw [if_neg hr] at hQ
    obtain ⟨hl1, hRt, hQ1⟩ := hQ
    have rb : ((right : Int) != 0) = true := by rw [bne_iff_ne]; omega
    have z1 := frozen_at HT1.out 1
    have z1a : ∀ O, (w1.alloc O).frozen? ⟨T, 1, none⟩ = false := fun O => frozen_at (((Ext.refl No w1).alloc O).heapNo HT1.out) 1
    have z1b : ∀ O O', ((w1.alloc O).alloc O').frozen? ⟨T, 1, none⟩ = false := fun O O' => frozen_at ((((Ext.refl No w1).alloc O).alloc O').heapNo HT1.out) 1
    have k1a : ∀ O, (w1.alloc O).cell? ⟨T, 1, none⟩ = some (.int .i64 root) := fun O => (cell_at (((Ext.refl No w1).alloc O).heapNo HT1.out) 1).trans rfl
    have hFl := HA1.out.lt
    have hTF1 : ¬ F1 T := Grow.not HG1.out HTF.out (lt_of_heap HT.out)
    have hAl := fun W (he : Ext No w1 W) (b1 b2 : Nat) (hb1 : W.heap[b1]? = some (.cells #[.string sep] 9 (0, 0))) (hb2 : W.heap[b2]? = some (.cells #[.int .i64 root, .int .i64 right] 3 (0, 0))) (g1 : w1.heap.size ≤ b1) (g2 : w1.heap.size ≤ b2) =>
      show Calls Tryz.prog 37 #[.pointer (some ⟨T, 0, none⟩), .agg #[.bool false, .slice (some ⟨b1, 0, none⟩) 1 1, .slice (some ⟨b2, 0, none⟩) 2 2]] W fun e w' => e = .returned (.int .i64 st1.new.1) ∧ Turns A (st1.new.2.put st1.new.1 (.node ⟨false, [sep], [root, right]⟩)) F1 W w' from
      talloc_ok (rc := 1) (kc := 2) (ra := some ⟨b1, 0, none⟩) (ka := some ⟨b2, 0, none⟩) (n := ⟨false, [sep], [root, right]⟩) W (he.heapNo HT1.out) (HA1.out.extNo he) hTF1 hl1 ⟨.inr ⟨_, 0, rfl, fun i v hi => by
        rw [cell_at hb1, Nat.zero_add]; simpa using hi⟩, .inr ⟨_, 0, rfl, fun i v hi => by rw [cell_at hb2, Nat.zero_add]; simpa [i64] using hi⟩⟩ hRt
      (fun k hk f => by obtain ⟨p, hp, rfl⟩ := hk; cases hp; have := hFl _ f; simp at this; omega) (fun k hk f => by obtain ⟨p, hp, rfl⟩ := hk; cases hp; have := hFl _ f; simp at this; omega)
    have HAL := Lib.hid hAl
    have HQ1 := Lib.hid hQ1
    have HL := Lib.hid hTF1
    clear hAl hFl hQ1 hRt hl1 hTF1
    have hne0 : ¬ T = tb := ne_of_elem HT.out HB.out.t (by decide)
    have hne2 : ¬ tb = T := fun e => hne0 e.symm
    go_wp2_with (fail)
    refine wp_region_noPanic ?_
    refine wp_region_held_drew (S := (fun w' => w'.cell? ⟨tb, 0, none⟩ = some (.pointer (some ⟨T, 0, none⟩)) ∧ w'.frozen? ⟨T, 1, none⟩ = false)) (by kernel_rfl) ?_ (fun hHeld => ?_)
    · ((try dsimp only); first | go_keep)
    refine wpAnyH_take (i := 0) (v := ?_) rfl (by kernel_rfl) (by kernel_rfl) (by kernel_rfl) (fun _ _ _ h => h) (Or.inl ⟨by rfl, ?_⟩) (by assumption) ?_
    rotate_left 1
    · ((intro wz hSw; (try dsimp only at hSw); go_simp) <;> with_reducible rfl)
    try simp only [Act.put, List.setIfInBounds_toArray, List.set_cons_zero, List.set_cons_succ]
    refine wpAnyH_take (i := 1) (v := ?_) rfl (by kernel_rfl) (by kernel_rfl) (by kernel_rfl) (fun _ _ _ h => h) (Or.inl ⟨by rfl, ?_⟩) (by assumption) ?_
    rotate_left 1
    · ((intro wz hSw; (try dsimp only at hSw); go_simp) <;> with_reducible rfl)
    try simp only [Act.put, List.setIfInBounds_toArray, List.set_cons_zero, List.set_cons_succ]
    refine wpAnyH_take (i := 2) (v := ?_) rfl (by kernel_rfl) (by kernel_rfl) (by kernel_rfl) (fun _ _ _ h => h) (Or.inl ⟨by rfl, ?_⟩) (by assumption) ?_
    rotate_left 1
    · ((intro wz hSw; (try dsimp only at hSw); go_simp) <;> with_reducible rfl)
    try simp only [Act.put, List.setIfInBounds_toArray, List.set_cons_zero, List.set_cons_succ]
    refine wpAnyH_take (i := 4) (v := ?_) rfl (by kernel_rfl) (by kernel_rfl) (by kernel_rfl) (fun _ _ _ h => h) (Or.inl ⟨by rfl, ?_⟩) (by assumption) ?_
    rotate_left 1
    · ((intro wz hSw; (try dsimp only at hSw); go_simp) <;> with_reducible rfl)
    try simp only [Act.put, List.setIfInBounds_toArray, List.set_cons_zero, List.set_cons_succ]
    refine wpAnyH_take (i := 5) (v := ?_) rfl (by kernel_rfl) (by kernel_rfl) (by kernel_rfl) (fun _ _ _ h => h) (Or.inl ⟨by rfl, ?_⟩) (by assumption) ?_
    rotate_left 1
    · ((intro wz hSw; (try dsimp only at hSw); go_simp) <;> with_reducible rfl)
    try simp only [Act.put, List.setIfInBounds_toArray, List.set_cons_zero, List.set_cons_succ]
    refine wpAnyH_take (i := 6) (v := ?_) rfl (by kernel_rfl) (by kernel_rfl) (by kernel_rfl) (fun _ _ _ h => h) (Or.inl ⟨by rfl, ?_⟩) (by assumption) ?_
    rotate_left 1
    · ((intro wz hSw; (try dsimp only at hSw); go_simp) <;> with_reducible rfl)
    try simp only [Act.put, List.setIfInBounds_toArray, List.set_cons_zero, List.set_cons_succ]
    refine wpAnyH_take (i := 8) (v := ?_) rfl (by kernel_rfl) (by kernel_rfl) (by kernel_rfl) (fun _ _ _ h => h) (Or.inl ⟨by rfl, ?_⟩) (by assumption) ?_
    rotate_left 1
    · ((intro wz hSw; (try dsimp only at hSw); go_simp) <;> with_reducible rfl)
    try simp only [Act.put, List.setIfInBounds_toArray, List.set_cons_zero, List.set_cons_succ]
    refine wpAnyH_ready (rs := [3, 7]) (by kernel_rfl) (by simp) ?_
    refine AllReadyH.cons rfl (fun K hK => ?_) ?_
    · go_simp
      refine hK.out _ _ ?_ (fun hHeld => ?_)
      · ((try dsimp only); first | go_keep)
      clear hK K
      try simp only [Act.put, List.setIfInBounds_toArray, List.set_cons_zero, List.set_cons_succ]
      refine wpAnyH_ready (rs := [7]) (by kernel_rfl) (by simp) ?_
      refine AllReadyH.cons rfl (fun K hK => ?_) ?_
      · go_simp
        refine hK.out _ _ ?_ (fun hHeld => ?_)
        · ((try dsimp only); first | go_keep)
        clear hK K
        try simp only [Act.put, List.setIfInBounds_toArray, List.set_cons_zero, List.set_cons_succ]
        refine wpAnyH_ready (rs := [9]) (by kernel_rfl) (by simp) ?_
        refine AllReadyH.cons rfl (fun K hK => ?_) ?_
        · go_simp
          refine hK.out _ _ ?_ (fun hHeld => ?_)
          · ((try dsimp only); first | go_keep)
          clear hK K
          try simp only [Act.put, List.setIfInBounds_toArray, List.set_cons_zero, List.set_cons_succ]
          refine wpAnyH_take (i := 10) (v := ?_) rfl (by kernel_rfl) (by kernel_rfl) (by kernel_rfl) (fun _ _ _ h => h) (Or.inl ⟨by rfl, ?_⟩) (by assumption) ?_
          rotate_left 1
          · ((intro wz hSw; (try dsimp only at hSw); go_simp) <;> with_reducible rfl)
          try simp only [Act.put, List.setIfInBounds_toArray, List.set_cons_zero, List.set_cons_succ]
          refine wpAnyH_ready (rs := [11]) (by kernel_rfl) (by simp) ?_
          refine AllReadyH.cons rfl (fun K hK => ?_) ?_
          · go_simp
            (first
              | ((with_reducible refine (HAL.out _ ?_ w1.heap.size (w1.heap.size + 1) ?_ ?_ ?_ ?_).mono ?_); exact (((Ext.refl No w1).alloc _).alloc _).drew; exact two_a _ _ _; exact two_b _ _ _; exact Nat.le_refl _; exact Nat.le_succ _)
              | ((with_reducible refine (HAL.out _ ?_ (w1.heap.size + 1) w1.heap.size ?_ ?_ ?_ ?_).mono ?_); exact (((Ext.refl No w1).alloc _).alloc _).drew; exact two_b _ _ _; exact two_a _ _ _; exact Nat.le_succ _; exact Nat.le_refl _))
            rintro e w2 ⟨rfl, F2, hA2, hX2, hG2⟩; have hX12 := (((Ext.refl No w1).alloc _).alloc _).drew.noTrans hX2; have hT2 := HT1.out.ext hX12 HL.out; have hB2 := HB1.out.ext hX12 (Grow.not HG1.out HF1.out (lt_of_heap HB.out.t)) (Grow.not HG1.out HF2.out (lt_of_heap HB.out.s)); have t0 : w2.cell? ⟨tb, 0, none⟩ = some (.pointer (some ⟨T, 0, none⟩)) := (cell_at hB2.t 0).trans rfl; have c1 : w2.cell? ⟨T, 1, none⟩ = some (.int .i64 root) := (cell_at hT2 1).trans rfl; have hne1 : ¬ T = tb := hne0; have z1 := frozen_at hT2 1; have HA2 := Lib.hid hA2; have HX2 := Lib.hid hX12; have HG2 := Lib.hid (show Grow F1 F2 w1 from fun q hq => (hG2 q hq).imp id fun h => by simp at h; omega); have HT2 := Lib.hid hT2; clear hA2 hX2 hG2 hT2 hX12 hB2
            go_wp2_with (fail)
            refine hK.out _ _ ?_ (fun hHeld => ?_)
            · ((try dsimp only); first | go_keep)
            clear hK K
            try simp only [Act.put, List.setIfInBounds_toArray, List.set_cons_zero, List.set_cons_succ]
            refine wpAnyH_take (i := 12) (v := ?_) rfl (by kernel_rfl) (by kernel_rfl) (by kernel_rfl) (fun _ _ _ h => h) (Or.inl ⟨by rfl, ?_⟩) (by assumption) ?_
            rotate_left 1
            · ((intro wz hSw; (try dsimp only at hSw); go_simp) <;> with_reducible rfl)
            try simp only [Act.put, List.setIfInBounds_toArray, List.set_cons_zero, List.set_cons_succ]
            refine wpAnyH_take (i := 13) (v := ?_) rfl (by kernel_rfl) (by kernel_rfl) (by kernel_rfl) (fun _ _ _ h => h) (Or.inl ⟨by rfl, ?_⟩) (by assumption) ?_
            rotate_left 1
            · ((intro wz hSw; (try dsimp only at hSw); go_simp) <;> with_reducible rfl)
            try simp only [Act.put, List.setIfInBounds_toArray, List.set_cons_zero, List.set_cons_succ]
            refine wpAnyH_ready (rs := [14]) (by kernel_rfl) (by simp) ?_
            refine AllReadyH.cons rfl (fun K hK => ?_) ?_
            · go_simp
              refine hK.out _ _ ?_ (fun hHeld => ?_)
              · ((try dsimp only); first | go_keep)
              clear hK K
              try simp only [Act.put, List.setIfInBounds_toArray, List.set_cons_zero, List.set_cons_succ]
              refine wpAnyH_done (by kernel_rfl) ?_ _
              refine NoPanic.normal ?_
              clear c3 z3 z1a z1b k1a
              have c2 : w2.cell? ⟨T, 2, none⟩ = some (.int .i64 hh) := (cell_at HT2.out 2).trans rfl
              have c3 : w2.cell? ⟨T, 3, none⟩ = some (.int .i64 k) := (cell_at HT2.out 3).trans rfl
              have z2 := frozen_at HT2.out 2
              have z3 := frozen_at HT2.out 3
              have hb : (hh : Int) ≤ 100000 := by have := HH.out; omega
              have hw : IntKind.i64.wrap ((hh : Int) + 1) = (hh : Int) + 1 := IntWalk.i64_in _ (by omega)
              have hT3 : TreeAt (((w2.setCell ⟨T, 1, none⟩ (.int .i64 st1.new.1)).setCell ⟨T, 2, none⟩ (.int .i64 ((hh : Int) + 1))).setCell ⟨T, 3, none⟩ (.int .i64 ((k : Int) + 1))) T A st1.new.1 (hh + 1) (k + 1) :=
                (heap_setCell_at (heap_setCell_at (heap_setCell_at HT2.out 1 _) 2 _) 3 _).trans rfl
              have hx : Ext (Only T) w2 (((w2.setCell ⟨T, 1, none⟩ (.int .i64 st1.new.1)).setCell ⟨T, 2, none⟩ (.int .i64 ((hh : Int) + 1))).setCell ⟨T, 3, none⟩ (.int .i64 ((k : Int) + 1))) :=
                (((Ext.refl (Only T) w2).setCell (p := ⟨T, 1, none⟩) (.inl rfl) _).setCell (p := ⟨T, 2, none⟩) (.inl rfl) _).setCell (p := ⟨T, 3, none⟩) (.inl rfl) _
              have hG : Grow F F2 w := Grow.trans (show Grow F F1 w from HG1.out) HG2.out HX1.out.size
              have hTF2 : ¬ F2 T := Grow.not hG HTF.out (lt_of_heap HT.out)
              have hxx : Ext F w w2 := HX1.out.grown HX2.out (show Grow F F1 w from HG1.out)
              have HFIN := Lib.hid (show Ins1Post T A root hh k F Q0 Q1 w (.returned (.tuple #[])) (((w2.setCell ⟨T, 1, none⟩ (.int .i64 st1.new.1)).setCell ⟨T, 2, none⟩ (.int .i64 ((hh : Int) + 1))).setCell ⟨T, 3, none⟩ (.int .i64 ((k : Int) + 1))) from
                ⟨rfl, _, F2, st1.new.1, hh + 1, HA2.out.ext hx (fun q f g => by have : q = T := g; subst this; exact hTF2 f), (hxx.mono fun x f => .inl f).trans (hx.mono fun x f => .inr f), hG, hT3, .inr ⟨rfl, HQ1.out⟩⟩)
              clear hT3 hx hG hTF2 hxx
              go_wp2_with (fail)
              go_end0
              exact HFIN.out

            exact AllReadyH.nil
          exact AllReadyH.nil
        exact AllReadyH.nil
      exact AllReadyH.nil
    refine AllReadyH.cons rfl (fun K hK => ?_) ?_
    · go_simp
      refine hK.out _ _ ?_ (fun hHeld => ?_)
      · ((try dsimp only); first | go_keep)
      clear hK K
      try simp only [Act.put, List.setIfInBounds_toArray, List.set_cons_zero, List.set_cons_succ]
      refine wpAnyH_ready (rs := [3, 9]) (by kernel_rfl) (by simp) ?_
      refine AllReadyH.cons rfl (fun K hK => ?_) ?_
      · go_simp
        refine hK.out _ _ ?_ (fun hHeld => ?_)
        · ((try dsimp only); first | go_keep)
        clear hK K
        try simp only [Act.put, List.setIfInBounds_toArray, List.set_cons_zero, List.set_cons_succ]
        refine wpAnyH_ready (rs := [9]) (by kernel_rfl) (by simp) ?_
        refine AllReadyH.cons rfl (fun K hK => ?_) ?_
        · go_simp
          refine hK.out _ _ ?_ (fun hHeld => ?_)
          · ((try dsimp only); first | go_keep)
          clear hK K
          try simp only [Act.put, List.setIfInBounds_toArray, List.set_cons_zero, List.set_cons_succ]
          refine wpAnyH_take (i := 10) (v := ?_) rfl (by kernel_rfl) (by kernel_rfl) (by kernel_rfl) (fun _ _ _ h => h) (Or.inl ⟨by rfl, ?_⟩) (by assumption) ?_
          rotate_left 1
          · ((intro wz hSw; (try dsimp only at hSw); go_simp) <;> with_reducible rfl)
          try simp only [Act.put, List.setIfInBounds_toArray, List.set_cons_zero, List.set_cons_succ]
          refine wpAnyH_ready (rs := [11]) (by kernel_rfl) (by simp) ?_
          refine AllReadyH.cons rfl (fun K hK => ?_) ?_
          · go_simp
            (first
              | ((with_reducible refine (HAL.out _ ?_ w1.heap.size (w1.heap.size + 1) ?_ ?_ ?_ ?_).mono ?_); exact (((Ext.refl No w1).alloc _).alloc _).drew; exact two_a _ _ _; exact two_b _ _ _; exact Nat.le_refl _; exact Nat.le_succ _)
              | ((with_reducible refine (HAL.out _ ?_ (w1.heap.size + 1) w1.heap.size ?_ ?_ ?_ ?_).mono ?_); exact (((Ext.refl No w1).alloc _).alloc _).drew; exact two_b _ _ _; exact two_a _ _ _; exact Nat.le_succ _; exact Nat.le_refl _))
            rintro e w2 ⟨rfl, F2, hA2, hX2, hG2⟩; have hX12 := (((Ext.refl No w1).alloc _).alloc _).drew.noTrans hX2; have hT2 := HT1.out.ext hX12 HL.out; have hB2 := HB1.out.ext hX12 (Grow.not HG1.out HF1.out (lt_of_heap HB.out.t)) (Grow.not HG1.out HF2.out (lt_of_heap HB.out.s)); have t0 : w2.cell? ⟨tb, 0, none⟩ = some (.pointer (some ⟨T, 0, none⟩)) := (cell_at hB2.t 0).trans rfl; have c1 : w2.cell? ⟨T, 1, none⟩ = some (.int .i64 root) := (cell_at hT2 1).trans rfl; have hne1 : ¬ T = tb := hne0; have z1 := frozen_at hT2 1; have HA2 := Lib.hid hA2; have HX2 := Lib.hid hX12; have HG2 := Lib.hid (show Grow F1 F2 w1 from fun q hq => (hG2 q hq).imp id fun h => by simp at h; omega); have HT2 := Lib.hid hT2; clear hA2 hX2 hG2 hT2 hX12 hB2
            go_wp2_with (fail)
            refine hK.out _ _ ?_ (fun hHeld => ?_)
            · ((try dsimp only); first | go_keep)
            clear hK K
            try simp only [Act.put, List.setIfInBounds_toArray, List.set_cons_zero, List.set_cons_succ]
            refine wpAnyH_take (i := 12) (v := ?_) rfl (by kernel_rfl) (by kernel_rfl) (by kernel_rfl) (fun _ _ _ h => h) (Or.inl ⟨by rfl, ?_⟩) (by assumption) ?_
            rotate_left 1
            · ((intro wz hSw; (try dsimp only at hSw); go_simp) <;> with_reducible rfl)
            try simp only [Act.put, List.setIfInBounds_toArray, List.set_cons_zero, List.set_cons_succ]
            refine wpAnyH_take (i := 13) (v := ?_) rfl (by kernel_rfl) (by kernel_rfl) (by kernel_rfl) (fun _ _ _ h => h) (Or.inl ⟨by rfl, ?_⟩) (by assumption) ?_
            rotate_left 1
            · ((intro wz hSw; (try dsimp only at hSw); go_simp) <;> with_reducible rfl)
            try simp only [Act.put, List.setIfInBounds_toArray, List.set_cons_zero, List.set_cons_succ]
            refine wpAnyH_ready (rs := [14]) (by kernel_rfl) (by simp) ?_
            refine AllReadyH.cons rfl (fun K hK => ?_) ?_
            · go_simp
              refine hK.out _ _ ?_ (fun hHeld => ?_)
              · ((try dsimp only); first | go_keep)
              clear hK K
              try simp only [Act.put, List.setIfInBounds_toArray, List.set_cons_zero, List.set_cons_succ]
              refine wpAnyH_done (by kernel_rfl) ?_ _
              refine NoPanic.normal ?_
              clear c3 z3 z1a z1b k1a
              have c2 : w2.cell? ⟨T, 2, none⟩ = some (.int .i64 hh) := (cell_at HT2.out 2).trans rfl
              have c3 : w2.cell? ⟨T, 3, none⟩ = some (.int .i64 k) := (cell_at HT2.out 3).trans rfl
              have z2 := frozen_at HT2.out 2
              have z3 := frozen_at HT2.out 3
              have hb : (hh : Int) ≤ 100000 := by have := HH.out; omega
              have hw : IntKind.i64.wrap ((hh : Int) + 1) = (hh : Int) + 1 := IntWalk.i64_in _ (by omega)
              have hT3 : TreeAt (((w2.setCell ⟨T, 1, none⟩ (.int .i64 st1.new.1)).setCell ⟨T, 2, none⟩ (.int .i64 ((hh : Int) + 1))).setCell ⟨T, 3, none⟩ (.int .i64 ((k : Int) + 1))) T A st1.new.1 (hh + 1) (k + 1) :=
                (heap_setCell_at (heap_setCell_at (heap_setCell_at HT2.out 1 _) 2 _) 3 _).trans rfl
              have hx : Ext (Only T) w2 (((w2.setCell ⟨T, 1, none⟩ (.int .i64 st1.new.1)).setCell ⟨T, 2, none⟩ (.int .i64 ((hh : Int) + 1))).setCell ⟨T, 3, none⟩ (.int .i64 ((k : Int) + 1))) :=
                (((Ext.refl (Only T) w2).setCell (p := ⟨T, 1, none⟩) (.inl rfl) _).setCell (p := ⟨T, 2, none⟩) (.inl rfl) _).setCell (p := ⟨T, 3, none⟩) (.inl rfl) _
              have hG : Grow F F2 w := Grow.trans (show Grow F F1 w from HG1.out) HG2.out HX1.out.size
              have hTF2 : ¬ F2 T := Grow.not hG HTF.out (lt_of_heap HT.out)
              have hxx : Ext F w w2 := HX1.out.grown HX2.out (show Grow F F1 w from HG1.out)
              have HFIN := Lib.hid (show Ins1Post T A root hh k F Q0 Q1 w (.returned (.tuple #[])) (((w2.setCell ⟨T, 1, none⟩ (.int .i64 st1.new.1)).setCell ⟨T, 2, none⟩ (.int .i64 ((hh : Int) + 1))).setCell ⟨T, 3, none⟩ (.int .i64 ((k : Int) + 1))) from
                ⟨rfl, _, F2, st1.new.1, hh + 1, HA2.out.ext hx (fun q f g => by have : q = T := g; subst this; exact hTF2 f), (hxx.mono fun x f => .inl f).trans (hx.mono fun x f => .inr f), hG, hT3, .inr ⟨rfl, HQ1.out⟩⟩)
              clear hT3 hx hG hTF2 hxx
              go_wp2_with (fail)
              go_end0
              exact HFIN.out

            exact AllReadyH.nil
          exact AllReadyH.nil
        exact AllReadyH.nil
      refine AllReadyH.cons rfl (fun K hK => ?_) ?_
      · go_simp
        refine hK.out _ _ ?_ (fun hHeld => ?_)
        · ((try dsimp only); first | go_keep)
        clear hK K
        try simp only [Act.put, List.setIfInBounds_toArray, List.set_cons_zero, List.set_cons_succ]
        refine wpAnyH_ready (rs := [3]) (by kernel_rfl) (by simp) ?_
        refine AllReadyH.cons rfl (fun K hK => ?_) ?_
        · go_simp
          refine hK.out _ _ ?_ (fun hHeld => ?_)
          · ((try dsimp only); first | go_keep)
          clear hK K
          try simp only [Act.put, List.setIfInBounds_toArray, List.set_cons_zero, List.set_cons_succ]
          refine wpAnyH_take (i := 10) (v := ?_) rfl (by kernel_rfl) (by kernel_rfl) (by kernel_rfl) (fun _ _ _ h => h) (Or.inl ⟨by rfl, ?_⟩) (by assumption) ?_
          rotate_left 1
          · ((intro wz hSw; (try dsimp only at hSw); go_simp) <;> with_reducible rfl)
          try simp only [Act.put, List.setIfInBounds_toArray, List.set_cons_zero, List.set_cons_succ]
          refine wpAnyH_ready (rs := [11]) (by kernel_rfl) (by simp) ?_
          refine AllReadyH.cons rfl (fun K hK => ?_) ?_
          · go_simp
            (first
              | ((with_reducible refine (HAL.out _ ?_ w1.heap.size (w1.heap.size + 1) ?_ ?_ ?_ ?_).mono ?_); exact (((Ext.refl No w1).alloc _).alloc _).drew; exact two_a _ _ _; exact two_b _ _ _; exact Nat.le_refl _; exact Nat.le_succ _)
              | ((with_reducible refine (HAL.out _ ?_ (w1.heap.size + 1) w1.heap.size ?_ ?_ ?_ ?_).mono ?_); exact (((Ext.refl No w1).alloc _).alloc _).drew; exact two_b _ _ _; exact two_a _ _ _; exact Nat.le_succ _; exact Nat.le_refl _))
            rintro e w2 ⟨rfl, F2, hA2, hX2, hG2⟩; have hX12 := (((Ext.refl No w1).alloc _).alloc _).drew.noTrans hX2; have hT2 := HT1.out.ext hX12 HL.out; have hB2 := HB1.out.ext hX12 (Grow.not HG1.out HF1.out (lt_of_heap HB.out.t)) (Grow.not HG1.out HF2.out (lt_of_heap HB.out.s)); have t0 : w2.cell? ⟨tb, 0, none⟩ = some (.pointer (some ⟨T, 0, none⟩)) := (cell_at hB2.t 0).trans rfl; have c1 : w2.cell? ⟨T, 1, none⟩ = some (.int .i64 root) := (cell_at hT2 1).trans rfl; have hne1 : ¬ T = tb := hne0; have z1 := frozen_at hT2 1; have HA2 := Lib.hid hA2; have HX2 := Lib.hid hX12; have HG2 := Lib.hid (show Grow F1 F2 w1 from fun q hq => (hG2 q hq).imp id fun h => by simp at h; omega); have HT2 := Lib.hid hT2; clear hA2 hX2 hG2 hT2 hX12 hB2
            go_wp2_with (fail)
            refine hK.out _ _ ?_ (fun hHeld => ?_)
            · ((try dsimp only); first | go_keep)
            clear hK K
            try simp only [Act.put, List.setIfInBounds_toArray, List.set_cons_zero, List.set_cons_succ]
            refine wpAnyH_take (i := 12) (v := ?_) rfl (by kernel_rfl) (by kernel_rfl) (by kernel_rfl) (fun _ _ _ h => h) (Or.inl ⟨by rfl, ?_⟩) (by assumption) ?_
            rotate_left 1
            · ((intro wz hSw; (try dsimp only at hSw); go_simp) <;> with_reducible rfl)
            try simp only [Act.put, List.setIfInBounds_toArray, List.set_cons_zero, List.set_cons_succ]
            refine wpAnyH_take (i := 13) (v := ?_) rfl (by kernel_rfl) (by kernel_rfl) (by kernel_rfl) (fun _ _ _ h => h) (Or.inl ⟨by rfl, ?_⟩) (by assumption) ?_
            rotate_left 1
            · ((intro wz hSw; (try dsimp only at hSw); go_simp) <;> with_reducible rfl)
            try simp only [Act.put, List.setIfInBounds_toArray, List.set_cons_zero, List.set_cons_succ]
            refine wpAnyH_ready (rs := [14]) (by kernel_rfl) (by simp) ?_
            refine AllReadyH.cons rfl (fun K hK => ?_) ?_
            · go_simp
              refine hK.out _ _ ?_ (fun hHeld => ?_)
              · ((try dsimp only); first | go_keep)
              clear hK K
              try simp only [Act.put, List.setIfInBounds_toArray, List.set_cons_zero, List.set_cons_succ]
              refine wpAnyH_done (by kernel_rfl) ?_ _
              refine NoPanic.normal ?_
              clear c3 z3 z1a z1b k1a
              have c2 : w2.cell? ⟨T, 2, none⟩ = some (.int .i64 hh) := (cell_at HT2.out 2).trans rfl
              have c3 : w2.cell? ⟨T, 3, none⟩ = some (.int .i64 k) := (cell_at HT2.out 3).trans rfl
              have z2 := frozen_at HT2.out 2
              have z3 := frozen_at HT2.out 3
              have hb : (hh : Int) ≤ 100000 := by have := HH.out; omega
              have hw : IntKind.i64.wrap ((hh : Int) + 1) = (hh : Int) + 1 := IntWalk.i64_in _ (by omega)
              have hT3 : TreeAt (((w2.setCell ⟨T, 1, none⟩ (.int .i64 st1.new.1)).setCell ⟨T, 2, none⟩ (.int .i64 ((hh : Int) + 1))).setCell ⟨T, 3, none⟩ (.int .i64 ((k : Int) + 1))) T A st1.new.1 (hh + 1) (k + 1) :=
                (heap_setCell_at (heap_setCell_at (heap_setCell_at HT2.out 1 _) 2 _) 3 _).trans rfl
              have hx : Ext (Only T) w2 (((w2.setCell ⟨T, 1, none⟩ (.int .i64 st1.new.1)).setCell ⟨T, 2, none⟩ (.int .i64 ((hh : Int) + 1))).setCell ⟨T, 3, none⟩ (.int .i64 ((k : Int) + 1))) :=
                (((Ext.refl (Only T) w2).setCell (p := ⟨T, 1, none⟩) (.inl rfl) _).setCell (p := ⟨T, 2, none⟩) (.inl rfl) _).setCell (p := ⟨T, 3, none⟩) (.inl rfl) _
              have hG : Grow F F2 w := Grow.trans (show Grow F F1 w from HG1.out) HG2.out HX1.out.size
              have hTF2 : ¬ F2 T := Grow.not hG HTF.out (lt_of_heap HT.out)
              have hxx : Ext F w w2 := HX1.out.grown HX2.out (show Grow F F1 w from HG1.out)
              have HFIN := Lib.hid (show Ins1Post T A root hh k F Q0 Q1 w (.returned (.tuple #[])) (((w2.setCell ⟨T, 1, none⟩ (.int .i64 st1.new.1)).setCell ⟨T, 2, none⟩ (.int .i64 ((hh : Int) + 1))).setCell ⟨T, 3, none⟩ (.int .i64 ((k : Int) + 1))) from
                ⟨rfl, _, F2, st1.new.1, hh + 1, HA2.out.ext hx (fun q f g => by have : q = T := g; subst this; exact hTF2 f), (hxx.mono fun x f => .inl f).trans (hx.mono fun x f => .inr f), hG, hT3, .inr ⟨rfl, HQ1.out⟩⟩)
              clear hT3 hx hG hTF2 hxx
              go_wp2_with (fail)
              go_end0
              exact HFIN.out

            exact AllReadyH.nil
          exact AllReadyH.nil
        exact AllReadyH.nil
      exact AllReadyH.nil
    exact AllReadyH.nil
end Go.Proofs.YtanglcdiebkmiaaGreat
