/- Delete, where the root is a leaf. -/
import Derived.Test.YtanglcdiebkmiaaGreatRem1
set_option linter.unusedSimpArgs false
set_option linter.unusedVariables false
namespace Go.Proofs.YtanglcdiebkmiaaGreat
open Go.RowKit Tw

theorem one_a (w : World) (o : Obj) : (w.alloc o).drew.heap[w.heap.size]? = some o := heap_alloc_new w o

def Del1Post (T A root k : Nat) (F : Nat → Prop) (Q : St → Prop) (w : World) (e : Ending) (w' : World) : Prop :=
  e = .returned (.tuple #[]) ∧ ∃ st' F', Arena w' A st' F' ∧ Ext (fun x => F x ∨ x = T) w w' ∧ Grow F F' w ∧ TreeAt w' T A root 1 k ∧ Q st'

set_option maxRecDepth 10000 in
set_option maxHeartbeats 2000000 in
theorem Delete1_leaf {tb sb T A root k : Nat} {st : St} {F : Nat → Prop} {s : Str} {Q : St → Prop} (w : World) (hB : InBox w tb sb T s) (hT : TreeAt w T A root 1 (k + 1)) (hA : Arena w A st F) (hTF : ¬ F T) (h1 : ¬ F tb) (h2 : ¬ F sb)
    (hk4 : k ≤ 1000000000) (hW : Rem0 s st root (fun st' => Q st' ∧ ∃ n, st'.node root = some n ∧ n.leaf = true)) :
    Calls Tryz.prog 51 #[.pointer (some ⟨tb, 0, none⟩), .pointer (some ⟨sb, 0, none⟩)] w (Del1Post T A root k F Q w) := by
  have hI := fun w' (he : Ext No w w') => remove_leaf (s := s) (F := F) w' (hT.ext he fun f => f) (hA.extNo he) hTF hW
  have t0 : w.cell? ⟨tb, 0, none⟩ = some (.pointer (some ⟨T, 0, none⟩)) := (cell_at hB.t 0).trans rfl
  have s0 : w.cell? ⟨sb, 0, none⟩ = some (.string s) := (cell_at hB.s 0).trans rfl
  have c1 : w.cell? ⟨T, 1, none⟩ = some (.int .i64 root) := (cell_at hT 1).trans rfl
  have HI := Lib.hid hI
  have HB := Lib.hid hB
  have HT := Lib.hid hT
  have HTF := Lib.hid hTF
  have HF1 := Lib.hid h1
  have HF2 := Lib.hid h2
  have HK := Lib.hid hk4
  clear hI hB hT hTF h1 h2 hA hW hk4
  go_enter Tryz.func51, Tryz.ntmps51
  go_wp2_with (fail)
  go_region_held3 (fun w' => w'.cell? ⟨tb, 0, none⟩ = some (.pointer (some ⟨T, 0, none⟩)) ∧ w'.cell? ⟨sb, 0, none⟩ = some (.string s) ∧ w'.cell? ⟨T, 1, none⟩ = some (.int .i64 root)) (first | go_keep) (first
    | (go_at_call 52; refine (HI.out _ (Ext.refl No w).drew).mono ?_; rintro e w1 ⟨st1, rfl, ⟨hQ, n, hn, hl⟩, F1, hA1, hX1, hG1⟩; have hX1 := (Ext.refl No w).drew.noTrans hX1; have hB1 := HB.out.ext hX1 HF1.out HF2.out; have hT1 := HT.out.ext hX1 HTF.out; have t0 : w1.cell? ⟨tb, 0, none⟩ = some (.pointer (some ⟨T, 0, none⟩)) := (cell_at hB1.t 0).trans rfl; have s0 : w1.cell? ⟨sb, 0, none⟩ = some (.string s) := (cell_at hB1.s 0).trans rfl; have c1 : w1.cell? ⟨T, 1, none⟩ = some (.int .i64 root) := (cell_at hT1 1).trans rfl; have HQ := Lib.hid hQ; have HN := Lib.hid hn; have HL := Lib.hid hl; have HA1 := Lib.hid hA1; have HX1 := Lib.hid hX1; have HG1 := Lib.hid hG1; have HT1 := Lib.hid hT1; have HB1 := Lib.hid hB1; clear hQ hA1 hX1 hG1 hT1 hB1 hn hl))
  clear hX1 s0
  have n1 : ¬ w1.heap.size = tb := fun e => by have := lt_of_heap HB1.out.t; omega
  have n2 : ¬ w1.heap.size = T := fun e => by have := lt_of_heap HT1.out; omega
  have HLD := Lib.hid (fun w' (he : Ext No w1 w') => tload_ok w' (HT1.out.ext he fun f => f) (HA1.out.extNo he) HN.out)
  go_wp2_with (fail)
  go_region_held3 (fun w' => w'.cell? ⟨tb, 0, none⟩ = some (.pointer (some ⟨T, 0, none⟩)) ∧ w'.cell? ⟨T, 1, none⟩ = some (.int .i64 root)) (first | go_keep) (first
    | (go_at_call 53; (first
        | ((with_reducible refine (HLD.out w1.drew (Ext.refl No w1).drew).mono ?_); rintro e w2 ⟨ra, rc, ka, kc, rfl, hrows, he2⟩; have he2 := (Ext.refl No w1).drew.trans he2; have hB2 := HB1.out.ext he2 (fun f => f) (fun f => f); have hT2 := he2.heapNo HT1.out; have t0 : w2.cell? ⟨tb, 0, none⟩ = some (.pointer (some ⟨T, 0, none⟩)) := (cell_at hB2.t 0).trans rfl; have c1 : w2.cell? ⟨T, 1, none⟩ = some (.int .i64 root) := (cell_at hT2 1).trans rfl; have HE2 := Lib.hid he2; have HR2 := Lib.hid hrows; unfold nodeVal; clear he2 hB2 hT2 hrows)
        | ((with_reducible refine (HLD.out _ ((Ext.refl No w1).alloc _).drew).mono ?_); rintro e w2 ⟨ra, rc, ka, kc, rfl, hrows, he2⟩; have hX2 := he2.heapNo (one_a w1 _); have x0 : w2.cell? ⟨w1.heap.size, 0, none⟩ = some (.bool false) := (cell_at hX2 0).trans rfl; have x1 : w2.cell? ⟨w1.heap.size, 1, none⟩ = some (.slice none 0 0) := (cell_at hX2 1).trans rfl; have x2 : w2.cell? ⟨w1.heap.size, 2, none⟩ = some (.slice none 0 0) := (cell_at hX2 2).trans rfl; have f0 := frozen_at hX2 0; have f1 := frozen_at hX2 1; have f2 := frozen_at hX2 2; have HX2 := Lib.hid hX2; clear hX2; have he2 := ((Ext.refl No w1).alloc _).drew.trans he2; have hB2 := HB1.out.ext he2 (fun f => f) (fun f => f); have hT2 := he2.heapNo HT1.out; have t0 : w2.cell? ⟨tb, 0, none⟩ = some (.pointer (some ⟨T, 0, none⟩)) := (cell_at hB2.t 0).trans rfl; have c1 : w2.cell? ⟨T, 1, none⟩ = some (.int .i64 root) := (cell_at hT2 1).trans rfl; have HE2 := Lib.hid he2; have HR2 := Lib.hid hrows; unfold nodeVal; clear he2 hB2 hT2 hrows))))
  all_goals
    first
      | (obtain ⟨NB, hNB⟩ : ∃ NB, NB = w1.heap.size := ⟨_, rfl⟩
         obtain ⟨W3, hW3⟩ : ∃ W, W = ((w2.setCell ⟨w1.heap.size, 0, none⟩ (.bool n.leaf)).setCell ⟨w1.heap.size, 1, none⟩ (.slice ra n.recs.length rc)).setCell ⟨w1.heap.size, 2, none⟩ (.slice ka n.kids.length kc) := ⟨_, rfl⟩
         have hM : W3.heap[NB]? = some (.cells #[.bool n.leaf, .slice ra n.recs.length rc, .slice ka n.kids.length kc] 79 (0, 0)) := by rw [hW3, hNB]; exact (heap_setCell_at (heap_setCell_at (heap_setCell_at HX2.out 0 _) 1 _) 2 _).trans rfl
         have e3 : Ext No w1 W3 := by rw [hW3]; exact HE2.out.trans' ((((Ext.refl (Only w1.heap.size) w2).setCell (p := ⟨w1.heap.size, 0, none⟩) (.inl rfl) _).setCell (p := ⟨w1.heap.size, 1, none⟩) (.inl rfl) _).setCell (p := ⟨w1.heap.size, 2, none⟩) (.inl rfl) _) (fun x hx f => by have : x = w1.heap.size := f; omega)
         rw [← hW3, ← hNB]
         clear x0 x1 x2 f0 f1 f2)
      | (obtain ⟨NB, hNB⟩ : ∃ NB, NB = w2.heap.size := ⟨_, rfl⟩
         obtain ⟨W3, hW3⟩ : ∃ W, W = w2.alloc (.cells #[.bool n.leaf, .slice ra n.recs.length rc, .slice ka n.kids.length kc] 79) := ⟨_, rfl⟩
         have hM : W3.heap[NB]? = some (.cells #[.bool n.leaf, .slice ra n.recs.length rc, .slice ka n.kids.length kc] 79 (0, 0)) := by rw [hW3, hNB]; exact heap_alloc_new w2 _
         have e3 : Ext No w1 W3 := by rw [hW3]; exact HE2.out.alloc _
         rw [← hW3, ← hNB])
    have hTF1 : ¬ F1 T := Grow.not HG1.out HTF.out (lt_of_heap HT.out)
    have hB3 := HB1.out.ext e3 (fun f => f) (fun f => f)
    have hT3 := e3.heapNo HT1.out
    have t0 : W3.cell? ⟨tb, 0, none⟩ = some (.pointer (some ⟨T, 0, none⟩)) := (cell_at hB3.t 0).trans rfl
    have c3 : W3.cell? ⟨T, 3, none⟩ = some (.int .i64 ((k + 1 : Nat) : Int)) := (cell_at hT3 3).trans rfl
    have z3 := frozen_at hT3 3
    have m0 : W3.cell? ⟨NB, 0, none⟩ = some (.bool true) := by rw [← HL.out]; exact (cell_at hM 0).trans rfl
    have hw : IntKind.i64.wrap (((k + 1 : Nat) : Int) - 1) = (k : Int) := by rw [IntWalk.i64_in _ (by have := HK.out; omega)]; omega
    have hTn : TreeAt (W3.setCell ⟨T, 3, none⟩ (.int .i64 (k : Int))) T A root 1 k := (heap_setCell_at hT3 3 _).trans rfl
    have hx : Ext (Only T) W3 (W3.setCell ⟨T, 3, none⟩ (.int .i64 (k : Int))) := (Ext.refl (Only T) W3).setCell (p := ⟨T, 3, none⟩) (.inl rfl) _
    have HFIN := Lib.hid (show Del1Post T A root k F Q w (.returned (.tuple #[])) (W3.setCell ⟨T, 3, none⟩ (.int .i64 (k : Int))) from
      ⟨rfl, st1, F1, (HA1.out.extNo e3).ext hx (fun q f g => by have : q = T := g; subst this; exact hTF1 f), ((HX1.out.transNo e3).mono fun x f => .inl f).trans (hx.mono fun x f => .inr f), HG1.out, hTn, HQ.out⟩)
    clear hTF1 hB3 hT3 hTn hx hM e3 hW3 hNB
    generalize ((k + 1 : Nat) : Int) = kz at *
    go_wp2_with (fail)
    go_loop [2] (fun t => t = .pointer (some ⟨NB, 0, none⟩)) (fun _ => 0)
    case atStart => exact rfl
    case round =>
      subst hrel
      go_wp2_with (fail)
      go_end0
      exact HFIN.out
end Go.Proofs.YtanglcdiebkmiaaGreat
