/- A tree in memory; tree.load, store, alloc. -/
import Derived.Test.YtanglcdiebkmiaaGreatDecode
import Derived.Test.YtanglcdiebkmiaaGreatSplit2
import Derived.Test.YtanglcdiebkmiaaGreatFind
import Derived.Test.YtanglcdiebkmiaaGreatDel
import Derived.Test.YtanglcdiebkmiaaGreatAlloc
import Derived.Test.YtanglcdiebkmiaaGreatArena2
import Derived.Test.YtanglcdiebkmiaaGreatEncode
set_option linter.unusedSimpArgs false
set_option linter.unusedVariables false
namespace Go.Proofs.YtanglcdiebkmiaaGreat
open Go.RowKit Tw

/-- A tree in memory. -/
def TreeAt (w : World) (T A root h k : Nat) : Prop :=
  w.heap[T]? = some (.cells #[.pointer (some ⟨A, 0, none⟩), .int .i64 root, .int .i64 h, .int .i64 k] 73 (0, 0))

set_option maxHeartbeats 1000000 in
theorem tload_ok {T A id root h k : Nat} {st : St} {F : Nat → Prop} {n : Nd} (w : World) (hT : TreeAt w T A root h k) (hA : Arena w A st F) (hn : st.node id = some n) :
    Calls Tryz.prog 53 #[.pointer (some ⟨T, 0, none⟩), .int .i64 id] w (NodeOut n w) := by
  have hg := St.node_some hn
  have hr : n.Right := hA.wf.ok _ _ hg
  have hlen : ((Pg.node n).bytes.map u8).length = 1024 := by rw [List.length_map]; exact length_enc hr.fits
  have hL := fun w' (he : Ext No w w') => Load_ok (p := .node n) w' (hA.extNo he) hg
  have hD := fun b off c w' hrow hc => Decode_ok (b := b) (off := off) (c := c) (n := n) w' hrow hr hc
  have hCk := Check_ok
  have HL := Lib.hid hL
  have HD := Lib.hid hD
  have HT := Lib.hid hT
  have HCK := Lib.hid hCk
  have HLEN := Lib.hid hlen
  have k0 : ∀ O, (w.alloc O).cell? ⟨T, 0, none⟩ = some (.pointer (some ⟨A, 0, none⟩)) := fun O => (cell_at (((Ext.refl No w).alloc O).heapNo hT) 0).trans rfl
  clear hL hD hCk hT hlen hr hn hA hg
  go_enter Tryz.func53, Tryz.ntmps53
  go_wp2_with (fail)
  refine (HL.out _ ((Ext.refl No w).alloc _)).mono ?_
  rintro e w2 ⟨v, rfl, hown, he2⟩
  rw [HLEN.out] at hown
  have hX1 := he2.heapNo (heap_alloc_new w (.cells #[.bool false, .slice none 0 0, .slice none 0 0] 79))
  have e2 : Ext No w w2 := ((Ext.refl No w).alloc _).trans he2
  obtain ⟨a, c, rfl, hc, _⟩ := ownsRow_form hown
  obtain ⟨b, rfl, hbase, hblt, _, _⟩ := ownsRow_open hown (by decide)
  have hrow := RowAt.ofOwns hown
  have HX := Lib.hid hX1
  have HE2 := Lib.hid e2
  have HROW := Lib.hid hrow
  clear hown he2 hX1 e2 hrow k0
  go_wp2_with (fail)
  refine (HCK.out _).mono ?_
  rintro e w2' ⟨rfl, rfl⟩
  go_wp2_with (fail)
  refine (HD.out _ _ _ _ HROW.out hc).mono ?_
  rintro e w3 ⟨ra, rc, ka, kc, rfl, hrows, he3⟩
  have hX3 := he3.heapNo HX.out
  have e3 := HE2.out.trans he3
  obtain ⟨W4, hW4⟩ : ∃ W4, W4 = w3.alloc (.cells #[.bool n.leaf, .slice ra n.recs.length rc, .slice ka n.kids.length kc] 79) := ⟨_, rfl⟩
  have HX3 := Lib.hid hX3
  have HE3 := Lib.hid e3
  have HE23 := Lib.hid he3
  have HROWS := Lib.hid hrows
  clear he3 hX3 e3 hrows
  unfold nodeVal
  go_wp2_with (fail)
  rw [← hW4]
  refine (HCK.out _).mono ?_
  rintro e w5 ⟨rfl, rfl⟩
  have hN : w5.heap[w3.heap.size]? = some (.cells #[.bool n.leaf, .slice ra n.recs.length rc, .slice ka n.kids.length kc] 79 (0, 0)) := by rw [hW4]; exact heap_alloc_new _ _
  have e35 : Ext No w3 w5 := by rw [hW4]; exact (Ext.refl No w3).alloc _
  have hX5 := e35.heapNo HX3.out
  have m0 : w5.cell? ⟨w3.heap.size, 0, none⟩ = some (.bool n.leaf) := (cell_at hN 0).trans rfl
  have m1 : w5.cell? ⟨w3.heap.size, 1, none⟩ = some (.slice ra n.recs.length rc) := (cell_at hN 1).trans rfl
  have m2 : w5.cell? ⟨w3.heap.size, 2, none⟩ = some (.slice ka n.kids.length kc) := (cell_at hN 2).trans rfl
  have x0 : w5.cell? ⟨w.heap.size, 0, none⟩ = some (.bool false) := (cell_at hX5 0).trans rfl
  have x1 : w5.cell? ⟨w.heap.size, 1, none⟩ = some (.slice none 0 0) := (cell_at hX5 1).trans rfl
  have x2 : w5.cell? ⟨w.heap.size, 2, none⟩ = some (.slice none 0 0) := (cell_at hX5 2).trans rfl
  have f0 := frozen_at hX5 0
  have f1 := frozen_at hX5 1
  have f2 := frozen_at hX5 2
  have hlt : w.heap.size < w2'.heap.size := lt_of_heap HX.out
  have hrows5 : NodeRows n w2'.heap.size w5 ra rc ka kc := ⟨ownsRow_ext HROWS.out.1 e35 fun _ _ f => f, ownsRow_ext HROWS.out.2 e35 fun _ _ f => f⟩
  have eF : Ext (Only w.heap.size) w5 (((w5.setCell ⟨w.heap.size, 0, none⟩ (.bool n.leaf)).setCell ⟨w.heap.size, 1, none⟩ (.slice ra n.recs.length rc)).setCell ⟨w.heap.size, 2, none⟩ (.slice ka n.kids.length kc)) :=
    (((Ext.refl (Only w.heap.size) w5).setCell (p := ⟨w.heap.size, 0, none⟩) (.inl rfl) _).setCell (p := ⟨w.heap.size, 1, none⟩) (.inl rfl) _).setCell (p := ⟨w.heap.size, 2, none⟩) (.inl rfl) _
  have HFIN := Lib.hid (show NodeOut n w (.returned (nodeVal n ra rc ka kc)) (((w5.setCell ⟨w.heap.size, 0, none⟩ (.bool n.leaf)).setCell ⟨w.heap.size, 1, none⟩ (.slice ra n.recs.length rc)).setCell ⟨w.heap.size, 2, none⟩ (.slice ka n.kids.length kc)) from
    ⟨ra, rc, ka, kc, rfl, ⟨ownsRow_base (ownsRow_ext hrows5.1 eF fun k hk f => by have := (hrows5.1.lt _ hk).1; unfold Only at f; omega) fun k hk => by have := (hrows5.1.lt _ hk).1; omega, ownsRow_base (ownsRow_ext hrows5.2 eF fun k hk f => by have := (hrows5.2.lt _ hk).1; unfold Only at f; omega) fun k hk => by have := (hrows5.2.lt _ hk).1; omega⟩, (HE3.out.trans e35).trans' eF fun x hx f => by unfold Only at f; omega⟩)
  clear hN e35 hX5 hlt hrows5 eF hW4
  unfold nodeVal at HFIN
  go_wp2_with (fail)
  refine bodyPost_ret (v := .agg #[.bool n.leaf, .slice ra n.recs.length rc, .slice ka n.kids.length kc]) (by simp [results, Tryz.results53, go_sem, *]) rfl ?_
  exact HFIN.out

theorem Turns.before {A : Nat} {st : St} {F : Nat → Prop} {w w1 w' : World} (he : Ext No w w1) (h : Turns A st F w1 w') : Turns A st F w w' := by
  obtain ⟨F', ha, hx, hg⟩ := h
  exact ⟨F', ha, he.noTrans hx, fun k hk => (hg k hk).imp id fun h => by have := he.size; omega⟩
theorem Turns.then {A : Nat} {st : St} {F : Nat → Prop} {w w1 w' : World} (h : Turns A st F w w1) (he : Ext No w1 w') : Turns A st F w w' := by
  obtain ⟨F', ha, hx, hg⟩ := h
  exact ⟨F', ha.extNo he, hx.transNo he, hg⟩

set_option maxHeartbeats 1000000 in
theorem tstore_ok {T A id root h k rc kc : Nat} {ra ka : Option Addr} {st : St} {F : Nat → Prop} {n : Nd} {p : Pg} (w : World) (hT : TreeAt w T A root h k) (hA : Arena w A st F) (hp : st.get id = some p) (hn : NodeIn w ra ka n) (hr : n.Right) :
    Calls Tryz.prog 62 #[.pointer (some ⟨T, 0, none⟩), .int .i64 id, nodeVal n ra rc ka kc] w fun e w' => e = .returned (.tuple #[]) ∧ Turns A (st.put id (.node n)) F w w' := by
  have hE := fun w' (he : Ext No w w') => Encode_ok (rc := rc) (kc := kc) w' (hn.extNo he) hr
  have hS := fun b c w' (he : Ext No w w') hrow => Store_ok (c := c) (b := b) (q := .node n) (fr := (0, 0)) w' (hA.extNo he) hp hr hrow
  have hCk := Check_ok
  have HE := Lib.hid hE
  have HS := Lib.hid hS
  have HT := Lib.hid hT
  have HCK := Lib.hid hCk
  clear hE hS hCk hT hA hp hn hr
  obtain ⟨W1, hW1⟩ : ∃ W1, W1 = w.alloc (.cells #[.bool n.leaf, .slice ra n.recs.length rc, .slice ka n.kids.length kc] 79) := ⟨_, rfl⟩
  have hN : W1.heap[w.heap.size]? = some (.cells #[.bool n.leaf, .slice ra n.recs.length rc, .slice ka n.kids.length kc] 79 (0, 0)) := by rw [hW1]; exact heap_alloc_new _ _
  have e1 : Ext No w W1 := by rw [hW1]; exact (Ext.refl No w).alloc _
  have m0 : W1.cell? ⟨w.heap.size, 0, none⟩ = some (.bool n.leaf) := (cell_at hN 0).trans rfl
  have m1 : W1.cell? ⟨w.heap.size, 1, none⟩ = some (.slice ra n.recs.length rc) := (cell_at hN 1).trans rfl
  have m2 : W1.cell? ⟨w.heap.size, 2, none⟩ = some (.slice ka n.kids.length kc) := (cell_at hN 2).trans rfl
  have HE1 := Lib.hid e1
  clear hN e1
  unfold nodeVal at HE ⊢
  go_enter Tryz.func62, Tryz.ntmps62
  go_upto_region 1 with (fail)
  rw [← hW1]
  clear hW1
  go_wp2_with (fail)
  refine (HE.out _ HE1.out).mono ?_
  rintro e w2 ⟨g, rfl, hg, hgl, he2⟩
  have e2 := HE1.out.trans he2
  have HE2 := Lib.hid e2
  have HG := Lib.hid hg
  have HTE := Lib.hid (e2.heapNo HT.out)
  clear hg hgl he2 e2 m0 m1 m2
  go_wp2_with (fail)
  refine (HCK.out _).mono ?_
  rintro e w2' ⟨rfl, rfl⟩
  have c0 : w2'.cell? ⟨T, 0, none⟩ = some (.pointer (some ⟨A, 0, none⟩)) := (cell_at HTE.out 0).trans rfl
  go_wp2_with (fail)
  refine (HS.out _ _ _ HE2.out HG.out).mono ?_
  rintro e w3 ⟨rfl, ht⟩
  have HTU := Lib.hid (Turns.before HE2.out ht)
  clear ht c0
  go_wp2_with (fail)
  refine (HCK.out _).mono ?_
  rintro e w4 ⟨rfl, rfl⟩
  go_wp2_with (fail)
  go_end0
  exact ⟨rfl, HTU.out⟩
theorem Turns.trans {A : Nat} {st2 : St} {F F' : Nat → Prop} {w w1 w2 : World} (hx : Ext F w w1) (hg : Grow F F' w) (h2 : Turns A st2 F' w1 w2) : Turns A st2 F w w2 := by
  obtain ⟨F'', a, x, g⟩ := h2
  exact ⟨F'', a, hx.grown x hg, hg.trans g hx.size⟩
theorem Grow.not {F F' : Nat → Prop} {w : World} (h : Grow F F' w) {k : Nat} (hk : ¬ F k) (hl : k < w.heap.size) : ¬ F' k := fun f => (h k f).elim hk fun g => by omega
theorem TreeAt.ext {F : Nat → Prop} {w w' : World} {T A root h k : Nat} (ht : TreeAt w T A root h k) (he : Ext F w w') (hF : ¬ F T) : TreeAt w' T A root h k := he.heap ht hF

set_option maxHeartbeats 1000000 in
theorem talloc_ok {T A root h k rc kc : Nat} {ra ka : Option Addr} {st : St} {F : Nat → Prop} {n : Nd} (w : World) (hT : TreeAt w T A root h k) (hA : Arena w A st F) (hTF : ¬ F T) (hl : st.left ≠ 0) (hn : NodeIn w ra ka n) (hr : n.Right)
    (hra : ∀ k, Blk ra k → ¬ F k) (hka : ∀ k, Blk ka k → ¬ F k) :
    Calls Tryz.prog 37 #[.pointer (some ⟨T, 0, none⟩), nodeVal n ra rc ka kc] w fun e w' => e = .returned (.int .i64 st.new.1) ∧ Turns A (st.new.2.put st.new.1 (.node n)) F w w' := by
  have hAl := fun w' (he : Ext No w w') => Alloc_ok w' (hA.extNo he) hl
  have hget : st.new.2.get st.new.1 = some .raw := by rw [(St.new_spec hA.wf).2.2.1, if_pos rfl]
  have hS := fun w' F' hT' hA' hn' => tstore_ok (rc := rc) (kc := kc) (ra := ra) (ka := ka) (id := st.new.1) (T := T) (A := A) (root := root) (h := h) (k := k) (n := n) (F := F') (p := .raw) w' hT' hA' hget hn' hr
  have hCk := Check_ok
  have HAL := Lib.hid hAl
  have HS := Lib.hid hS
  have HT := Lib.hid hT
  have HCK := Lib.hid hCk
  have HN := Lib.hid hn
  have HLT := Lib.hid hA.lt
  clear hAl hget hS hCk hT hA hl hn hr
  obtain ⟨W1, hW1⟩ : ∃ W1, W1 = w.alloc (.cells #[.bool n.leaf, .slice ra n.recs.length rc, .slice ka n.kids.length kc] 79) := ⟨_, rfl⟩
  have hB : W1.heap[w.heap.size]? = some (.cells #[.bool n.leaf, .slice ra n.recs.length rc, .slice ka n.kids.length kc] 79 (0, 0)) := by rw [hW1]; exact heap_alloc_new _ _
  have e1 : Ext No w W1 := by rw [hW1]; exact (Ext.refl No w).alloc _
  have c0 : W1.cell? ⟨T, 0, none⟩ = some (.pointer (some ⟨A, 0, none⟩)) := (cell_at (e1.heapNo HT.out) 0).trans rfl
  have HB := Lib.hid hB
  have HE1 := Lib.hid e1
  clear hB e1
  unfold nodeVal at HS ⊢
  go_enter Tryz.func37, Tryz.ntmps37
  go_upto_region 1 with (fail)
  rw [← hW1]
  clear hW1
  go_wp2_with (fail)
  refine (HAL.out _ HE1.out).mono ?_
  rintro e w2 ⟨rfl, F', hA2, hx2, hg2⟩
  have hB2 := hx2.heap HB.out (fun f => by have := HLT.out _ f; omega)
  have hT2 := (TreeAt.ext HT.out HE1.out (fun f => f)).ext hx2 hTF
  have hN2 := (HN.out.extNo HE1.out).ext hx2 hra hka
  have m0 : w2.cell? ⟨w.heap.size, 0, none⟩ = some (.bool n.leaf) := (cell_at hB2 0).trans rfl
  have m1 : w2.cell? ⟨w.heap.size, 1, none⟩ = some (.slice ra n.recs.length rc) := (cell_at hB2 1).trans rfl
  have m2 : w2.cell? ⟨w.heap.size, 2, none⟩ = some (.slice ka n.kids.length kc) := (cell_at hB2 2).trans rfl
  have hS2 := HS.out w2 F' hT2 hA2 hN2
  have HS2 := Lib.hid hS2
  have HX2 := Lib.hid hx2
  have HG2 := Lib.hid hg2
  clear hA2 hx2 hg2 hB2 hT2 hN2 hS2 c0
  go_wp2_with (fail)
  refine (HCK.out _).mono ?_
  rintro e w2' ⟨rfl, rfl⟩
  go_wp2_with (fail)
  refine HS2.out.mono ?_
  rintro e w3 ⟨rfl, ht⟩
  have HTU := Lib.hid (Turns.before HE1.out (Turns.trans HX2.out HG2.out ht))
  clear ht m0 m1 m2
  go_wp2_with (fail)
  go_ret
  exact ⟨rfl, HTU.out⟩
end Go.Proofs.YtanglcdiebkmiaaGreat
