import Derived.Test.YtanglcdiebkmiaaGreatRead
set_option linter.unusedSimpArgs false
set_option linter.unusedVariables false
namespace Go.Proofs.YtanglcdiebkmiaaGreat
open Go.RowKit Tw

/-- The page as a whole, as a string. -/
theorem conv_page {w : World} {b off : Nat} {l : List UInt8} (hl : l.length = 1024) (h : ∀ (i : Nat) (h : i < l.length), w.cell? ⟨b, off + i, none⟩ = some (u8 l[i])) (cap : Nat) :
    (convert 83 9 (.slice (some ⟨b, off, none⟩) 1024 cap)).run Tryz.prog w = .ok (.string ⟨l.toArray⟩) w := by
  have hb : Lib.Bytes w b off ⟨l.toArray⟩ := fun i hi => h i hi
  have hsz : (⟨l.toArray⟩ : ByteArray).size = 1024 := hl
  have := Lib.run_convert_window (P := Tryz.prog) w 83 5 9 Tryz.underlying83 Tryz.underlying5 Tryz.underlying9 b off ⟨l.toArray⟩ hb 0 1024 cap (by omega)
  rw [Nat.add_zero] at this
  have e : (⟨l.toArray⟩ : ByteArray).extract 0 (0 + 1024) = ⟨l.toArray⟩ := by
    apply str_ext
    rw [Lib.extract_data, List.drop_zero]
    exact List.take_of_length_le (Nat.le_of_eq hl)
  rw [this, e]

/-- What the closure leaves: the node in its variable. -/
def Read1 (n : Nd) (R base : Nat) (w w' : World) : Prop := ∃ ra rc ka kc,
  w'.heap[R]? = some (.cells #[.bool n.leaf, .slice ra n.recs.length rc, .slice ka n.kids.length kc] 79 (0, 0)) ∧ NodeRows n base w' ra rc ka kc ∧ Ext (Only R) w w'

set_option maxHeartbeats 1000000 in
theorem Decode1_ok {B R b off c : Nat} {n : Nd} {x y z : Value} (w : World) (hB : w.heap[B]? = some (.cells #[.slice (some ⟨b, off, none⟩) 1024 c] 83 (0, 0)))
    (hR : w.heap[R]? = some (.cells #[x, y, z] 79 (0, 0))) (hrow : RowAt w (some ⟨b, off, none⟩) ((enc n).map u8)) (hr : n.Right) (hcap : 1024 ≤ c) :
    Calls Tryz.prog 109 #[.pointer (some ⟨B, 0, none⟩), .pointer (some ⟨R, 0, none⟩)] w fun e w' => e = .returned (.tuple #[]) ∧ Read1 n R w.heap.size w w' := by
  have h1 := read_ok w hrow hr hcap
  have H1 := Lib.hid h1
  have c0 : w.cell? ⟨B, 0, none⟩ = some (.slice (some ⟨b, off, none⟩) 1024 c) := by rw [cell_at hB]; rfl
  have hRlt := lt_of_heap hR
  have HRR := Lib.hid hR
  clear h1 hrow hr hB hR
  go_enter Tryz.func109, Tryz.ntmps109
  go_wp2_with (fail)
  refine H1.out.mono ?_
  rintro e w1 ⟨ra, rc, ka, kc, rfl, ⟨hn1, hn2⟩, he⟩
  have hR1 := he.heapNo HRR.out
  have m0 : w1.cell? ⟨R, 0, none⟩ = some x := by rw [cell_at hR1]; rfl
  have m1 : w1.cell? ⟨R, 1, none⟩ = some y := by rw [cell_at hR1]; rfl
  have m2 : w1.cell? ⟨R, 2, none⟩ = some z := by rw [cell_at hR1]; rfl
  have f0 := frozen_at hR1 0
  have f1 := frozen_at hR1 1
  have f2 := frozen_at hR1 2
  have hfin : Read1 n R w.heap.size w (((w1.setCell ⟨R, 0, none⟩ (.bool n.leaf)).setCell ⟨R, 1, none⟩ (.slice ra n.recs.length rc)).setCell ⟨R, 2, none⟩ (.slice ka n.kids.length kc)) := by
    have e2 : Ext (Only R) w1 (((w1.setCell ⟨R, 0, none⟩ (.bool n.leaf)).setCell ⟨R, 1, none⟩ (.slice ra n.recs.length rc)).setCell ⟨R, 2, none⟩ (.slice ka n.kids.length kc)) :=
      (((Ext.refl (Only R) w1).setCell (p := ⟨R, 0, none⟩) (.inl rfl) _).setCell (p := ⟨R, 1, none⟩) (.inl rfl) _).setCell (p := ⟨R, 2, none⟩) (.inl rfl) _
    refine ⟨ra, rc, ka, kc, ?_, ⟨ownsRow_ext hn1 e2 fun k hk f => ?_, ownsRow_ext hn2 e2 fun k hk f => ?_⟩, he.noTrans e2⟩
    · rw [heap_setCell_at (heap_setCell_at (heap_setCell_at hR1 0 _) 1 _) 2 _]; simp
    · have := (hn1.lt _ hk).1; unfold Only at f; omega
    · have := (hn2.lt _ hk).1; unfold Only at f; omega
  have HF := Lib.hid hfin
  clear hfin hn1 hn2 he hR1
  unfold nodeVal
  go_wp2_with (fail)
  go_end0
  exact ⟨rfl, HF.out⟩

/-- A node in rows of the call's own, and OK. -/
def NodeOutOK (n : Nd) (w : World) (e : Ending) (w' : World) : Prop :=
  ∃ ra rc ka kc, e = .returned (.tuple #[nodeVal n ra rc ka kc, .int .i64 0]) ∧ NodeRows n w.heap.size w' ra rc ka kc ∧ Ext No w w'

set_option maxHeartbeats 1000000 in
theorem Decode_ok {b off c : Nat} {n : Nd} (w : World) (hrow : RowAt w (some ⟨b, off, none⟩) ((enc n).map u8)) (hr : n.Right) (hcap : 1024 ≤ c) :
    Calls Tryz.prog 79 #[.slice (some ⟨b, off, none⟩) 1024 c] w (NodeOutOK n w) := by
  obtain ⟨W3, hW3⟩ : ∃ W3, W3 = ((w.alloc (.cells #[.slice (some ⟨b, off, none⟩) 1024 c] 83)).alloc (.cells #[.bool false, .slice none 0 0, .slice none 0 0] 79)).alloc (.cells #[.int .i64 0, .int .i64 0] 75) := ⟨_, rfl⟩
  have e3 : Ext No w W3 := hW3 ▸ (((Ext.refl No w).alloc _).alloc _).alloc _
  have hB : W3.heap[w.heap.size]? = some (.cells #[.slice (some ⟨b, off, none⟩) 1024 c] 83 (0, 0)) := by
    rw [hW3, heap_alloc_lt (by simp; omega), heap_alloc_lt (by simp)]; exact heap_alloc_new _ _
  have hR : W3.heap[w.heap.size + 1]? = some (.cells #[.bool false, .slice none 0 0, .slice none 0 0] 79 (0, 0)) := by
    rw [hW3, heap_alloc_lt (by simp)]
    have := heap_alloc_new (w.alloc (.cells #[.slice (some ⟨b, off, none⟩) 1024 c] 83)) (.cells #[.bool false, .slice none 0 0, .slice none 0 0] 79)
    simpa using this
  have hX : W3.heap[w.heap.size + 1 + 1]? = some (.cells #[.int .i64 0, .int .i64 0] 75 (0, 0)) := by
    rw [hW3]
    have := heap_alloc_new ((w.alloc (.cells #[.slice (some ⟨b, off, none⟩) 1024 c] 83)).alloc (.cells #[.bool false, .slice none 0 0, .slice none 0 0] 79)) (.cells #[.int .i64 0, .int .i64 0] 75)
    simpa using this
  have h1 := Decode1_ok W3 hB hR (hrow.extNo e3) hr hcap
  have hC := Catch_ok (g := 109) #[] #[.pointer (some ⟨w.heap.size, 0, none⟩), .pointer (some ⟨w.heap.size + 1, 0, none⟩)] ((w.alloc (.cells #[.slice (some ⟨b, off, none⟩) 1024 c] 83)).alloc (.cells #[.bool false, .slice none 0 0, .slice none 0 0] 79))
    (Read1 n (w.heap.size + 1) W3.heap.size W3) (fun args w => by kernel_rfl) (by rw [← hW3]; simpa using h1) (fun w2 hq => by
      obtain ⟨_, _, _, _, _, _, he⟩ := hq
      simpa using he.heap hX (fun f => by have g : w.heap.size + 1 + 1 = w.heap.size + 1 := f; omega))
  have hRt := fun w' ra rc ka kc (h : NodeIn w' ra ka n) => Right_ok (rc := rc) (kc := kc) w' h hr.shaped (by have := hr.fits; omega)
  have hd : decide (n.size ≤ 1024) = true := by simpa using hr.fits
  simp only [hd] at hRt
  have hEn := fun w' ra rc ka kc (h : NodeIn w' ra ka n) => Encode_ok (rc := rc) (kc := kc) w' h hr
  have HC := Lib.hid hC
  have HRt := Lib.hid hRt
  have HEn := Lib.hid hEn
  have HE3 := Lib.hid e3
  have HB3 := Lib.hid hB
  have HROW := Lib.hid (hrow.extNo e3)
  have HLEN := Lib.hid (length_enc hr.fits)
  have hszW : W3.heap.size = w.heap.size + 3 := by rw [hW3]; simp
  have HSZ := Lib.hid hszW
  have hblt : b < w.heap.size := by
    have hl := length_enc hr.fits
    obtain ⟨b', off', hb, hc⟩ := hrow.cell (i := 0) (by simp; omega)
    cases hb; exact World.block_lt_of_cell? w _ hc
  clear hRt hd hEn hC h1 hX hR hB e3 hr hrow hW3 hszW
  go_enter Tryz.func79, Tryz.ntmps79
  go_wp2_with (fail)
  refine HC.out.mono ?_
  rintro e w4 ⟨rfl, w2, ⟨ra, rc, ka, kc, hR2, hn2, he2⟩, he4⟩
  simp only [World.size_alloc] at he4
  have hR4 := he4.heap hR2 (fun f => by have g : w.heap.size + 1 = w.heap.size + 1 + 1 := f; omega)
  have e34 : Ext (fun k => k = w.heap.size + 1 ∨ k = w.heap.size + 1 + 1) W3 w4 := (he2.mono fun k h => .inl h).trans (he4.mono fun k h => .inr h)
  have hB4 := e34.heap HB3.out (fun f => by omega)
  have hrow4 := HROW.out.ext e34 (fun k hk f => by obtain ⟨p, hp, hpk⟩ := hk; cases hp; simp only at hpk; omega)
  have hn4 : NodeRows n (w.heap.size + 3) w4 ra rc ka kc := by
    obtain ⟨a1, a2⟩ := hn2
    rw [HSZ.out] at a1 a2
    exact ⟨ownsRow_ext a1 he4 fun k hk f => by have := (a1.lt _ hk).1; have g : k = w.heap.size + 1 + 1 := f; omega, ownsRow_ext a2 he4 fun k hk f => by have := (a2.lt _ hk).1; have g : k = w.heap.size + 1 + 1 := f; omega⟩
  have e4 : Ext No w w4 := HE3.out.trans' e34 fun x hx f => by omega
  have m0 : w4.cell? ⟨w.heap.size + 1, 0, none⟩ = some (.bool n.leaf) := by rw [cell_at hR4]; rfl
  have m1 : w4.cell? ⟨w.heap.size + 1, 1, none⟩ = some (.slice ra n.recs.length rc) := by rw [cell_at hR4]; rfl
  have m2 : w4.cell? ⟨w.heap.size + 1, 2, none⟩ = some (.slice ka n.kids.length kc) := by rw [cell_at hR4]; rfl
  have hlt4 := lt_of_heap hR4
  have k0 : ∀ O, (w4.alloc O).cell? ⟨w.heap.size + 1, 0, none⟩ = some (.bool n.leaf) := fun O => ((Ext.refl No w4).alloc O).cellSome m0 (fun f => f)
  have k1 : ∀ O, (w4.alloc O).cell? ⟨w.heap.size + 1, 1, none⟩ = some (.slice ra n.recs.length rc) := fun O => ((Ext.refl No w4).alloc O).cellSome m1 (fun f => f)
  have k2 : ∀ O, (w4.alloc O).cell? ⟨w.heap.size + 1, 2, none⟩ = some (.slice ka n.kids.length kc) := fun O => ((Ext.refl No w4).alloc O).cellSome m2 (fun f => f)
  have HR4 := Lib.hid hR4
  have HB4 := Lib.hid hB4
  have HROW4 := Lib.hid hrow4
  have HN4 := Lib.hid hn4
  have HE4 := Lib.hid e4
  clear hR2 hn2 he2 he4 hR4 e34 hB4 hrow4 hn4 e4 m0 m1 m2
  go_wp2_with (fail)
  have hni : NodeIn w4 ra ka n := ⟨RowAt.ofOwns HN4.out.1, RowAt.ofOwns HN4.out.2⟩
  refine (HRt.out _ _ _ _ _ (hni.extNo ((Ext.refl No w4).alloc _))).mono ?_
  rintro e w5 ⟨rfl, he5⟩
  have e45 : Ext No w4 w5 := ((Ext.refl No w4).alloc _).trans' he5 fun _ _ f => f
  have hR5 := e45.heapNo HR4.out
  have m0 : w5.cell? ⟨w.heap.size + 1, 0, none⟩ = some (.bool n.leaf) := by rw [cell_at hR5]; rfl
  have m1 : w5.cell? ⟨w.heap.size + 1, 1, none⟩ = some (.slice ra n.recs.length rc) := by rw [cell_at hR5]; rfl
  have m2 : w5.cell? ⟨w.heap.size + 1, 2, none⟩ = some (.slice ka n.kids.length kc) := by rw [cell_at hR5]; rfl
  have HE45 := Lib.hid e45
  have HNI := Lib.hid (hni.extNo e45)
  clear k0 k1 k2 he5 e45 hR5 hni
  go_wp2_with (fail)
  refine (HEn.out _ _ _ _ _ HNI.out).mono ?_
  rintro e w6 ⟨g, rfl, hg, hgl, he6⟩
  have e46 := HE45.out.trans he6
  have hR6 := e46.heapNo HR4.out
  have hB6 := e46.heapNo HB4.out
  have hrow6 := HROW4.out.extNo e46
  have m0 : w6.cell? ⟨w.heap.size + 1, 0, none⟩ = some (.bool n.leaf) := by rw [cell_at hR6]; rfl
  have m1 : w6.cell? ⟨w.heap.size + 1, 1, none⟩ = some (.slice ra n.recs.length rc) := by rw [cell_at hR6]; rfl
  have m2 : w6.cell? ⟨w.heap.size + 1, 2, none⟩ = some (.slice ka n.kids.length kc) := by rw [cell_at hR6]; rfl
  have f0 := frozen_at hR6 0
  have f1 := frozen_at hR6 1
  have f2 := frozen_at hR6 2
  have b0 : w6.cell? ⟨w.heap.size, 0, none⟩ = some (.slice (some ⟨b, off, none⟩) 1024 c) := by rw [cell_at hB6]; rfl
  have cv1 := conv_page (w := w6) (b := g) (off := 0) (l := enc n) HLEN.out (fun i hi => by rw [Nat.zero_add, cell_at hg]; simp [cellsOf, hi]) 1024
  have cv2 := conv_page (w := w6) (b := b) (off := off) (l := enc n) HLEN.out (fun i hi => by
    obtain ⟨b', off', hb, hc⟩ := hrow6.cell (i := i) (by simpa using hi)
    cases hb; rw [hc]; simp) c
  generalize (⟨(enc n).toArray⟩ : ByteArray) = S at cv1 cv2
  have HFIN := Lib.hid (show NodeRows n w.heap.size w6 ra rc ka kc ∧ Ext No w w6 ∧ (∀ k, (Value.slice ra n.recs.length rc).ownBlock = some k → w.heap.size + 3 ≤ k) ∧ (∀ k, (Value.slice ka n.kids.length kc).ownBlock = some k → w.heap.size + 3 ≤ k) from
    ⟨⟨ownsRow_base (ownsRow_ext HN4.out.1 e46 fun _ _ f => f) fun k hk => by have := (HN4.out.1.lt _ hk).1; omega, ownsRow_base (ownsRow_ext HN4.out.2 e46 fun _ _ f => f) fun k hk => by have := (HN4.out.2.lt _ hk).1; omega⟩, HE4.out.trans e46, fun k hk => (HN4.out.1.lt _ hk).1, fun k hk => (HN4.out.2.lt _ hk).1⟩)
  clear e46 hR6 hB6 hrow6 hg hgl he6
  go_wp2_with (fail)
  refine bodyPost_ret (v := .tuple #[nodeVal n ra rc ka kc, .int .i64 0]) (by unfold nodeVal; simp [results, Tryz.results79, go_sem, *]) rfl ?_
  have eF : Ext (Only (w.heap.size + 1)) w6 (((w6.setCell ⟨w.heap.size + 1, 0, none⟩ (.bool n.leaf)).setCell ⟨w.heap.size + 1, 1, none⟩ (.slice ra n.recs.length rc)).setCell ⟨w.heap.size + 1, 2, none⟩ (.slice ka n.kids.length kc)) :=
    (((Ext.refl (Only (w.heap.size + 1)) w6).setCell (p := ⟨w.heap.size + 1, 0, none⟩) (.inl rfl) _).setCell (p := ⟨w.heap.size + 1, 1, none⟩) (.inl rfl) _).setCell (p := ⟨w.heap.size + 1, 2, none⟩) (.inl rfl) _
  exact ⟨ra, rc, ka, kc, rfl, ⟨ownsRow_ext HFIN.out.1.1 eF fun k hk f => by have := HFIN.out.2.2.1 k hk; unfold Only at f; omega, ownsRow_ext HFIN.out.1.2 eF fun k hk f => by have := HFIN.out.2.2.2 k hk; unfold Only at f; omega⟩, HFIN.out.2.1.trans' eF fun x hx f => by unfold Only at f; omega⟩
end Go.Proofs.YtanglcdiebkmiaaGreat
