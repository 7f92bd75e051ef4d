import Derived.Test.YtanglcdiebkmiaaGreatDec0
import Derived.Deep.AppendLies
import Derived.Deep.RegionLaw
import Derived.Lib.SlBytesRow
set_option linter.unusedSimpArgs false
set_option linter.unusedVariables false
namespace Go.Proofs.YtanglcdiebkmiaaGreat
open Go.RowKit Tw

theorem InAt.extNo {w w' : World} {o b off c at_ : Nat} {l : List UInt8} (h : InAt w o b off c l at_) (he : Ext No w w') : InAt w' o b off c l at_ :=
  ⟨he.heapNo h.st, fun i hi => he.cellSome (h.row i hi) (fun f => f), h.len, h.ne⟩

/-- While a page is read: the reader, and the node so far (kk kids, rr entries). -/
def ReadAt (w wr : World) (b off c : Nat) (n : Nd) (at_ kk rr : Nat) : Prop :=
  InAt wr (w.heap.size + 1) b off c (enc n) at_ ∧ b < w.heap.size ∧ Ext No w wr ∧ wr.heap[w.heap.size]? = some (.cells #[.bool false, .slice none 0 0, .slice none 0 0] 79 (0, 0)) ∧ ∃ ra rc ka kc,
    wr.heap[w.heap.size + 1 + 1]? = some (.cells #[.bool n.leaf, .slice ra rr rc, .slice ka kk kc] 79 (0, 0)) ∧
    wr.ownsRow (w.heap.size + 3) 9 1 (.slice ra rr rc) rr ((n.recs.take rr).map .string) ∧
    wr.ownsRow (w.heap.size + 3) 3 1 (.slice ka kk kc) kk ((n.kids.take kk).map i64)

theorem ReadAt.start {w : World} {b off c : Nat} {n : Nd} (hrow : ∀ (i : Nat) (h : i < (enc n).length), w.cell? ⟨b, off + i, none⟩ = some (u8 (enc n)[i])) (hl : (enc n).length = 1024) (hb : b < w.heap.size) :
    ReadAt w (((w.alloc (.cells #[.bool false, .slice none 0 0, .slice none 0 0] 79)).alloc (.cells #[.slice (some ⟨b, off, none⟩) 1024 c, .int .i64 1] 172)).alloc (.cells #[.bool n.leaf, .slice none 0 0, .slice none 0 0] 79)) b off c n 1 0 0 := by
  have e := (((Ext.refl No w).alloc (.cells #[.bool false, .slice none 0 0, .slice none 0 0] 79)).alloc (.cells #[.slice (some ⟨b, off, none⟩) 1024 c, .int .i64 1] 172)).alloc (.cells #[.bool n.leaf, .slice none 0 0, .slice none 0 0] 79)
  refine ⟨⟨?_, fun i hi => e.cellSome (hrow i hi) (fun f => f), hl, by omega⟩, hb, e, ?_, none, 0, none, 0, ?_, World.ownsRow_nil _ _ _ _, World.ownsRow_nil _ _ _ _⟩
  · rw [heap_alloc_lt (by simp)]
    have := heap_alloc_new (w.alloc (.cells #[.bool false, .slice none 0 0, .slice none 0 0] 79)) (.cells #[.slice (some ⟨b, off, none⟩) 1024 c, .int .i64 1] 172)
    simpa using this
  · rw [heap_alloc_lt (by simp; omega), heap_alloc_lt (by simp)]; exact heap_alloc_new _ _
  · have := heap_alloc_new ((w.alloc (.cells #[.bool false, .slice none 0 0, .slice none 0 0] 79)).alloc (.cells #[.slice (some ⟨b, off, none⟩) 1024 c, .int .i64 1] 172)) (.cells #[.bool n.leaf, .slice none 0 0, .slice none 0 0] 79)
    simpa using this

/-- The reader goes on; the node stands. -/
theorem ReadAt.go {w wr w' : World} {b off c : Nat} {n : Nd} {at_ at' kk rr : Nat} (h : ReadAt w wr b off c n at_ kk rr) (hi : InAt w' (w.heap.size + 1) b off c (enc n) at') (he : Ext (Only (w.heap.size + 1)) wr w') : ReadAt w w' b off c n at' kk rr := by
  obtain ⟨_, hb, e, hR, ra, rc, ka, kc, h1, h2, h3⟩ := h
  refine ⟨hi, hb, e.trans' he fun x hx f => by unfold Only at f; omega, he.heap hR (fun f => by unfold Only at f; omega), ra, rc, ka, kc, he.heap h1 (fun f => by unfold Only at f; omega), ownsRow_ext h2 he fun k hk f => ?_, ownsRow_ext h3 he fun k hk f => ?_⟩
  · unfold Only at f; have := (h2.lt _ hk).1; omega
  · unfold Only at f; have := (h3.lt _ hk).1; omega

theorem owns_ne {w : World} {b1 b2 n1 n2 x : Nat} {e1 e2 : TypeId} {v1 v2 : Value} {xs1 xs2 : List Value} (h1 : w.ownsRow b1 e1 1 v1 n1 xs1) (h2 : w.ownsRow b2 e2 1 v2 n2 xs2) (he : e1 ≠ e2)
    (hx : v1.ownBlock = some x) : v2.ownBlock ≠ some x := by
  intro hy
  rcases h1.2 with ⟨rfl, _⟩ | ⟨g1, c1, cur1, rfl, _, hg1, _⟩
  · cases hx
  · rcases h2.2 with ⟨rfl, _⟩ | ⟨g2, c2, cur2, rfl, _, hg2, _⟩
    · cases hy
    · simp [Value.ownBlock] at hx hy
      subst hx hy
      exact ne_of_elem hg1 hg2 he rfl

/-- One kid more. -/
theorem ReadAt.kid {w w2 w3 : World} {b off c : Nat} {n : Nd} {at_ k rr g cap : Nat} {ka : Option Addr} {kc : Nat} {O : Obj} {kid : Value} (h : ReadAt w w2 b off c n at_ k rr) (hlt : k < n.kids.length) (hk : kid = .int .i64 n.kids[k])
    (hN : w2.cell? ⟨w.heap.size + 1 + 1, 2, none⟩ = some (.slice ka k kc))
    (hown : w3.ownsRow (w.heap.size + 3) 3 1 (.slice (some ⟨g, 0, none⟩) (k + 1) cap) (k + 1) ((n.kids.take k).map i64 ++ [kid]))
    (hg : (w2.alloc O).grownBy w3 (Value.slice ka k kc).ownBlock) (hat : (Value.slice ka k kc).ownBlock = some g ∨ g = w2.heap.size + 1) :
    ReadAt w (w3.setCell ⟨w.heap.size + 1 + 1, 2, none⟩ (.slice (some ⟨g, 0, none⟩) (k + 1) cap)) b off c n at_ (k + 1) rr := by
  obtain ⟨hI, hbw, hE, hR, ra, rc, ka', kc', h1, h2, h3⟩ := h
  rw [cell_at h1] at hN
  have hN' : Value.slice ka' k kc' = .slice ka k kc := by simpa using hN
  cases hN'
  have hlt2 := lt_of_heap h1
  have hk3 : ∀ x, (Value.slice ka k kc).ownBlock = some x → w.heap.size + 3 ≤ x := fun x hx => (h3.lt x hx).1
  have e1 : Ext (fun x => (Value.slice ka k kc).ownBlock = some x) w2 w3 := ((Ext.refl _ w2).alloc O).grownBy hg fun x hx => .inl hx
  have e2 : Ext (Only (w.heap.size + 1 + 1)) w3 (w3.setCell ⟨w.heap.size + 1 + 1, 2, none⟩ (.slice (some ⟨g, 0, none⟩) (k + 1) cap)) := (Ext.refl (Only (w.heap.size + 1 + 1)) w3).setCell (p := ⟨w.heap.size + 1 + 1, 2, none⟩) (.inl rfl) _
  have hge : w.heap.size + 3 ≤ g := by
    rcases hat with e | e
    · exact hk3 g e
    · omega
  have e3 : Ext (fun x => (Value.slice ka k kc).ownBlock = some x ∨ x = w.heap.size + 1 + 1) w2 (w3.setCell ⟨w.heap.size + 1 + 1, 2, none⟩ (.slice (some ⟨g, 0, none⟩) (k + 1) cap)) :=
    (e1.mono fun _ h => .inl h).trans (e2.mono fun x h => .inr h)
  have hb : b ≠ w.heap.size + 1 + 1 ∧ ∀ x, (Value.slice ka k kc).ownBlock = some x → b ≠ x := ⟨by omega, fun x hx => by have := hk3 x hx; omega⟩
  refine ⟨⟨e3.heap hI.st (fun f => ?_), fun i hi => e3.cellSome (hI.row i hi) (fun f => ?_), hI.len, hI.ne⟩, hbw, hE.trans' e3 (fun x hx f => ?_), e3.heap hR (fun f => ?_), ra, rc, some ⟨g, 0, none⟩, cap, ?_, ?_, ?_⟩
  · rcases f with f | f
    · have := hk3 _ f; omega
    · omega
  · rcases f with f | f
    · exact hb.2 _ f rfl
    · exact hb.1 f
  · rcases f with f | f
    · have := hk3 _ f; omega
    · omega
  · rcases f with f | f
    · have := hk3 _ f; omega
    · omega
  · rw [heap_setCell_at (e1.heap h1 fun f => by have := hk3 _ f; omega)]; simp
  · refine ownsRow_ext h2 e3 fun x hx f => ?_
    rcases f with f | f
    · exact owns_ne h2 h3 (by decide) hx f
    · have := (h2.lt _ hx).1; omega
  · rw [List.take_succ_eq_append_getElem hlt, List.map_append]
    have : [kid] = List.map i64 [n.kids[k]] := by rw [hk]; rfl
    rw [← this]
    refine ownsRow_ext hown e2 fun x hx f => ?_
    simp [Value.ownBlock] at hx; unfold Only at f; omega

/-- One entry more. -/
theorem ReadAt.rec_ {w w2 w3 : World} {b off c : Nat} {n : Nd} {at_ k kk g cap : Nat} {ra : Option Addr} {rc : Nat} {O : Obj} {kid : Value} (h : ReadAt w w2 b off c n at_ kk k) (hlt : k < n.recs.length) (hk : kid = .string n.recs[k])
    (hN : w2.cell? ⟨w.heap.size + 1 + 1, 1, none⟩ = some (.slice ra k rc))
    (hown : w3.ownsRow (w.heap.size + 3) 9 1 (.slice (some ⟨g, 0, none⟩) (k + 1) cap) (k + 1) ((n.recs.take k).map .string ++ [kid]))
    (hg : (w2.alloc O).grownBy w3 (Value.slice ra k rc).ownBlock) (hat : (Value.slice ra k rc).ownBlock = some g ∨ g = w2.heap.size + 1) :
    ReadAt w (w3.setCell ⟨w.heap.size + 1 + 1, 1, none⟩ (.slice (some ⟨g, 0, none⟩) (k + 1) cap)) b off c n at_ kk (k + 1) := by
  obtain ⟨hI, hbw, hE, hR, ra', rc', ka, kc, h1, h3, h2⟩ := h
  rw [cell_at h1] at hN
  have hN' : Value.slice ra' k rc' = .slice ra k rc := by simpa using hN
  cases hN'
  have hlt2 := lt_of_heap h1
  have hk3 : ∀ x, (Value.slice ra k rc).ownBlock = some x → w.heap.size + 3 ≤ x := fun x hx => (h3.lt x hx).1
  have e1 : Ext (fun x => (Value.slice ra k rc).ownBlock = some x) w2 w3 := ((Ext.refl _ w2).alloc O).grownBy hg fun x hx => .inl hx
  have e2 : Ext (Only (w.heap.size + 1 + 1)) w3 (w3.setCell ⟨w.heap.size + 1 + 1, 1, none⟩ (.slice (some ⟨g, 0, none⟩) (k + 1) cap)) := (Ext.refl (Only (w.heap.size + 1 + 1)) w3).setCell (p := ⟨w.heap.size + 1 + 1, 1, none⟩) (.inl rfl) _
  have hge : w.heap.size + 3 ≤ g := by
    rcases hat with e | e
    · exact hk3 g e
    · omega
  have e3 : Ext (fun x => (Value.slice ra k rc).ownBlock = some x ∨ x = w.heap.size + 1 + 1) w2 (w3.setCell ⟨w.heap.size + 1 + 1, 1, none⟩ (.slice (some ⟨g, 0, none⟩) (k + 1) cap)) :=
    (e1.mono fun _ h => .inl h).trans (e2.mono fun x h => .inr h)
  have hb : b ≠ w.heap.size + 1 + 1 ∧ ∀ x, (Value.slice ra k rc).ownBlock = some x → b ≠ x := ⟨by omega, fun x hx => by have := hk3 x hx; omega⟩
  refine ⟨⟨e3.heap hI.st (fun f => ?_), fun i hi => e3.cellSome (hI.row i hi) (fun f => ?_), hI.len, hI.ne⟩, hbw, hE.trans' e3 (fun x hx f => ?_), e3.heap hR (fun f => ?_), some ⟨g, 0, none⟩, cap, ka, kc, ?_, ?_, ?_⟩
  · rcases f with f | f
    · have := hk3 _ f; omega
    · omega
  · rcases f with f | f
    · exact hb.2 _ f rfl
    · exact hb.1 f
  · rcases f with f | f
    · have := hk3 _ f; omega
    · omega
  · rcases f with f | f
    · have := hk3 _ f; omega
    · omega
  · rw [heap_setCell_at (e1.heap h1 fun f => by have := hk3 _ f; omega)]; simp
  · rw [List.take_succ_eq_append_getElem hlt, List.map_append]
    have : [kid] = List.map Value.string [n.recs[k]] := by rw [hk]; rfl
    rw [← this]
    refine ownsRow_ext hown e2 fun x hx f => ?_
    simp [Value.ownBlock] at hx; unfold Only at f; omega
  · refine ownsRow_ext h2 e3 fun x hx f => ?_
    rcases f with f | f
    · exact owns_ne h2 h3 (by decide) hx f
    · have := (h2.lt _ hx).1; omega

/-- An entry's text, out of the page. -/
theorem conv_rec {w : World} {o b off c at_ : Nat} {n : Nd} {k : Nat} (h : InAt w o b off c (enc n) at_) (hk : k < n.recs.length) (hs : n.size ≤ 1024) (cap : Nat) :
    (convert 83 9 (.slice (some ⟨b, off + (1024 - lens (n.recs.take k) - n.recs[k].size), none⟩) n.recs[k].size cap)).run Tryz.prog w = .ok (.string n.recs[k]) w := by
  have hz : n.size = 3 + 4 * n.kids.length + weigh n.recs := rfl
  have h2 := lens_take_succ n.recs k hk
  have h3 := lens_take_le n.recs (k + 1)
  have h4 := weigh_lens n.recs
  have hb : Lib.Bytes w b off ⟨(enc n).toArray⟩ := fun i hi => h.row i hi
  have hsz : (⟨(enc n).toArray⟩ : ByteArray).size = 1024 := h.len
  have := Lib.run_convert_window (P := Tryz.prog) w 83 5 9 Tryz.underlying83 Tryz.underlying5 Tryz.underlying9 b off ⟨(enc n).toArray⟩ hb (1024 - lens (n.recs.take k) - n.recs[k].size) n.recs[k].size cap (by omega)
  have e : (⟨(enc n).toArray⟩ : ByteArray).extract (1024 - lens (n.recs.take k) - n.recs[k].size) (1024 - lens (n.recs.take k) - n.recs[k].size + n.recs[k].size) = n.recs[k] := by
    apply str_ext
    rw [Lib.extract_data, Nat.add_sub_cancel_left]
    exact enc_rec hk hs
  rw [this, e]

/-- A result that is a node, in rows of the call's own. -/
def NodeRows (n : Nd) (base : Nat) (w' : World) (ra : Option Addr) (rc : Nat) (ka : Option Addr) (kc : Nat) : Prop :=
  w'.ownsRow base 9 1 (.slice ra n.recs.length rc) n.recs.length (n.recs.map .string) ∧ w'.ownsRow base 3 1 (.slice ka n.kids.length kc) n.kids.length (n.kids.map i64)
def NodeOut (n : Nd) (w : World) (e : Ending) (w' : World) : Prop :=
  ∃ ra rc ka kc, e = .returned (nodeVal n ra rc ka kc) ∧ NodeRows n w.heap.size w' ra rc ka kc ∧ Ext No w w'

theorem read_post {n : Nd} {w wr w' : World} {ra ka : Option Addr} {rc kc : Nat} (hE : Ext No w wr)
    (h1 : wr.ownsRow (w.heap.size + 3) 9 1 (.slice ra n.recs.length rc) n.recs.length (n.recs.map .string)) (h2 : wr.ownsRow (w.heap.size + 3) 3 1 (.slice ka n.kids.length kc) n.kids.length (n.kids.map i64))
    (he : Ext (Only w.heap.size) wr w') : NodeOut n w (.returned (nodeVal n ra rc ka kc)) w' := by
  refine ⟨ra, rc, ka, kc, rfl, ⟨ownsRow_base (ownsRow_ext h1 he fun k hk f => ?_) fun k hk => ?_, ownsRow_base (ownsRow_ext h2 he fun k hk f => ?_) fun k hk => ?_⟩, hE.trans' he fun x hx f => ?_⟩
  · have := (h1.lt _ hk).1; unfold Only at f; omega
  · have := (h1.lt _ hk).1; omega
  · have := (h2.lt _ hk).1; unfold Only at f; omega
  · have := (h2.lt _ hk).1; omega
  · unfold Only at f; omega

set_option maxRecDepth 100000 in
set_option maxHeartbeats 2000000 in
theorem read_ok {b off c : Nat} {n : Nd} (w : World) (hrow : RowAt w (some ⟨b, off, none⟩) ((enc n).map u8)) (hr : n.Right) (hcap : 1024 ≤ c) :
    Calls Tryz.prog 110 #[.slice (some ⟨b, off, none⟩) 1024 c] w (NodeOut n w) := by
  have hfit := hr.fits
  have hlen := length_enc hfit
  have hsz : n.size = 3 + 4 * n.kids.length + weigh n.recs := rfl
  have hrl := length_le_weigh n.recs
  have hrow' : ∀ (i : Nat) (h : i < (enc n).length), w.cell? ⟨b, off + i, none⟩ = some (u8 (enc n)[i]) := by
    rcases hrow with h0 | ⟨b', off', hb, hc⟩
    · have := congrArg List.length h0; simp only [List.length_map, hlen] at this; cases this
    · cases hb; intro i h; exact hc i _ (by simp [h])
  have hb : b < w.heap.size := World.block_lt_of_cell? w ⟨b, off + 0, none⟩ (hrow' 0 (by omega))
  have hfirst := enc_first n
  have c0 : w.cell? ⟨b, off, none⟩ = some (.int .u8 (if n.leaf then 1 else 2)) := by
    have := hrow' 0 (by omega)
    rw [Nat.add_zero] at this; rw [this]
    rw [List.getElem?_eq_getElem (by omega)] at hfirst
    simp only [Option.some.injEq] at hfirst
    rw [hfirst]; cases n.leaf <;> rfl
  have hS := ReadAt.start (c := c) hrow' hlen hb
  have h1 := inTwo_ok _ hS.1 (by decide)
  rw [enc_count (by omega)] at h1
  have H1 := Lib.hid h1
  have HS := Lib.hid hS
  have HR := Lib.hid hr
  have HROW := Lib.hid hrow'
  have C0 := Lib.hid c0
  clear hrow hrow' hr hfirst h1 hS
  rcases hlf : n.leaf with _ | _
  · rw [hlf] at c0 H1 HS
    have hik1 : n.kids.length ≤ n.recs.length + 1 := by have := HR.out.shaped.ik hlf; omega
    have hik2 : n.recs.length + 1 ≤ n.kids.length := by have := HR.out.shaped.ik hlf; omega
    have HLF := Lib.hid hlf
    clear hlf
    simp only [Bool.false_eq_true, if_false] at c0
    go_enter Tryz.func110, Tryz.ntmps110
    go_wp2_with (fail)
    refine H1.out.mono ?_
    rintro e w1 ⟨rfl, hI, he⟩
    have hA1 := HS.out.go hI he
    have HA1 := Lib.hid hA1
    have c1 : w1.cell? ⟨b, off, none⟩ = some (.int .u8 2) := hA1.2.2.1.cellSome c0 (fun f => f)
    clear hI he hA1 c0
    go_wp2_with (fail)
    go_loopw [24] (fun i wr => ∃ k : Nat, k ≤ n.kids.length ∧ i = .int .i64 k ∧ Hid (ReadAt w wr b off c n (3 + 4 * k) k 0)) (fun i _ => n.kids.length - (intOf i).toNat)
    case atStart => exact ⟨0, Nat.zero_le _, rfl, HA1.out⟩
    case round =>
      obtain ⟨k, hk, rfl, hA⟩ := hrel
      by_cases hlt : k < n.kids.length
      · obtain ⟨hI, _, hE, _, ra, rc, ka, kc, hN, hO1, hO2⟩ := hA.out
        have hlt' : (k : Int) < (n.recs.length : Int) + 1 := by omega
        have d2 : wr.cell? ⟨w.heap.size + 1 + 1, 2, none⟩ = some (.slice ka k kc) := by rw [cell_at hN]; rfl
        have hkid := HR.out.shaped.kid _ (List.getElem_mem hlt)
        have hF := fun w' (he : Ext No wr w') => inFour_ok w' (hI.extNo he) (by omega)
        rw [enc_kid hlt (by omega)] at hF
        have HF := Lib.hid hF
        have HO1 := Lib.hid hO1
        have HO2 := Lib.hid hO2
        have HN := Lib.hid hN
        have hNlt := lt_of_heap hN
        have hrow2 : some (w.heap.size + 1 + 1) ≠ (Value.slice ka k kc).ownBlock := fun e => by have := (hO2.lt _ e.symm).1; omega
        have HROW2 := Lib.hid hrow2
        clear hF hO1 hO2 hN hI hE hkid hrow2
        obtain ⟨i0, hi, hz0, hz1, hz2⟩ := info_parts info_int
        go_wp2_with (fail)
        go_region_law (first | (go_simp; go_at_call 129; refine (HF.out _ ((Ext.refl No wr).drew)).mono ?_; rintro e w2 ⟨rfl, hI2, hE2⟩; have d2' : w2.cell? ⟨w.heap.size + 1 + 1, 2, none⟩ = some (.slice ka k kc) := hE2.cellSome d2 (fun f => by have g : w.heap.size + 1 + 1 = w.heap.size + 1 := f; omega); have e23 : Ext (Only (w.heap.size + 1)) wr w2 := Ext.trans (Ext.refl _ wr).drew hE2; have d2'' : ∀ O, (w2.alloc O).cell? ⟨w.heap.size + 1 + 1, 2, none⟩ = some (.slice ka k kc) := fun O => ((Ext.refl No w2).alloc O).cellSome d2' (fun f => f); have HA2 := Lib.hid (hA.out.go hI2 e23); have HO3 := Lib.hid (ownsRow_ext HO2.out e23 (fun x hx f => by have g : x = w.heap.size + 1 := f; have := (HO2.out.lt _ hx).1; omega)); have hsz2 := e23.size; have HN2 := Lib.hid (e23.heap HN.out (fun f => by have g : w.heap.size + 1 + 1 = w.heap.size + 1 := f; omega)); clear hI2 hE2 e23) | (refine step_append_lies _ rfl _ _ 41 rfl (w.heap.size + 3) 3 i0 (.int .i64 0) 1 8 Tryz.underlying41 hi hz0 hz1 hz2 rfl (by decide) _ k _ rfl (HO3.out.alloc _) ⟨w2.heap.size, 0, none⟩ 1 1 [.int .i64 n.kids[k]] rfl rfl (cell_one_new _ _ _) (by intro u hu; simp at hu; subst hu; rfl) (by decide) (by unfold maxLen; omega) (by omega) (by simp; omega) (w2.heap.size + 1) (by simp) ?_; intro g cap w3 hown3 hg3 hat3 hlt3; have hN3 : w3.heap[w.heap.size + 1 + 1]? = _ := (hg3.block _ (by simp only [World.size_alloc]; omega) HROW2.out).trans ((heap_alloc_lt (by omega)).trans HN2.out); have d3 : w3.cell? ⟨w.heap.size + 1 + 1, 2, none⟩ = some (.slice ka k kc) := (cell_at hN3 2).trans rfl; have z3 := frozen_at hN3 2; have HN3 := Lib.hid hN3; clear hN3; have HP3 := Lib.hid (And.intro hown3 (And.intro hg3 (And.intro hat3 hlt3))); clear hown3 hg3 hat3 hlt3))
        all_goals
          have HK := Lib.hid (HA2.out.kid hlt rfl d2' HP3.out.1 HP3.out.2.1 HP3.out.2.2.1)
          clear HP3
          go_wp2_with (fail)
          go_roundw
          case rel => exact ⟨k + 1, by omega, by go_num, HK.out⟩
          case measure => simp [intOf]; omega
      · have hk' : k = n.kids.length := by omega
        have hK0 := hA.out
        rw [hk'] at hK0
        have HK0 := Lib.hid hK0
        clear hK0 hk'
        go_wp2_with (fail)
        go_loopw [35] (fun i wr => ∃ k : Nat, k ≤ n.recs.length ∧ i = .int .i64 k ∧ Hid (ReadAt w wr b off c n (3 + 4 * n.kids.length + 4 * k) n.kids.length k)) (fun i _ => n.recs.length - (intOf i).toNat)
        case atStart => exact ⟨0, Nat.zero_le _, rfl, HK0.out⟩
        case round =>
          obtain ⟨k, hk, rfl, hA⟩ := hrel
          by_cases hlt : k < n.recs.length
          · have q1 := weigh_lens n.recs
            have q2 := lens_take_succ n.recs k hlt
            have q3 := lens_take_le n.recs (k + 1)
            have hone := HR.out.shaped.one _ (List.getElem_mem hlt)
            have hI0 := hA.out.1
            have hT1 := inTwo_ok wr hI0 (by omega)
            rw [(enc_slot hlt hfit).1] at hT1
            have HT1 := Lib.hid hT1
            have HCV := Lib.hid (fun (w' : World) (at_ cap : Nat) (h : InAt w' (w.heap.size + 1) b off c (enc n) at_) => conv_rec h hlt hfit cap)
            have HSL := Lib.hid (enc_slot hlt hfit).2
            generalize hP : 1024 - lens (n.recs.take k) - n.recs[k].size = P at HT1 HCV
            generalize hL : n.recs[k].size = L at HCV HSL hone hP q2
            have HPL := Lib.hid (And.intro hP hL)
            have b1 : P + L ≤ 1024 := by omega
            have b2 : 0 < P := by omega
            have b3 : 3 + 4 * n.kids.length + 4 * k + 4 ≤ 1024 := by omega
            clear hT1 hI0 hP hL q1 q2 q3
            go_wp2_with (fail)
            refine HT1.out.mono ?_
            rintro e wa ⟨rfl, hI2, hE2⟩
            have hA2 := hA.out.go hI2 hE2
            have hT2 := inTwo_ok wa hA2.1 (by omega)
            rw [HSL.out] at hT2
            have HT2 := Lib.hid hT2
            have HA2 := Lib.hid hA2
            clear hT2 hA2 hI2 hE2
            go_wp2_with (fail)
            refine HT2.out.mono ?_
            rintro e wb ⟨rfl, hI3, hE3⟩
            have hA3 := HA2.out.go hI3 hE3
            have HA3 := Lib.hid hA3
            obtain ⟨hIn, _, hE, _, ra, rc, ka, kc, hN, hO1, hO2⟩ := hA3
            have d1 : wb.cell? ⟨w.heap.size + 1 + 1, 1, none⟩ = some (.slice ra k rc) := by rw [cell_at hN]; rfl
            have d1' : ∀ O, (wb.drew.alloc O).cell? ⟨w.heap.size + 1 + 1, 1, none⟩ = some (.slice ra k rc) := fun O => ((Ext.refl No wb).drew.alloc O).cellSome d1 (fun f => f)
            have hcv : ∀ cap, (convert 83 9 (.slice (some ⟨b, off + P, none⟩) L cap)).run Tryz.prog wb.drew = .ok (.string n.recs[k]) wb.drew := fun cap => HCV.out _ _ cap (hIn.extNo (Ext.refl No wb).drew)
            have hNlt := lt_of_heap hN
            have hrow2 : some (w.heap.size + 1 + 1) ≠ (Value.slice ra k rc).ownBlock := fun e => by have := (hO1.lt _ e.symm).1; omega
            have HROW2 := Lib.hid hrow2
            have HO1 := Lib.hid (ownsRow_ext hO1 (Ext.refl No wb).drew fun _ _ f => f)
            have HN := Lib.hid hN
            clear hIn hE hN hO1 hO2 hrow2 hI3 hE3
            obtain ⟨i0, hi, hz0, hz1, hz2⟩ := info_parts info_str
            have g1 : ¬ ((1024 : Int) - (L : Int) < (P : Int)) := by omega
            have g1' : decide ((1024 : Int) - (L : Int) < (P : Int)) = false := by simpa using g1
            have g2 : IntKind.i64.wrap ((1024 : Int) - (L : Int)) = 1024 - (L : Int) := IntWalk.i64_in _ (by omega)
            have g3 : IntKind.i64.wrap ((P : Int) + (L : Int)) = (P : Int) + (L : Int) := IntWalk.i64_in _ (by omega)
            have g4 : ((P : Int) + (L : Int)).toNat = P + L := by omega
            have g5 : (0 : Int) ≤ (P : Int) + (L : Int) := by omega
            have g6 : (P : Int) + (L : Int) ≤ (c : Int) := by omega
            have g7 : (P : Int) ≤ ((P + L : Nat) : Int) := by omega
            have g8 : P + L - P = L := by omega
            have g9 : ¬ (c = P) := by omega
            have g10 : ¬ (P = 0) := by omega
            go_wp2_with (fail)
            go_region_law (first | (refine step_append_lies _ rfl _ _ 33 rfl (w.heap.size + 3) 9 i0 (.string ⟨#[]⟩) 1 16 Tryz.underlying33 hi hz0 hz1 hz2 rfl (by decide) _ k _ rfl (HO1.out.alloc _) ⟨wb.heap.size, 0, none⟩ 1 1 [.string n.recs[k]] rfl rfl (cell_one_new' _ _ _ rfl) (by intro u hu; simp at hu; subst hu; rfl) (by decide) (by unfold maxLen; omega) (by omega) (by show w.heap.size + 3 ≤ (World.alloc _ _).heap.size; rw [World.size_alloc]; omega) (wb.heap.size + 1) (by simp) ?_; intro g cap w3 hown3 hg3 hat3 hlt3; have hgg : (wb.alloc (.cells #[.string n.recs[k]] 9)).grownBy w3 (Value.slice ra k rc).ownBlock := ⟨hg3.os, hg3.tape, hg3.output, hg3.size, hg3.block⟩; have hatt : (Value.slice ra k rc).ownBlock = some g ∨ g = wb.heap.size + 1 := hat3; clear hg3 hat3; have hN3 : w3.heap[w.heap.size + 1 + 1]? = _ := (hgg.block _ (by rw [World.size_alloc]; exact Nat.lt_succ_of_lt hNlt) HROW2.out).trans ((heap_alloc_lt (w := wb) hNlt).trans HN.out); have z3 := frozen_at hN3 1; have d3 : w3.cell? ⟨w.heap.size + 1 + 1, 1, none⟩ = some (.slice ra k rc) := (cell_at hN3 1).trans rfl; have HN3 := Lib.hid hN3; have HP3 := Lib.hid (And.intro hown3 (And.intro hgg (And.intro hatt hlt3))); clear hN3 hown3 hgg hatt hlt3))
            all_goals
              have HK := Lib.hid (HA3.out.rec_ (O := _) (w3 := w3) hlt rfl d1 HP3.out.1 HP3.out.2.1 HP3.out.2.2.1)
              clear HP3
              go_wp2_with (fail)
              go_roundw
              case rel => exact ⟨k + 1, by omega, by go_num, HK.out⟩
              case measure => simp [intOf]; omega
          · have hk' : k = n.recs.length := by omega
            have hK1 := hA.out
            rw [hk'] at hK1
            obtain ⟨hIn, _, hE, hR, ra, rc, ka, kc, hN, hO1, hO2⟩ := hK1
            rw [List.take_length] at hO1 hO2
            have m0 : wr.cell? ⟨w.heap.size + 1 + 1, 0, none⟩ = some (.bool n.leaf) := by rw [cell_at hN]; rfl
            have m1 : wr.cell? ⟨w.heap.size + 1 + 1, 1, none⟩ = some (.slice ra n.recs.length rc) := by rw [cell_at hN]; rfl
            have m2 : wr.cell? ⟨w.heap.size + 1 + 1, 2, none⟩ = some (.slice ka n.kids.length kc) := by rw [cell_at hN]; rfl
            have r0 : wr.cell? ⟨w.heap.size, 0, none⟩ = some (.bool false) := by rw [cell_at hR]; rfl
            have r1 : wr.cell? ⟨w.heap.size, 1, none⟩ = some (.slice none 0 0) := by rw [cell_at hR]; rfl
            have r2 : wr.cell? ⟨w.heap.size, 2, none⟩ = some (.slice none 0 0) := by rw [cell_at hR]; rfl
            have f0 := frozen_at hR 0
            have f1 := frozen_at hR 1
            have f2 := frozen_at hR 2
            have HFIN := Lib.hid (And.intro hE (And.intro hO1 hO2))
            clear hk' hIn hE hR hN hO1 hO2
            have eFin : Ext (Only w.heap.size) wr (((wr.setCell ⟨w.heap.size, 0, none⟩ (.bool n.leaf)).setCell ⟨w.heap.size, 1, none⟩ (.slice ra n.recs.length rc)).setCell ⟨w.heap.size, 2, none⟩ (.slice ka n.kids.length kc)) :=
              (((Ext.refl (Only w.heap.size) wr).setCell (p := ⟨w.heap.size, 0, none⟩) (.inl rfl) _).setCell (p := ⟨w.heap.size, 1, none⟩) (.inl rfl) _).setCell (p := ⟨w.heap.size, 2, none⟩) (.inl rfl) _
            have HEF := Lib.hid eFin
            clear eFin
            go_wp2_with (fail)
            refine bodyPost_ret (v := nodeVal n ra rc ka kc) (by unfold nodeVal; simp [results, Tryz.results110, go_sem, *]) rfl ?_
            exact read_post HFIN.out.1 HFIN.out.2.1 HFIN.out.2.2 HEF.out
  · rw [hlf] at c0 H1 HS
    have hlk := HR.out.shaped.lk hlf
    have hk0 : n.kids.length = 0 := by rw [hlk]; rfl
    have HLF := Lib.hid hlf
    have HK00 := Lib.hid hk0
    clear hlf hlk hk0
    simp only [if_true] at c0
    go_enter Tryz.func110, Tryz.ntmps110
    go_wp2_with (fail)
    refine H1.out.mono ?_
    rintro e w1 ⟨rfl, hI, he⟩
    have hA1 := HS.out.go hI he
    have c1 : w1.cell? ⟨b, off, none⟩ = some (.int .u8 1) := hA1.2.2.1.cellSome c0 (fun f => f)
    have hK0 : ReadAt w w1 b off c n (3 + 4 * n.kids.length) n.kids.length 0 := by rw [HK00.out]; exact hA1
    have HK0 := Lib.hid hK0
    clear hI he hA1 c0 hK0
    go_wp2_with (fail)
    go_loopw [35] (fun i wr => ∃ k : Nat, k ≤ n.recs.length ∧ i = .int .i64 k ∧ Hid (ReadAt w wr b off c n (3 + 4 * n.kids.length + 4 * k) n.kids.length k)) (fun i _ => n.recs.length - (intOf i).toNat)
    case atStart => exact ⟨0, Nat.zero_le _, rfl, HK0.out⟩
    case round =>
      obtain ⟨k, hk, rfl, hA⟩ := hrel
      by_cases hlt : k < n.recs.length
      · have q1 := weigh_lens n.recs
        have q2 := lens_take_succ n.recs k hlt
        have q3 := lens_take_le n.recs (k + 1)
        have hone := HR.out.shaped.one _ (List.getElem_mem hlt)
        have hI0 := hA.out.1
        have hT1 := inTwo_ok wr hI0 (by omega)
        rw [(enc_slot hlt hfit).1] at hT1
        have HT1 := Lib.hid hT1
        have HCV := Lib.hid (fun (w' : World) (at_ cap : Nat) (h : InAt w' (w.heap.size + 1) b off c (enc n) at_) => conv_rec h hlt hfit cap)
        have HSL := Lib.hid (enc_slot hlt hfit).2
        generalize hP : 1024 - lens (n.recs.take k) - n.recs[k].size = P at HT1 HCV
        generalize hL : n.recs[k].size = L at HCV HSL hone hP q2
        have HPL := Lib.hid (And.intro hP hL)
        have b1 : P + L ≤ 1024 := by omega
        have b2 : 0 < P := by omega
        have b3 : 3 + 4 * n.kids.length + 4 * k + 4 ≤ 1024 := by omega
        clear hT1 hI0 hP hL q1 q2 q3
        go_wp2_with (fail)
        refine HT1.out.mono ?_
        rintro e wa ⟨rfl, hI2, hE2⟩
        have hA2 := hA.out.go hI2 hE2
        have hT2 := inTwo_ok wa hA2.1 (by omega)
        rw [HSL.out] at hT2
        have HT2 := Lib.hid hT2
        have HA2 := Lib.hid hA2
        clear hT2 hA2 hI2 hE2
        go_wp2_with (fail)
        refine HT2.out.mono ?_
        rintro e wb ⟨rfl, hI3, hE3⟩
        have hA3 := HA2.out.go hI3 hE3
        have HA3 := Lib.hid hA3
        obtain ⟨hIn, _, hE, _, ra, rc, ka, kc, hN, hO1, hO2⟩ := hA3
        have d1 : wb.cell? ⟨w.heap.size + 1 + 1, 1, none⟩ = some (.slice ra k rc) := by rw [cell_at hN]; rfl
        have d1' : ∀ O, (wb.drew.alloc O).cell? ⟨w.heap.size + 1 + 1, 1, none⟩ = some (.slice ra k rc) := fun O => ((Ext.refl No wb).drew.alloc O).cellSome d1 (fun f => f)
        have hcv : ∀ cap, (convert 83 9 (.slice (some ⟨b, off + P, none⟩) L cap)).run Tryz.prog wb.drew = .ok (.string n.recs[k]) wb.drew := fun cap => HCV.out _ _ cap (hIn.extNo (Ext.refl No wb).drew)
        have hNlt := lt_of_heap hN
        have hrow2 : some (w.heap.size + 1 + 1) ≠ (Value.slice ra k rc).ownBlock := fun e => by have := (hO1.lt _ e.symm).1; omega
        have HROW2 := Lib.hid hrow2
        have HO1 := Lib.hid (ownsRow_ext hO1 (Ext.refl No wb).drew fun _ _ f => f)
        have HN := Lib.hid hN
        clear hIn hE hN hO1 hO2 hrow2 hI3 hE3
        obtain ⟨i0, hi, hz0, hz1, hz2⟩ := info_parts info_str
        have g1 : ¬ ((1024 : Int) - (L : Int) < (P : Int)) := by omega
        have g1' : decide ((1024 : Int) - (L : Int) < (P : Int)) = false := by simpa using g1
        have g2 : IntKind.i64.wrap ((1024 : Int) - (L : Int)) = 1024 - (L : Int) := IntWalk.i64_in _ (by omega)
        have g3 : IntKind.i64.wrap ((P : Int) + (L : Int)) = (P : Int) + (L : Int) := IntWalk.i64_in _ (by omega)
        have g4 : ((P : Int) + (L : Int)).toNat = P + L := by omega
        have g5 : (0 : Int) ≤ (P : Int) + (L : Int) := by omega
        have g6 : (P : Int) + (L : Int) ≤ (c : Int) := by omega
        have g7 : (P : Int) ≤ ((P + L : Nat) : Int) := by omega
        have g8 : P + L - P = L := by omega
        have g9 : ¬ (c = P) := by omega
        have g10 : ¬ (P = 0) := by omega
        go_wp2_with (fail)
        go_region_law (first | (refine step_append_lies _ rfl _ _ 33 rfl (w.heap.size + 3) 9 i0 (.string ⟨#[]⟩) 1 16 Tryz.underlying33 hi hz0 hz1 hz2 rfl (by decide) _ k _ rfl (HO1.out.alloc _) ⟨wb.heap.size, 0, none⟩ 1 1 [.string n.recs[k]] rfl rfl (cell_one_new' _ _ _ rfl) (by intro u hu; simp at hu; subst hu; rfl) (by decide) (by unfold maxLen; omega) (by omega) (by show w.heap.size + 3 ≤ (World.alloc _ _).heap.size; rw [World.size_alloc]; omega) (wb.heap.size + 1) (by simp) ?_; intro g cap w3 hown3 hg3 hat3 hlt3; have hgg : (wb.alloc (.cells #[.string n.recs[k]] 9)).grownBy w3 (Value.slice ra k rc).ownBlock := ⟨hg3.os, hg3.tape, hg3.output, hg3.size, hg3.block⟩; have hatt : (Value.slice ra k rc).ownBlock = some g ∨ g = wb.heap.size + 1 := hat3; clear hg3 hat3; have hN3 : w3.heap[w.heap.size + 1 + 1]? = _ := (hgg.block _ (by rw [World.size_alloc]; exact Nat.lt_succ_of_lt hNlt) HROW2.out).trans ((heap_alloc_lt (w := wb) hNlt).trans HN.out); have z3 := frozen_at hN3 1; have d3 : w3.cell? ⟨w.heap.size + 1 + 1, 1, none⟩ = some (.slice ra k rc) := (cell_at hN3 1).trans rfl; have HN3 := Lib.hid hN3; have HP3 := Lib.hid (And.intro hown3 (And.intro hgg (And.intro hatt hlt3))); clear hN3 hown3 hgg hatt hlt3))
        all_goals
          have HK := Lib.hid (HA3.out.rec_ (O := _) (w3 := w3) hlt rfl d1 HP3.out.1 HP3.out.2.1 HP3.out.2.2.1)
          clear HP3
          go_wp2_with (fail)
          go_roundw
          case rel => exact ⟨k + 1, by omega, by go_num, HK.out⟩
          case measure => simp [intOf]; omega
      · have hk' : k = n.recs.length := by omega
        have hK1 := hA.out
        rw [hk'] at hK1
        obtain ⟨hIn, _, hE, hR, ra, rc, ka, kc, hN, hO1, hO2⟩ := hK1
        rw [List.take_length] at hO1 hO2
        have m0 : wr.cell? ⟨w.heap.size + 1 + 1, 0, none⟩ = some (.bool n.leaf) := by rw [cell_at hN]; rfl
        have m1 : wr.cell? ⟨w.heap.size + 1 + 1, 1, none⟩ = some (.slice ra n.recs.length rc) := by rw [cell_at hN]; rfl
        have m2 : wr.cell? ⟨w.heap.size + 1 + 1, 2, none⟩ = some (.slice ka n.kids.length kc) := by rw [cell_at hN]; rfl
        have r0 : wr.cell? ⟨w.heap.size, 0, none⟩ = some (.bool false) := by rw [cell_at hR]; rfl
        have r1 : wr.cell? ⟨w.heap.size, 1, none⟩ = some (.slice none 0 0) := by rw [cell_at hR]; rfl
        have r2 : wr.cell? ⟨w.heap.size, 2, none⟩ = some (.slice none 0 0) := by rw [cell_at hR]; rfl
        have f0 := frozen_at hR 0
        have f1 := frozen_at hR 1
        have f2 := frozen_at hR 2
        have HFIN := Lib.hid (And.intro hE (And.intro hO1 hO2))
        clear hk' hIn hE hR hN hO1 hO2
        have eFin : Ext (Only w.heap.size) wr (((wr.setCell ⟨w.heap.size, 0, none⟩ (.bool n.leaf)).setCell ⟨w.heap.size, 1, none⟩ (.slice ra n.recs.length rc)).setCell ⟨w.heap.size, 2, none⟩ (.slice ka n.kids.length kc)) :=
          (((Ext.refl (Only w.heap.size) wr).setCell (p := ⟨w.heap.size, 0, none⟩) (.inl rfl) _).setCell (p := ⟨w.heap.size, 1, none⟩) (.inl rfl) _).setCell (p := ⟨w.heap.size, 2, none⟩) (.inl rfl) _
        have HEF := Lib.hid eFin
        clear eFin
        go_wp2_with (fail)
        refine bodyPost_ret (v := nodeVal n ra rc ka kc) (by unfold nodeVal; simp [results, Tryz.results110, go_sem, *]) rfl ?_
        exact read_post HFIN.out.1 HFIN.out.2.1 HFIN.out.2.2 HEF.out
end Go.Proofs.YtanglcdiebkmiaaGreat
