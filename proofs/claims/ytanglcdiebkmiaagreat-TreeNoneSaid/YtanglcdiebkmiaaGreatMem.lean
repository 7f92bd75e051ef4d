/- Words on memory: what a call may have turned ('Ext F': blocks of F alone, and new ones), rows of cells. -/
import Derived.Below
import Derived.OneCell
import Derived.Deep.Quiet
import Derived.Test.YtanglcdiebkmiaaGreatBt1
set_option linter.unusedSimpArgs false
set_option linter.unusedVariables false
namespace Tw
open Go Go.RowKit

/-- From w to w' only blocks of F have turned; others were laid; the tape is the same. -/
structure Ext (F : Nat → Prop) (w w' : World) : Prop where
  os : w'.os = w.os
  tape : w'.tape = w.tape
  output : w'.output = w.output
  size : w.heap.size ≤ w'.heap.size
  block : ∀ k, k < w.heap.size → ¬ F k → w'.heap[k]? = w.heap[k]?

def No : Nat → Prop := fun _ => False
def Only (b : Nat) : Nat → Prop := fun k => k = b

theorem Ext.refl (F : Nat → Prop) (w : World) : Ext F w w := ⟨rfl, rfl, rfl, Nat.le_refl _, fun _ _ _ => rfl⟩
theorem Ext.trans' {F G : Nat → Prop} {a b c : World} (h : Ext F a b) (k : Ext G b c) (hG : ∀ x, x < a.heap.size → G x → F x) : Ext F a c :=
  ⟨k.os.trans h.os, k.tape.trans h.tape, k.output.trans h.output, Nat.le_trans h.size k.size, fun x hx hn =>
    (k.block x (Nat.lt_of_lt_of_le hx h.size) (fun g => hn (hG x hx g))).trans (h.block x hx hn)⟩
theorem Ext.trans {F : Nat → Prop} {a b c : World} (h : Ext F a b) (k : Ext F b c) : Ext F a c := h.trans' k fun _ _ h => h
theorem Ext.mono {F G : Nat → Prop} {a b : World} (h : Ext F a b) (hG : ∀ x, F x → G x) : Ext G a b :=
  ⟨h.os, h.tape, h.output, h.size, fun x hx hn => h.block x hx (fun f => hn (hG x f))⟩
theorem Ext.ofNo {F : Nat → Prop} {a b : World} (h : Ext No a b) : Ext F a b := h.mono fun _ h => h.elim
theorem Ext.noTrans {F : Nat → Prop} {a b c : World} (h : Ext No a b) (k : Ext F b c) : Ext F a c := h.ofNo.trans k
theorem Ext.transNo {F : Nat → Prop} {a b c : World} (h : Ext F a b) (k : Ext No b c) : Ext F a c := h.trans k.ofNo
/-- Blocks of F' are of F, or new since a. -/
theorem Ext.grown {F F' : Nat → Prop} {a b c : World} (h : Ext F a b) (k : Ext F' b c) (hF : ∀ x, F' x → F x ∨ a.heap.size ≤ x) : Ext F a c :=
  h.trans' k fun x hx g => (hF x g).resolve_right (by omega)
theorem Ext.drew {F : Nat → Prop} {a w : World} (h : Ext F a w) : Ext F a w.drew := ⟨h.os, h.tape, h.output, h.size, h.block⟩
theorem Ext.drewN {F : Nat → Prop} {a w : World} (h : Ext F a w) (n : Nat) : Ext F a (w.drewN n) := ⟨h.os, h.tape, h.output, h.size, h.block⟩
theorem Ext.alloc {F : Nat → Prop} {a w : World} (h : Ext F a w) (o : Obj) : Ext F a (w.alloc o) :=
  h.trans ⟨rfl, rfl, rfl, by simp, fun k hk _ => Below.heap_alloc _ _ _ hk⟩
theorem Ext.setCell {F : Nat → Prop} {a w : World} (h : Ext F a w) {p : Addr} (hp : F p.block ∨ a.heap.size ≤ p.block) (u : Value) : Ext F a (w.setCell p u) :=
  h.trans' (G := Only p.block) ⟨rfl, rfl, rfl, by simp [World.setCell], fun k _ hn => Below.heap_setCell _ _ _ _ (fun e => hn e)⟩
    fun x hx e => by cases e; exact hp.resolve_right (by omega)
theorem Ext.setRow {F : Nat → Prop} {a w : World} (h : Ext F a w) {g : Nat} (hp : F g ∨ a.heap.size ≤ g) (cs : Array Value) : Ext F a (w.setRow g cs) :=
  h.trans' (G := Only g) ⟨rfl, rfl, rfl, by simp, fun k _ hn => setRow_other w g k _ (fun e => hn e)⟩
    fun x hx e => by cases e; exact hp.resolve_right (by omega)
theorem Ext.grownBy {F : Nat → Prop} {a w w' : World} {row : Option Nat} (h : Ext F a w) (hg : w.grownBy w' row) (hr : ∀ k, row = some k → F k ∨ a.heap.size ≤ k) : Ext F a w' :=
  h.trans' (G := fun k => row = some k) ⟨hg.os, hg.tape, hg.output, hg.size, fun k hk hn => hg.block k hk (fun e => hn e.symm)⟩
    fun x hx e => (hr x e).resolve_right (by omega)
theorem Ext.ofBelow {w w' : World} (h : Below w.heap.size w w') : Ext No w w' := ⟨h.os, h.tape, h.output, h.size, fun k hk _ => h.block k hk⟩
theorem Ext.below {w w' : World} (h : Ext No w w') : Below w.heap.size w w' := ⟨h.os, h.tape, h.output, h.size, fun k hk => h.block k hk (fun f => f)⟩
theorem Ext.heap {F : Nat → Prop} {w w' : World} (h : Ext F w w') {k : Nat} {o : Obj} (hk : w.heap[k]? = some o) (hn : ¬ F k) : w'.heap[k]? = some o :=
  (h.block k (Array.getElem?_eq_some_iff.1 hk).1 hn).trans hk
theorem Ext.heapNo {w w' : World} (h : Ext No w w') {k : Nat} {o : Obj} (hk : w.heap[k]? = some o) : w'.heap[k]? = some o := h.heap hk (fun f => f)
theorem Ext.cell {F : Nat → Prop} {w w' : World} (h : Ext F w w') {p : Addr} (hp : p.block < w.heap.size) (hn : ¬ F p.block) : w'.cell? p = w.cell? p :=
  World.cell?_of_block (h.block _ hp hn)
theorem Ext.frozen {F : Nat → Prop} {w w' : World} (h : Ext F w w') {p : Addr} (hp : p.block < w.heap.size) (hn : ¬ F p.block) : w'.frozen? p = w.frozen? p :=
  World.frozen?_of_block (h.block _ hp hn)
theorem Ext.cellSome {F : Nat → Prop} {w w' : World} (h : Ext F w w') {p : Addr} {v : Value} (hp : w.cell? p = some v) (hn : ¬ F p.block) : w'.cell? p = some v :=
  (h.cell (World.block_lt_of_cell? w p hp) hn).trans hp
theorem lt_of_heap {w : World} {k : Nat} {o : Obj} (hk : w.heap[k]? = some o) : k < w.heap.size := (Array.getElem?_eq_some_iff.1 hk).1

/-- A cell of a block that is known whole. -/
theorem cell_at {w : World} {b : Nat} {cs : Array Value} {T : TypeId} {fr : Nat × Nat} (h : w.heap[b]? = some (.cells cs T fr)) (i : Nat) :
    w.cell? ⟨b, i, none⟩ = cs[i]? := by simp [World.cell?, h]
theorem frozen_at {w : World} {b : Nat} {cs : Array Value} {T : TypeId} (h : w.heap[b]? = some (.cells cs T (0, 0))) (i : Nat) :
    w.frozen? ⟨b, i, none⟩ = false := by simp [World.frozen?, h]
theorem heap_setCell_at {w : World} {b : Nat} {cs : Array Value} {T : TypeId} {fr : Nat × Nat} (h : w.heap[b]? = some (.cells cs T fr)) (i : Nat) (v : Value) :
    (w.setCell ⟨b, i, none⟩ v).heap[b]? = some (.cells (cs.setIfInBounds i v) T fr) := by
  simp [World.setCell, Array.getElem?_modify, h]
theorem heap_setCell_ne {w : World} {b k i : Nat} {v : Value} (h : k ≠ b) : (w.setCell ⟨b, i, none⟩ v).heap[k]? = w.heap[k]? := Below.heap_setCell _ _ _ _ h
theorem heap_alloc_lt {w : World} {k : Nat} {o : Obj} (h : k < w.heap.size) : (w.alloc o).heap[k]? = w.heap[k]? := Below.heap_alloc _ _ _ h
theorem heap_alloc_eq {w : World} {o : Obj} : (w.alloc o).heap[w.heap.size]? = some o := heap_alloc_new w o

/-- A row that can be read: the cells xs stand from the slice's address on (where there are any). -/
def RowAt (w : World) (a : Option Addr) (xs : List Value) : Prop :=
  xs = [] ∨ ∃ b off, a = some ⟨b, off, none⟩ ∧ ∀ i v, xs[i]? = some v → w.cell? ⟨b, off + i, none⟩ = some v

/-- The blocks of a slice's address. -/
def Blk (a : Option Addr) (k : Nat) : Prop := ∃ p, a = some p ∧ p.block = k

theorem RowAt.ext {F : Nat → Prop} {w w' : World} {a : Option Addr} {xs : List Value} (h : RowAt w a xs) (he : Ext F w w') (hn : ∀ k, Blk a k → ¬ F k) : RowAt w' a xs := by
  rcases h with h | ⟨b, off, rfl, hc⟩
  · exact .inl h
  · exact .inr ⟨b, off, rfl, fun i v hi => he.cellSome (hc i v hi) (hn b ⟨_, rfl, rfl⟩)⟩
theorem RowAt.extNo {w w' : World} {a : Option Addr} {xs : List Value} (h : RowAt w a xs) (he : Ext No w w') : RowAt w' a xs := h.ext he fun _ _ f => f
theorem RowAt.cell {w : World} {a : Option Addr} {xs : List Value} (h : RowAt w a xs) {i : Nat} (hi : i < xs.length) :
    ∃ b off, a = some ⟨b, off, none⟩ ∧ w.cell? ⟨b, off + i, none⟩ = some xs[i] := by
  rcases h with rfl | ⟨b, off, rfl, hc⟩
  · simp at hi
  · exact ⟨b, off, rfl, hc i _ (List.getElem?_eq_getElem hi)⟩
theorem RowAt.take {w : World} {a : Option Addr} {xs : List Value} (h : RowAt w a xs) (k : Nat) : RowAt w a (xs.take k) := by
  rcases h with rfl | ⟨b, off, rfl, hc⟩
  · exact .inl (by simp)
  · refine .inr ⟨b, off, rfl, fun i v hi => hc i v ?_⟩
    rw [List.getElem?_take] at hi; split at hi
    · exact hi
    · cases hi

/-- An owned row is one that can be read. -/
theorem RowAt.ofOwns {w : World} {base n c : Nat} {e : TypeId} {a : Option Addr} {xs : List Value} (h : w.ownsRow base e 1 (.slice a n c) n xs) : RowAt w a xs := by
  obtain ⟨hl, h⟩ := h
  rcases h with ⟨hv, hn⟩ | ⟨g, cap, cur, hv, hb, hg, hnc, hcm, hcs, ht⟩
  · exact .inl (List.eq_nil_of_length_eq_zero (by rw [hl, hn]))
  · cases hv
    refine .inr ⟨g, 0, rfl, fun i v hi => ?_⟩
    rw [cell_at hg, Nat.zero_add]
    rw [← ht, List.getElem?_take] at hi
    split at hi
    · simpa using hi
    · cases hi

theorem ownsRow_ext {F : Nat → Prop} {w w' : World} {base n : Nat} {e : TypeId} {v : Value} {xs : List Value} (h : w.ownsRow base e 1 v n xs) (he : Ext F w w') (hn : ∀ k, v.ownBlock = some k → ¬ F k) : w'.ownsRow base e 1 v n xs := by
  refine ⟨h.1, ?_⟩
  rcases h.2 with hv | ⟨g, cap, cur, rfl, hb, hg, r⟩
  · exact .inl hv
  · exact .inr ⟨g, cap, cur, rfl, hb, he.heap hg (hn g rfl), r⟩

theorem ownsRow_base {w : World} {base base' n : Nat} {e : TypeId} {v : Value} {xs : List Value} (h : w.ownsRow base e 1 v n xs) (hb : ∀ k, v.ownBlock = some k → base' ≤ k) : w.ownsRow base' e 1 v n xs := by
  refine ⟨h.1, ?_⟩
  rcases h.2 with hv | ⟨g, cap, cur, rfl, hb', r⟩
  · exact .inl hv
  · exact .inr ⟨g, cap, cur, rfl, hb g rfl, r⟩

/-- A slice value of the call's own: its blocks, its address. -/
theorem ownsRow_form {w : World} {base n : Nat} {e : TypeId} {v : Value} {xs : List Value} (h : w.ownsRow base e 1 v n xs) : ∃ a c, v = .slice a n c ∧ n ≤ c ∧ c ≤ maxLen ∧ (∀ k, Blk a k ↔ v.ownBlock = some k) := by
  rcases h.2 with ⟨rfl, rfl⟩ | ⟨g, cap, cur, rfl, hb, hg, hnc, hcm, _⟩
  · exact ⟨none, 0, rfl, Nat.le_refl _, Nat.zero_le _, fun k => by simp [Blk, Value.ownBlock]⟩
  · exact ⟨_, cap, rfl, hnc, hcm, fun k => by simp [Blk, Value.ownBlock]⟩

/-- A row of the call's own that is not empty: its block, its cells, what a store does. -/
theorem ownsRow_open {w : World} {base n c : Nat} {e : TypeId} {a : Option Addr} {xs : List Value} (h : w.ownsRow base e 1 (.slice a n c) n xs) (hn : 0 < n) :
    ∃ g, a = some ⟨g, 0, none⟩ ∧ base ≤ g ∧ g < w.heap.size ∧ n ≤ c ∧ (∀ i (hi : i < xs.length), w.cell? ⟨g, i, none⟩ = some xs[i]) ∧ (∀ i, w.frozen? ⟨g, i, none⟩ = false) := by
  obtain ⟨hl, h⟩ := h
  rcases h with ⟨hv, h0⟩ | ⟨g, cap, cur, hv, hb, hg, hnc, hcm, hcs, ht⟩
  · omega
  · cases hv
    refine ⟨g, rfl, hb, lt_of_heap hg, hnc, fun i hi => ?_, fun i => frozen_at hg i⟩
    rw [cell_at hg]
    have hx : xs[i]? = some xs[i] := List.getElem?_eq_getElem hi
    generalize xs[i] = u at hx ⊢
    rw [← ht, List.getElem?_take] at hx
    split at hx
    · rw [← Array.getElem?_toList]; exact hx
    · cases hx

theorem ownsRow_set {w : World} {base n c g i : Nat} {e : TypeId} {xs : List Value} (h : w.ownsRow base e 1 (.slice (some ⟨g, 0, none⟩) n c) n xs) (v : Value) :
    (w.setCell ⟨g, i, none⟩ v).ownsRow base e 1 (.slice (some ⟨g, 0, none⟩) n c) n (xs.set i v) := by
  obtain ⟨hl, h⟩ := h
  refine ⟨by simpa using hl, ?_⟩
  rcases h with ⟨hv, h0⟩ | ⟨g', cap, cur, hv, hb, hg, hnc, hcm, hcs, ht⟩
  · cases hv
  · cases hv
    refine .inr ⟨g, c, cur.setIfInBounds i v, rfl, hb, heap_setCell_at hg i v, hnc, hcm, by simpa using hcs, ?_⟩
    rw [← ht, Array.toList_setIfInBounds, List.take_set]

/-- A row cut shorter. -/
theorem ownsRow_take {w : World} {base n c k : Nat} {e : TypeId} {a : Option Addr} {xs : List Value} (h : w.ownsRow base e 1 (.slice a n c) n xs) (hk : k ≤ n) :
    w.ownsRow base e 1 (.slice a k c) k (xs.take k) := by
  obtain ⟨hl, h⟩ := h
  refine ⟨by rw [List.length_take]; omega, ?_⟩
  rcases h with ⟨hv, h0⟩ | ⟨g', cap, cur, hv, hb, hg, hnc, hcm, hcs, ht⟩
  · cases hv; have : k = 0 := by omega
    subst this; exact .inl ⟨rfl, rfl⟩
  · cases hv
    refine .inr ⟨g', c, cur, rfl, hb, hg, by omega, hcm, hcs, ?_⟩
    rw [← ht, List.take_take]; congr 1; omega

end Tw
