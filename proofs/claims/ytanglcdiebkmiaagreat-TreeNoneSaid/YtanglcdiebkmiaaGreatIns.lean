/- slices.Insert of one element at []string and []int: a row of one's own grows. -/
import Derived.Test.YtanglcdiebkmiaaGreatShelf
import Derived.Test.YtanglcdiebkmiaaGreatSl
import Derived.Shelf.Spec.SlicesInsert
import Derived.Shelf.Spec.SlicesInsertGrow
set_option linter.unusedSimpArgs false
set_option linter.unusedVariables false
namespace Tw
open Go Go.RowKit

theorem heap_setCells_at {b : Nat} {T : TypeId} {fr : Nat × Nat} : ∀ (vs : List Value) (o : Nat) (w : World) (cs : Array Value), w.heap[b]? = some (.cells cs T fr) →
    ∃ cs' : Array Value, (w.setCells b o vs).heap[b]? = some (.cells cs' T fr) ∧ cs'.size = cs.size
  | [], _, _, cs, h => ⟨cs, h, rfl⟩
  | v :: r, o, w, cs, h => by
    obtain ⟨cs', h1, h2⟩ := heap_setCells_at r (o + 1) (w.setCell ⟨b, o, none⟩ v) (cs.setIfInBounds o v) (heap_setCell_at h o v)
    exact ⟨cs', h1, h2.trans (by simp)⟩
theorem Ext.setCells {F : Nat → Prop} {a : World} {b : Nat} : ∀ (vs : List Value) (o : Nat) {w : World}, Ext F a w → (F b ∨ a.heap.size ≤ b) → Ext F a (w.setCells b o vs)
  | [], _, _, h, _ => h
  | v :: r, o, _, h, hb => Ext.setCells r (o + 1) (h.setCell (p := ⟨b, o, none⟩) hb v) hb
theorem ownsRow_mk {w : World} {base g n c : Nat} {T : TypeId} {ys : List Value} {cs : Array Value} (hg : w.heap[g]? = some (.cells cs T (0, 0))) (hs : cs.size = c) (hb : base ≤ g) (hn : n ≤ c) (hm : c ≤ maxLen) (hl : ys.length = n)
    (h : ∀ j (hj : j < ys.length), w.cell? ⟨g, j, none⟩ = some ys[j]) : w.ownsRow base T 1 (.slice (some ⟨g, 0, none⟩) n c) n ys := by
  refine ⟨by omega, .inr ⟨g, c, cs, rfl, hb, hg, hn, hm, by omega, ?_⟩⟩
  apply List.ext_getElem?
  intro j
  rw [List.getElem?_take, Nat.mul_one]
  by_cases hj : j < n
  · rw [if_pos hj]
    have := h j (by omega)
    rw [cell_at hg] at this
    rw [Array.getElem?_toList, this, List.getElem?_eq_getElem (by omega)]
  · rw [if_neg hj, List.getElem?_eq_none (by omega)]

/-- The element x goes in at i. -/
def putAt (xs : List Value) (i : Nat) (x : Value) : List Value := xs.take i ++ x :: xs.drop i
theorem putAt_length {xs : List Value} {i : Nat} {x : Value} (h : i ≤ xs.length) : (putAt xs i x).length = xs.length + 1 := by
  unfold putAt; simp; omega
theorem putAt_lt {xs : List Value} {i j : Nat} {x : Value} (h : i ≤ xs.length) (hj : j < i) (hj' : j < (putAt xs i x).length) : (putAt xs i x)[j]? = xs[j]? := by
  unfold putAt; rw [List.getElem?_append_left (by simp; omega), List.getElem?_take, if_pos hj]
theorem putAt_eq {xs : List Value} {i : Nat} {x : Value} (h : i ≤ xs.length) : (putAt xs i x)[i]? = some x := by
  unfold putAt; rw [List.getElem?_append_right (by simp; omega)]; simp [Nat.min_eq_left h]
theorem putAt_gt {xs : List Value} {i j : Nat} {x : Value} (h : i ≤ xs.length) (hj : i < j) : (putAt xs i x)[j]? = xs[j - 1]? := by
  unfold putAt; rw [List.getElem?_append_right (by simp; omega)]; simp [Nat.min_eq_left h]
  obtain ⟨k, rfl⟩ : ∃ k, j = i + 1 + k := ⟨j - i - 1, by omega⟩
  rw [show i + 1 + k - i = k + 1 by omega, List.getElem?_cons_succ, List.getElem?_drop]; congr 1; omega
/-- A row grows by one: in its own block, or in a new one. -/
def Grown (T : TypeId) (a : Option Addr) (ys : List Value) (base : Nat) (w : World) (e : Ending) (w' : World) : Prop :=
  ∃ a' c', e = .returned (.slice a' ys.length c') ∧ w'.ownsRow base T 1 (.slice a' ys.length c') ys.length ys ∧ (∀ k, Blk a' k → Blk a k ∨ w.heap.size ≤ k) ∧ Ext (fun k => Blk a k) w w'
end Tw
namespace Go.Proofs.YtanglcdiebkmiaaGreat
open Go.RowKit Tw

set_option maxHeartbeats 1000000 in
theorem InsS_ok {n c i vb base : Nat} {a : Option Addr} {xs : List Value} {x : Value} {tv : TypeId} (w : World) (h : w.ownsRow base 9 1 (.slice a n c) n xs) (h1 : ∀ u ∈ xs, u.oneCell' = true) (hx : x.oneCell' = true)
    (hv : w.heap[vb]? = some (.cells #[x] tv (0, 0))) (hvb : ∀ k, Blk a k → k ≠ vb) (hi : i ≤ n) (hn : n ≤ 1000000) (hbase : base ≤ w.heap.size) :
    Calls Tryz.prog 71 #[.slice a n c, .int .i64 i, .slice (some ⟨vb, 0, none⟩) 1 1] w (Grown 9 a (putAt xs i x) base w) := by
  have hrow := RowAt.ofOwns h
  have hlen : xs.length = n := by have := h.1; omega
  have hpl : (putAt xs i x).length = n + 1 := by rw [putAt_length (by omega)]; omega
  have hvs : ∀ j v, [x][j]? = some v → w.cell? ⟨vb, 0 + j, none⟩ = some v := fun j v hj => by
    cases j with
    | zero => rw [cell_at hv]; simpa using hj
    | succ k => simp at hj
  have hv1 : ∀ v ∈ [x], v.oneCell' = true := fun v hv => by simp at hv; subst hv; exact hx
  obtain ⟨_, hor⟩ := h
  rcases Nat.lt_or_ge c (n + 1) with hroom | hroom
  · -- a new row
    have hnc : n ≤ c := by
      rcases hor with ⟨hv0, h0⟩ | ⟨g, cap, cur, hv0, _, _, hnc, _⟩
      · omega
      · cases hv0; exact hnc
    have hgc := grownCap_le_maxLen w (n + 1) c 9 (by unfold maxLen; omega)
    have hge := grownCap_ge w (n + 1) c 9
    rcases Nat.lt_or_ge i n with hin | hin
    · rcases hor with ⟨hv0, h0⟩ | ⟨g, cap, cur, hv0, hb, hg, _, hcm, hcs, ht⟩
      · omega
      · cases hv0
        have hcell : ∀ j v, xs[j]? = some v → w.cell? ⟨g, 0 + j, none⟩ = some v := fun j v hj => by
          rcases hrow with rfl | ⟨b', o', hb', hc'⟩
          · simp at hj
          · cases hb'; exact hc' j v hj
        refine (Any2.slices_Insert_string_grow Tryz.laysInsS g 0 n c i vb 0 1 1 xs [x] w hin (by decide) hnc hroom (by omega) hlen rfl hcell hvs h1 hv1).mono ?_
        rintro e w' ⟨rfl, rfl⟩
        refine ⟨some ⟨w.heap.size, 0, none⟩, grownCap w (n + 1) c 9, by rw [hpl]; rfl, ?_, fun k hk => .inr (by obtain ⟨p, hp, hk⟩ := hk; cases hp; rw [← hk]; exact Nat.le_refl _), ?_⟩
        · rw [hpl]
          have hh := heap_alloc_new w (.cells ((xs.take i).toArray ++ Builtin.zeroCells (Value.string ⟨#[]⟩).cells (n + 1 - i) ++ Builtin.zeroCells (Value.string ⟨#[]⟩).cells (grownCap w (n + 1) c 9 - (n + 1))) 9)
          obtain ⟨c1, hc1, hs1⟩ := heap_setCells_at [x] i (w.alloc (.cells ((xs.take i).toArray ++ Builtin.zeroCells (Value.string ⟨#[]⟩).cells (n + 1 - i) ++ Builtin.zeroCells (Value.string ⟨#[]⟩).cells (grownCap w (n + 1) c 9 - (n + 1))) 9)).drew _ hh
          obtain ⟨c2, hc2, hs2⟩ := heap_setCells_at (xs.drop i) (i + 1) ((((w.alloc (.cells ((xs.take i).toArray ++ Builtin.zeroCells (Value.string ⟨#[]⟩).cells (n + 1 - i) ++ Builtin.zeroCells (Value.string ⟨#[]⟩).cells (grownCap w (n + 1) c 9 - (n + 1))) 9)).drew.setCells w.heap.size i [x]).drew)) _ hc1
          have hsz : ((xs.take i).toArray ++ Builtin.zeroCells (Value.string ⟨#[]⟩).cells (n + 1 - i) ++ Builtin.zeroCells (Value.string ⟨#[]⟩).cells (grownCap w (n + 1) c 9 - (n + 1))).size = grownCap w (n + 1) c 9 := by
            simp [Builtin.zeroCells, Value.cells]; omega
          refine ownsRow_mk hc2 (by rw [hs2, hs1, hsz]) hbase hge hgc hpl fun j hj => ?_
          have hsome : ∀ k, k < grownCap w (n + 1) c 9 → ((w.alloc (.cells ((xs.take i).toArray ++ Builtin.zeroCells (Value.string ⟨#[]⟩).cells (n + 1 - i) ++ Builtin.zeroCells (Value.string ⟨#[]⟩).cells (grownCap w (n + 1) c 9 - (n + 1))) 9)).drew.cell? ⟨w.heap.size, k, none⟩).isSome = true := fun k hk => by
            show (World.cell? (w.alloc _) _).isSome = true
            rw [cell_at hh, Array.getElem?_eq_getElem (by rw [hsz]; exact hk)]; rfl
          rw [← List.getElem?_eq_getElem hj]
          rw [hpl] at hj
          rcases Nat.lt_trichotomy j i with hji | hji | hji
          · rw [World.cell?_setCells_out _ _ _ _ _ (fun _ _ => .inl (by show j < i + 1; omega))]
            show World.cell? (World.setCells _ _ _ _) _ = _
            rw [World.cell?_setCells_out _ _ _ _ _ (fun _ _ => .inl hji)]
            show World.cell? (w.alloc _) _ = _
            refine (cell_at hh j).trans ?_
            rw [putAt_lt (by omega) hji (by omega), Array.append_assoc, Array.getElem?_append_left (by simp; omega)]
            simp [List.getElem?_take, hji]
          · rw [World.cell?_setCells_out _ _ _ _ _ (fun _ _ => .inl (by show j < i + 1; omega))]
            show World.cell? (World.setCells _ _ _ _) _ = _
            subst hji
            rw [putAt_eq (by omega)]
            exact World.cell?_setCells_in _ [x] j _ (fun k hk => by simp at hk; subst hk; exact hsome _ (by omega)) 0 (by simp)
          · rw [putAt_gt (by omega) hji]
            have := World.cell?_setCells_in w.heap.size (xs.drop i) (i + 1) ((w.alloc (.cells ((xs.take i).toArray ++ Builtin.zeroCells (Value.string ⟨#[]⟩).cells (n + 1 - i) ++ Builtin.zeroCells (Value.string ⟨#[]⟩).cells (grownCap w (n + 1) c 9 - (n + 1))) 9)).drew.setCells w.heap.size i [x]).drew (fun k hk => by
              show (World.cell? (World.setCells _ _ _ _) _).isSome = true
              rw [List.length_drop] at hk
              rw [World.cell?_setCells_out _ _ _ _ _ (fun _ _ => .inr (by show i + 1 ≤ i + 1 + k; omega))]
              exact hsome _ (by omega)) (j - i - 1) (by rw [List.length_drop]; omega)
            rw [show i + 1 + (j - i - 1) = j by omega] at this
            refine this.trans ?_
            rw [List.getElem_drop, List.getElem?_eq_getElem (by omega)]; congr 2; omega
        · have e1 : Ext (fun k => Blk (some ⟨g, 0, none⟩) k) w (w.alloc (.cells ((xs.take i).toArray ++ Builtin.zeroCells (Value.string ⟨#[]⟩).cells (n + 1 - i) ++ Builtin.zeroCells (Value.string ⟨#[]⟩).cells (grownCap w (n + 1) c 9 - (n + 1))) 9)).drew := ((Ext.refl _ w).alloc _).drew
          exact Ext.setCells _ _ ((Ext.setCells _ _ e1 (.inr (Nat.le_refl _))).drew) (.inr (Nat.le_refl _))
    · have : i = n := by omega
      subst this
      have hcell : ∀ p, a = some p → ∀ j v, xs[j]? = some v → w.cell? (p.add j) = some v := fun p hp j v hj => by
        rcases hrow with rfl | ⟨b', o', hb', hc'⟩
        · simp at hj
        · rw [hp] at hb'; cases hb'; rw [Addr.add_lit]; exact hc' j v hj
      have hnil : a = none → i = 0 := fun ha => by
        rcases hor with ⟨_, h0⟩ | ⟨g, cap, cur, hv0, _⟩
        · exact h0
        · subst ha; cases hv0
      refine (Any2.slices_Insert_string_end_grow Tryz.laysInsS a i c vb 0 1 1 xs [x] w (by decide) hnc hroom (by omega) hlen rfl hnil hcell hvs hv1).mono ?_
      rintro e w' ⟨rfl, rfl⟩
      refine ⟨some ⟨w.heap.size, 0, none⟩, grownCap w (i + 1) c 9, by rw [hpl]; rfl, ?_, fun k hk => .inr (by obtain ⟨p, hp, hk⟩ := hk; cases hp; rw [← hk]; exact Nat.le_refl _), (Ext.refl _ w).drew.alloc _⟩
      rw [hpl]
      have hh : (w.drew.alloc (.cells ((xs ++ [x]).toArray ++ Builtin.zeroCells (Value.string ⟨#[]⟩).cells (grownCap w (i + 1) c 9 - (i + 1))) 9)).heap[w.heap.size]? = _ := heap_alloc_new w.drew _
      refine ownsRow_mk hh (by simp [Builtin.zeroCells, Value.cells]; omega) hbase hge hgc hpl fun j hj => ?_
      rw [← List.getElem?_eq_getElem hj]
      refine (cell_at hh j).trans ?_
      rw [hpl] at hj
      rw [Array.getElem?_append_left (by simp; omega)]
      have : putAt xs i x = xs ++ [x] := by unfold putAt; rw [List.take_of_length_le (by omega), List.drop_of_length_le (by omega)]
      rw [this]; simp
  · -- in place
    rcases hor with ⟨hv0, h0⟩ | ⟨g, cap, cur, hv0, hb, hg, hnc, hcm, hcs, ht⟩
    · cases hv0; omega
    · cases hv0
      have hcell : ∀ j v, xs[j]? = some v → w.cell? ⟨g, 0 + j, none⟩ = some v := fun j v hj => by
        rcases hrow with rfl | ⟨b', o', hb', hc'⟩
        · simp at hj
        · cases hb'; exact hc' j v hj
      have hsome : ∀ k, k < c → (w.cell? ⟨g, k, none⟩).isSome = true := fun k hk => by
        rw [cell_at hg, Array.getElem?_eq_getElem (by omega)]; rfl
      rcases Nat.lt_or_ge i n with hin | hin
      · refine (Any2.slices_Insert_string_shift Tryz.laysInsS g 0 n c i vb 0 1 1 xs [x] w hin (by decide) hroom (by unfold maxLen at hcm; omega) (fun e => hvb g ⟨_, rfl, rfl⟩ e.symm) hlen rfl hcell (fun j hj => by rw [Nat.zero_add]; exact hsome _ (by omega)) (fun j hj => frozen_at hg _) hvs h1 hv1 tv 9 1 cur.size (by unfold World.shape?; rw [hv]; rfl) (by unfold World.shape?; rw [hg]) (by omega) (frozen_at hv _) (frozen_at hv _)).mono ?_
        rintro e w' ⟨rfl, rfl⟩
        refine ⟨some ⟨g, 0, none⟩, c, by rw [hpl], ?_, fun k hk => .inl hk, Ext.setCells _ _ (Ext.setCells _ _ (Ext.refl _ w).drew (.inl ⟨_, rfl, rfl⟩)) (.inl ⟨_, rfl, rfl⟩)⟩
        rw [hpl]
        obtain ⟨c1, hc1, hs1⟩ := heap_setCells_at (xs.drop i) (0 + (i + 1)) w.drew _ hg
        obtain ⟨c2, hc2, hs2⟩ := heap_setCells_at [x] (0 + i) (w.drew.setCells g (0 + (i + 1)) (xs.drop i)) _ hc1
        refine ownsRow_mk hc2 (by omega) hb hroom hcm hpl fun j hj => ?_
        rw [← List.getElem?_eq_getElem hj]
        rw [hpl] at hj
        rcases Nat.lt_trichotomy j i with hji | hji | hji
        · rw [World.cell?_setCells_out _ _ _ _ _ (fun _ _ => .inl (by show j < 0 + i; omega)), World.cell?_setCells_out _ _ _ _ _ (fun _ _ => .inl (by show j < 0 + (i + 1); omega)), putAt_lt (by omega) hji (by omega)]
          have hj2 : xs[j]? = some xs[j] := List.getElem?_eq_getElem (by omega)
          rw [hj2]
          have := hcell j _ hj2
          rwa [Nat.zero_add] at this
        · subst hji
          rw [putAt_eq (by omega)]
          have := World.cell?_setCells_in g [x] (0 + j) (w.drew.setCells g (0 + (j + 1)) (xs.drop j)) (fun k hk => by
            simp at hk; subst hk
            rw [World.cell?_setCells_out _ _ _ _ _ (fun _ _ => .inl (by show 0 + j + 0 < 0 + (j + 1); omega))]
            exact hsome _ (by omega)) 0 (by simp)
          rw [show 0 + j + 0 = j by omega] at this
          exact this
        · rw [World.cell?_setCells_out _ _ _ _ _ (fun _ _ => .inr (by show 0 + i + 1 ≤ j; omega)), putAt_gt (by omega) hji]
          have := World.cell?_setCells_in g (xs.drop i) (0 + (i + 1)) w.drew (fun k hk => by rw [List.length_drop] at hk; exact hsome _ (by omega)) (j - i - 1) (by rw [List.length_drop]; omega)
          rw [show 0 + (i + 1) + (j - i - 1) = j by omega] at this
          rw [this, List.getElem_drop, List.getElem?_eq_getElem (by omega)]; congr 2; omega
      · have : i = n := by omega
        subst this
        refine (Any2.slices_Insert_string_end_room Tryz.laysInsS g 0 i c vb 0 1 1 [x] w (by decide) hroom (by unfold maxLen at hcm; omega) rfl (fun j hj => hsome _ (by omega)) (fun j hj => frozen_at hg _) hvs hv1).mono ?_
        rintro e w' ⟨rfl, rfl⟩
        refine ⟨some ⟨g, 0, none⟩, c, by rw [hpl], ?_, fun k hk => .inl hk, Ext.setCells _ _ (Ext.refl _ w) (.inl ⟨_, rfl, rfl⟩)⟩
        rw [hpl]
        obtain ⟨c1, hc1, hs1⟩ := heap_setCells_at [x] (0 + i) w _ hg
        refine ownsRow_mk hc1 (by omega) hb hroom hcm hpl fun j hj => ?_
        rw [← List.getElem?_eq_getElem hj]
        rw [hpl] at hj
        rcases Nat.lt_or_ge j i with hji | hji
        · rw [World.cell?_setCells_out _ _ _ _ _ (fun _ _ => .inl (by show j < 0 + i; omega)), putAt_lt (by omega) hji (by omega)]
          have hj2 : xs[j]? = some xs[j] := List.getElem?_eq_getElem (by omega)
          rw [hj2]
          have := hcell j _ hj2
          rwa [Nat.zero_add] at this
        · have hji2 : j = i := by omega
          subst hji2
          rw [putAt_eq (by omega)]
          have := World.cell?_setCells_in g [x] (0 + j) w (fun k hk => by simp at hk; subst hk; exact hsome _ (by omega)) 0 (by simp)
          rw [show 0 + j + 0 = j by omega] at this
          exact this

set_option maxHeartbeats 1000000 in
theorem InsI_ok {n c i vb base : Nat} {a : Option Addr} {xs : List Value} {x : Value} {tv : TypeId} (w : World) (h : w.ownsRow base 3 1 (.slice a n c) n xs) (h1 : ∀ u ∈ xs, u.oneCell' = true) (hx : x.oneCell' = true)
    (hv : w.heap[vb]? = some (.cells #[x] tv (0, 0))) (hvb : ∀ k, Blk a k → k ≠ vb) (hi : i ≤ n) (hn : n ≤ 1000000) (hbase : base ≤ w.heap.size) :
    Calls Tryz.prog 72 #[.slice a n c, .int .i64 i, .slice (some ⟨vb, 0, none⟩) 1 1] w (Grown 3 a (putAt xs i x) base w) := by
  have hrow := RowAt.ofOwns h
  have hlen : xs.length = n := by have := h.1; omega
  have hpl : (putAt xs i x).length = n + 1 := by rw [putAt_length (by omega)]; omega
  have hvs : ∀ j v, [x][j]? = some v → w.cell? ⟨vb, 0 + j, none⟩ = some v := fun j v hj => by
    cases j with
    | zero => rw [cell_at hv]; simpa using hj
    | succ k => simp at hj
  have hv1 : ∀ v ∈ [x], v.oneCell' = true := fun v hv => by simp at hv; subst hv; exact hx
  obtain ⟨_, hor⟩ := h
  rcases Nat.lt_or_ge c (n + 1) with hroom | hroom
  · -- a new row
    have hnc : n ≤ c := by
      rcases hor with ⟨hv0, h0⟩ | ⟨g, cap, cur, hv0, _, _, hnc, _⟩
      · omega
      · cases hv0; exact hnc
    have hgc := grownCap_le_maxLen w (n + 1) c 3 (by unfold maxLen; omega)
    have hge := grownCap_ge w (n + 1) c 3
    rcases Nat.lt_or_ge i n with hin | hin
    · rcases hor with ⟨hv0, h0⟩ | ⟨g, cap, cur, hv0, hb, hg, _, hcm, hcs, ht⟩
      · omega
      · cases hv0
        have hcell : ∀ j v, xs[j]? = some v → w.cell? ⟨g, 0 + j, none⟩ = some v := fun j v hj => by
          rcases hrow with rfl | ⟨b', o', hb', hc'⟩
          · simp at hj
          · cases hb'; exact hc' j v hj
        refine (Any2.slices_Insert_int_grow Tryz.laysInsI g 0 n c i vb 0 1 1 xs [x] w hin (by decide) hnc hroom (by omega) hlen rfl hcell hvs h1 hv1).mono ?_
        rintro e w' ⟨rfl, rfl⟩
        refine ⟨some ⟨w.heap.size, 0, none⟩, grownCap w (n + 1) c 3, by rw [hpl]; rfl, ?_, fun k hk => .inr (by obtain ⟨p, hp, hk⟩ := hk; cases hp; rw [← hk]; exact Nat.le_refl _), ?_⟩
        · rw [hpl]
          have hh := heap_alloc_new w (.cells ((xs.take i).toArray ++ Builtin.zeroCells (Value.int .i64 0).cells (n + 1 - i) ++ Builtin.zeroCells (Value.int .i64 0).cells (grownCap w (n + 1) c 3 - (n + 1))) 3)
          obtain ⟨c1, hc1, hs1⟩ := heap_setCells_at [x] i (w.alloc (.cells ((xs.take i).toArray ++ Builtin.zeroCells (Value.int .i64 0).cells (n + 1 - i) ++ Builtin.zeroCells (Value.int .i64 0).cells (grownCap w (n + 1) c 3 - (n + 1))) 3)).drew _ hh
          obtain ⟨c2, hc2, hs2⟩ := heap_setCells_at (xs.drop i) (i + 1) ((((w.alloc (.cells ((xs.take i).toArray ++ Builtin.zeroCells (Value.int .i64 0).cells (n + 1 - i) ++ Builtin.zeroCells (Value.int .i64 0).cells (grownCap w (n + 1) c 3 - (n + 1))) 3)).drew.setCells w.heap.size i [x]).drew)) _ hc1
          have hsz : ((xs.take i).toArray ++ Builtin.zeroCells (Value.int .i64 0).cells (n + 1 - i) ++ Builtin.zeroCells (Value.int .i64 0).cells (grownCap w (n + 1) c 3 - (n + 1))).size = grownCap w (n + 1) c 3 := by
            simp [Builtin.zeroCells, Value.cells]; omega
          refine ownsRow_mk hc2 (by rw [hs2, hs1, hsz]) hbase hge hgc hpl fun j hj => ?_
          have hsome : ∀ k, k < grownCap w (n + 1) c 3 → ((w.alloc (.cells ((xs.take i).toArray ++ Builtin.zeroCells (Value.int .i64 0).cells (n + 1 - i) ++ Builtin.zeroCells (Value.int .i64 0).cells (grownCap w (n + 1) c 3 - (n + 1))) 3)).drew.cell? ⟨w.heap.size, k, none⟩).isSome = true := fun k hk => by
            show (World.cell? (w.alloc _) _).isSome = true
            rw [cell_at hh, Array.getElem?_eq_getElem (by rw [hsz]; exact hk)]; rfl
          rw [← List.getElem?_eq_getElem hj]
          rw [hpl] at hj
          rcases Nat.lt_trichotomy j i with hji | hji | hji
          · rw [World.cell?_setCells_out _ _ _ _ _ (fun _ _ => .inl (by show j < i + 1; omega))]
            show World.cell? (World.setCells _ _ _ _) _ = _
            rw [World.cell?_setCells_out _ _ _ _ _ (fun _ _ => .inl hji)]
            show World.cell? (w.alloc _) _ = _
            refine (cell_at hh j).trans ?_
            rw [putAt_lt (by omega) hji (by omega), Array.append_assoc, Array.getElem?_append_left (by simp; omega)]
            simp [List.getElem?_take, hji]
          · rw [World.cell?_setCells_out _ _ _ _ _ (fun _ _ => .inl (by show j < i + 1; omega))]
            show World.cell? (World.setCells _ _ _ _) _ = _
            subst hji
            rw [putAt_eq (by omega)]
            exact World.cell?_setCells_in _ [x] j _ (fun k hk => by simp at hk; subst hk; exact hsome _ (by omega)) 0 (by simp)
          · rw [putAt_gt (by omega) hji]
            have := World.cell?_setCells_in w.heap.size (xs.drop i) (i + 1) ((w.alloc (.cells ((xs.take i).toArray ++ Builtin.zeroCells (Value.int .i64 0).cells (n + 1 - i) ++ Builtin.zeroCells (Value.int .i64 0).cells (grownCap w (n + 1) c 3 - (n + 1))) 3)).drew.setCells w.heap.size i [x]).drew (fun k hk => by
              show (World.cell? (World.setCells _ _ _ _) _).isSome = true
              rw [List.length_drop] at hk
              rw [World.cell?_setCells_out _ _ _ _ _ (fun _ _ => .inr (by show i + 1 ≤ i + 1 + k; omega))]
              exact hsome _ (by omega)) (j - i - 1) (by rw [List.length_drop]; omega)
            rw [show i + 1 + (j - i - 1) = j by omega] at this
            refine this.trans ?_
            rw [List.getElem_drop, List.getElem?_eq_getElem (by omega)]; congr 2; omega
        · have e1 : Ext (fun k => Blk (some ⟨g, 0, none⟩) k) w (w.alloc (.cells ((xs.take i).toArray ++ Builtin.zeroCells (Value.int .i64 0).cells (n + 1 - i) ++ Builtin.zeroCells (Value.int .i64 0).cells (grownCap w (n + 1) c 3 - (n + 1))) 3)).drew := ((Ext.refl _ w).alloc _).drew
          exact Ext.setCells _ _ ((Ext.setCells _ _ e1 (.inr (Nat.le_refl _))).drew) (.inr (Nat.le_refl _))
    · have : i = n := by omega
      subst this
      have hcell : ∀ p, a = some p → ∀ j v, xs[j]? = some v → w.cell? (p.add j) = some v := fun p hp j v hj => by
        rcases hrow with rfl | ⟨b', o', hb', hc'⟩
        · simp at hj
        · rw [hp] at hb'; cases hb'; rw [Addr.add_lit]; exact hc' j v hj
      have hnil : a = none → i = 0 := fun ha => by
        rcases hor with ⟨_, h0⟩ | ⟨g, cap, cur, hv0, _⟩
        · exact h0
        · subst ha; cases hv0
      refine (Any2.slices_Insert_int_end_grow Tryz.laysInsI a i c vb 0 1 1 xs [x] w (by decide) hnc hroom (by omega) hlen rfl hnil hcell hvs hv1).mono ?_
      rintro e w' ⟨rfl, rfl⟩
      refine ⟨some ⟨w.heap.size, 0, none⟩, grownCap w (i + 1) c 3, by rw [hpl]; rfl, ?_, fun k hk => .inr (by obtain ⟨p, hp, hk⟩ := hk; cases hp; rw [← hk]; exact Nat.le_refl _), (Ext.refl _ w).drew.alloc _⟩
      rw [hpl]
      have hh : (w.drew.alloc (.cells ((xs ++ [x]).toArray ++ Builtin.zeroCells (Value.int .i64 0).cells (grownCap w (i + 1) c 3 - (i + 1))) 3)).heap[w.heap.size]? = _ := heap_alloc_new w.drew _
      refine ownsRow_mk hh (by simp [Builtin.zeroCells, Value.cells]; omega) hbase hge hgc hpl fun j hj => ?_
      rw [← List.getElem?_eq_getElem hj]
      refine (cell_at hh j).trans ?_
      rw [hpl] at hj
      rw [Array.getElem?_append_left (by simp; omega)]
      have : putAt xs i x = xs ++ [x] := by unfold putAt; rw [List.take_of_length_le (by omega), List.drop_of_length_le (by omega)]
      rw [this]; simp
  · -- in place
    rcases hor with ⟨hv0, h0⟩ | ⟨g, cap, cur, hv0, hb, hg, hnc, hcm, hcs, ht⟩
    · cases hv0; omega
    · cases hv0
      have hcell : ∀ j v, xs[j]? = some v → w.cell? ⟨g, 0 + j, none⟩ = some v := fun j v hj => by
        rcases hrow with rfl | ⟨b', o', hb', hc'⟩
        · simp at hj
        · cases hb'; exact hc' j v hj
      have hsome : ∀ k, k < c → (w.cell? ⟨g, k, none⟩).isSome = true := fun k hk => by
        rw [cell_at hg, Array.getElem?_eq_getElem (by omega)]; rfl
      rcases Nat.lt_or_ge i n with hin | hin
      · refine (Any2.slices_Insert_int_shift Tryz.laysInsI g 0 n c i vb 0 1 1 xs [x] w hin (by decide) hroom (by unfold maxLen at hcm; omega) (fun e => hvb g ⟨_, rfl, rfl⟩ e.symm) hlen rfl hcell (fun j hj => by rw [Nat.zero_add]; exact hsome _ (by omega)) (fun j hj => frozen_at hg _) hvs h1 hv1 tv 3 1 cur.size (by unfold World.shape?; rw [hv]; rfl) (by unfold World.shape?; rw [hg]) (by omega) (frozen_at hv _) (frozen_at hv _)).mono ?_
        rintro e w' ⟨rfl, rfl⟩
        refine ⟨some ⟨g, 0, none⟩, c, by rw [hpl], ?_, fun k hk => .inl hk, Ext.setCells _ _ (Ext.setCells _ _ (Ext.refl _ w).drew (.inl ⟨_, rfl, rfl⟩)) (.inl ⟨_, rfl, rfl⟩)⟩
        rw [hpl]
        obtain ⟨c1, hc1, hs1⟩ := heap_setCells_at (xs.drop i) (0 + (i + 1)) w.drew _ hg
        obtain ⟨c2, hc2, hs2⟩ := heap_setCells_at [x] (0 + i) (w.drew.setCells g (0 + (i + 1)) (xs.drop i)) _ hc1
        refine ownsRow_mk hc2 (by omega) hb hroom hcm hpl fun j hj => ?_
        rw [← List.getElem?_eq_getElem hj]
        rw [hpl] at hj
        rcases Nat.lt_trichotomy j i with hji | hji | hji
        · rw [World.cell?_setCells_out _ _ _ _ _ (fun _ _ => .inl (by show j < 0 + i; omega)), World.cell?_setCells_out _ _ _ _ _ (fun _ _ => .inl (by show j < 0 + (i + 1); omega)), putAt_lt (by omega) hji (by omega)]
          have hj2 : xs[j]? = some xs[j] := List.getElem?_eq_getElem (by omega)
          rw [hj2]
          have := hcell j _ hj2
          rwa [Nat.zero_add] at this
        · subst hji
          rw [putAt_eq (by omega)]
          have := World.cell?_setCells_in g [x] (0 + j) (w.drew.setCells g (0 + (j + 1)) (xs.drop j)) (fun k hk => by
            simp at hk; subst hk
            rw [World.cell?_setCells_out _ _ _ _ _ (fun _ _ => .inl (by show 0 + j + 0 < 0 + (j + 1); omega))]
            exact hsome _ (by omega)) 0 (by simp)
          rw [show 0 + j + 0 = j by omega] at this
          exact this
        · rw [World.cell?_setCells_out _ _ _ _ _ (fun _ _ => .inr (by show 0 + i + 1 ≤ j; omega)), putAt_gt (by omega) hji]
          have := World.cell?_setCells_in g (xs.drop i) (0 + (i + 1)) w.drew (fun k hk => by rw [List.length_drop] at hk; exact hsome _ (by omega)) (j - i - 1) (by rw [List.length_drop]; omega)
          rw [show 0 + (i + 1) + (j - i - 1) = j by omega] at this
          rw [this, List.getElem_drop, List.getElem?_eq_getElem (by omega)]; congr 2; omega
      · have : i = n := by omega
        subst this
        refine (Any2.slices_Insert_int_end_room Tryz.laysInsI g 0 i c vb 0 1 1 [x] w (by decide) hroom (by unfold maxLen at hcm; omega) rfl (fun j hj => hsome _ (by omega)) (fun j hj => frozen_at hg _) hvs hv1).mono ?_
        rintro e w' ⟨rfl, rfl⟩
        refine ⟨some ⟨g, 0, none⟩, c, by rw [hpl], ?_, fun k hk => .inl hk, Ext.setCells _ _ (Ext.refl _ w) (.inl ⟨_, rfl, rfl⟩)⟩
        rw [hpl]
        obtain ⟨c1, hc1, hs1⟩ := heap_setCells_at [x] (0 + i) w _ hg
        refine ownsRow_mk hc1 (by omega) hb hroom hcm hpl fun j hj => ?_
        rw [← List.getElem?_eq_getElem hj]
        rw [hpl] at hj
        rcases Nat.lt_or_ge j i with hji | hji
        · rw [World.cell?_setCells_out _ _ _ _ _ (fun _ _ => .inl (by show j < 0 + i; omega)), putAt_lt (by omega) hji (by omega)]
          have hj2 : xs[j]? = some xs[j] := List.getElem?_eq_getElem (by omega)
          rw [hj2]
          have := hcell j _ hj2
          rwa [Nat.zero_add] at this
        · have hji2 : j = i := by omega
          subst hji2
          rw [putAt_eq (by omega)]
          have := World.cell?_setCells_in g [x] (0 + j) w (fun k hk => by simp at hk; subst hk; exact hsome _ (by omega)) 0 (by simp)
          rw [show 0 + j + 0 = j by omega] at this
          exact this
end Go.Proofs.YtanglcdiebkmiaaGreat
