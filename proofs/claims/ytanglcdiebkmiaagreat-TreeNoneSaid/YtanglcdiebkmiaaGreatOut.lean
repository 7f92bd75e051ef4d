import Derived.Test.YtanglcdiebkmiaaGreatPage3
set_option linter.unusedSimpArgs false
set_option linter.unusedVariables false
namespace Go.Proofs.YtanglcdiebkmiaaGreat
open Go.RowKit Tw

/-- The writer: its struct is block o, its buffer block g. -/
structure OutAt (w : World) (o g : Nat) (l : List UInt8) (at_ : Nat) : Prop where
  st : w.heap[o]? = some (.cells #[.slice (some ⟨g, 0, none⟩) 1024 1024, .int .i64 at_] 160 (0, 0))
  buf : w.heap[g]? = some (.cells (cellsOf l) 5 (0, 0))
  len : l.length = 1024

theorem OutAt.ne {w : World} {o g : Nat} {l : List UInt8} {at_ : Nat} (h : OutAt w o g l at_) : o ≠ g := ne_of_elem h.st h.buf (by decide)

/-- Bytes laid over others. -/
def lay (l : List UInt8) (k : Nat) (bs : List UInt8) : List UInt8 := l.take k ++ bs ++ l.drop (k + bs.length)

theorem length_lay {l : List UInt8} {k : Nat} {bs : List UInt8} (h : k + bs.length ≤ l.length) : (lay l k bs).length = l.length := by
  simp [lay]; omega

theorem lay_two {l : List UInt8} {k : Nat} {a b : UInt8} (h : k + 2 ≤ l.length) : (l.set k a).set (k + 1) b = lay l k [a, b] := by
  unfold lay
  apply List.ext_getElem?
  intro i
  simp only [List.getElem?_set, List.length_set, List.length_cons, List.length_nil]
  by_cases h1 : i = k + 1
  · subst h1
    rw [if_pos rfl, if_pos (by omega), List.append_assoc, List.getElem?_append_right (by simp; omega)]
    simp [show min k l.length = k by omega]
  · by_cases h0 : i = k
    · subst h0
      rw [if_neg (by omega), if_pos rfl, if_pos (by omega), List.append_assoc, List.getElem?_append_right (by simp; omega)]
      simp [show min i l.length = i by omega]
    · rw [if_neg (by omega), if_neg (by omega)]
      rcases Nat.lt_or_ge i k with hi | hi
      · rw [List.append_assoc, List.getElem?_append_left (by simp; omega), List.getElem?_take, if_pos hi]
      · rw [List.append_assoc, List.getElem?_append_right (by simp; omega), List.getElem?_append_right (by simp; omega), List.getElem?_drop]
        congr 1
        simp [show min k l.length = k by omega]; omega

theorem cellsOf_set (l : List UInt8) (k : Nat) (b : UInt8) : (cellsOf l).setIfInBounds k (u8 b) = cellsOf (l.set k b) := by
  simp [cellsOf, List.map_set]

theorem two_post {w : World} {o g at_ n : Nat} {l : List UInt8} (h : OutAt w o g l at_) (ha : at_ + 2 ≤ 1024) :
    OutAt ((((w.setCell ⟨g, at_, none⟩ (.int .u8 ((n : Int) / 256 % 256))).setCell ⟨g, at_ + 1, none⟩ (.int .u8 ((n : Int) % 256))).setCell ⟨o, 1, none⟩ (.int .i64 ((at_ : Int) + 2))).drew) o g (lay l at_ (be2 n)) (at_ + 2) ∧
    Ext (fun k => k = o ∨ k = g) w ((((w.setCell ⟨g, at_, none⟩ (.int .u8 ((n : Int) / 256 % 256))).setCell ⟨g, at_ + 1, none⟩ (.int .u8 ((n : Int) % 256))).setCell ⟨o, 1, none⟩ (.int .i64 ((at_ : Int) + 2))).drew) := by
  have e1 : Value.int .u8 ((n : Int) / 256 % 256) = u8 (UInt8.ofNat (n / 256)) := by
    unfold u8; congr 1
  have e2 : Value.int .u8 ((n : Int) % 256) = u8 (UInt8.ofNat n) := by
    unfold u8; congr 1
  have hl := h.len
  rw [e1, e2]
  refine ⟨⟨?_, ?_, ?_⟩, ?_⟩
  · show (World.setCell _ _ _).heap[o]? = _
    rw [heap_setCell_at (cs := #[.slice (some ⟨g, 0, none⟩) 1024 1024, .int .i64 at_]) (T := 160) (fr := (0, 0)) (by rw [heap_setCell_ne h.ne, heap_setCell_ne h.ne]; exact h.st)]
    simp
  · show (World.setCell _ _ _).heap[g]? = _
    rw [heap_setCell_ne h.ne.symm, heap_setCell_at (heap_setCell_at h.buf _ _), cellsOf_set, cellsOf_set, lay_two (by omega)]
    rfl
  · rw [length_lay (by simp; omega)]; exact hl
  · exact ((((Ext.refl _ w).setCell (.inl (.inr rfl)) _).setCell (.inl (.inr rfl)) _).setCell (.inl (.inl rfl)) _).drew

set_option maxHeartbeats 2000000 in
theorem two_ok {o g at_ n : Nat} {l : List UInt8} (w : World) (h : OutAt w o g l at_) (ha : at_ + 2 ≤ 1024) (hn : n < 4294967296) :
    Calls Tryz.prog 113 #[.pointer (some ⟨o, 0, none⟩), .int .i64 n] w fun e w' => e = .returned (.tuple #[]) ∧ OutAt w' o g (lay l at_ (be2 n)) (at_ + 2) ∧ Ext (fun k => k = o ∨ k = g) w w' := by
  have c0 : w.cell? ⟨o, 0, none⟩ = some (.slice (some ⟨g, 0, none⟩) 1024 1024) := by rw [cell_at h.st]; rfl
  have c1 : w.cell? ⟨o, 1, none⟩ = some (.int .i64 at_) := by rw [cell_at h.st]; rfl
  have z1 := frozen_at h.st 1
  have hl := h.len
  have b0 : w.cell? ⟨g, at_, none⟩ = some (u8 (l[at_]'(by omega))) := by rw [cell_at h.buf]; simp [cellsOf, show at_ < l.length by omega]
  have b1 : w.cell? ⟨g, at_ + 1, none⟩ = some (u8 (l[at_ + 1]'(by omega))) := by rw [cell_at h.buf]; simp [cellsOf, show at_ + 1 < l.length by omega]
  have y0 := frozen_at h.buf at_
  have y1 := frozen_at h.buf (at_ + 1)
  have hne := h.ne
  generalize u8 (l[at_]'(by omega)) = v0 at b0
  generalize u8 (l[at_ + 1]'(by omega)) = v1 at b1
  have hw1 : IntKind.i64.wrap ((at_ : Int) + 1) = (at_ : Int) + 1 := IntWalk.i64_in _ (by omega)
  have i0 : (at_ : Int) < 1024 := by omega
  have i1 : (at_ : Int) + 1 < 1024 := by omega
  have i2 : (0 : Int) ≤ (at_ : Int) + 1 := by omega
  have i3 : ((at_ : Int) + 1).toNat = at_ + 1 := by omega
  have H := Lib.hid h
  clear h hl
  go_enter Tryz.func113, Tryz.ntmps113
  go_wp2
  go_region
  go_wp2
  go_end0
  exact ⟨rfl, two_post H.out ha⟩

theorem lay_four {l : List UInt8} {k : Nat} {a b : List UInt8} (h : k + a.length + b.length ≤ l.length) : lay (lay l k a) (k + a.length) b = lay l k (a ++ b) := by
  have h1 : (l.take k).length = k := by simp; omega
  unfold lay
  have e1 : (l.take k ++ a ++ l.drop (k + a.length)).take (k + a.length) = l.take k ++ a := by
    rw [List.take_append_of_le_length (by simp; omega), List.take_of_length_le (by simp; omega)]
  have e2 : (l.take k ++ a ++ l.drop (k + a.length)).drop (k + a.length + b.length) = l.drop (k + (a ++ b).length) := by
    rw [List.drop_append, List.drop_eq_nil_of_le (by simp; omega), List.nil_append, List.drop_drop]
    congr 1; simp; omega
  rw [e1, e2]; simp [List.append_assoc]

set_option maxHeartbeats 1000000 in
theorem four_ok {o g at_ n : Nat} {l : List UInt8} (w : World) (h : OutAt w o g l at_) (ha : at_ + 4 ≤ 1024) (hn : n < 4294967296) :
    Calls Tryz.prog 114 #[.pointer (some ⟨o, 0, none⟩), .int .i64 n] w fun e w' => e = .returned (.tuple #[]) ∧ OutAt w' o g (lay l at_ (be4 n)) (at_ + 4) ∧ Ext (fun k => k = o ∨ k = g) w w' := by
  have hl := h.len
  have h1 := two_ok (n := n / 65536) w h (by omega) (by omega)
  have H1 := Lib.hid h1
  clear h1 h
  have hd : ((n / 65536 : Nat) : Int) = (n : Int) / 65536 := by omega
  rw [hd] at H1
  go_enter Tryz.func114, Tryz.ntmps114
  go_wp2_with (fail)
  refine H1.out.mono ?_
  rintro e w1 ⟨rfl, h2, he⟩
  have H2 := Lib.hid (two_ok (n := n) w1 h2 (by omega) hn)
  have HE := Lib.hid he
  clear h2 he
  go_wp2_with (fail)
  refine H2.out.mono ?_
  rintro e w2 ⟨rfl, h3, he3⟩
  have H3 := Lib.hid h3
  have HE3 := Lib.hid (HE.out.trans he3)
  clear h3 he3
  go_wp2_with (fail)
  go_end0
  have := H3.out
  have hL := lay_four (l := l) (k := at_) (a := be2 (n / 65536)) (b := be2 n) (by simp; omega)
  rw [length_be2] at hL
  rw [hL] at this
  exact ⟨rfl, this, HE3.out⟩
end Go.Proofs.YtanglcdiebkmiaaGreat
