/- slices.Delete of one element at []string and []int: a row of one's own shrinks. -/
import Derived.Test.YtanglcdiebkmiaaGreatIns
import Derived.Shelf.Slices.Delete
import Derived.Sort.OwnSorted
import Derived.Sort.OwnSortedInts
set_option linter.unusedSimpArgs false
set_option linter.unusedVariables false
namespace Go.Proofs.YtanglcdiebkmiaaGreat
open Go.RowKit Tw Go.Sort

theorem grow_nil (w : World) : grow w #[] = w := by simp [grow]

theorem DelS_ok {n c i base : Nat} {a : Option Addr} {rs : List Str} (w : World) (h : w.ownsRow base 9 1 (.slice a n c) n (rs.map .string)) (hi : i < n) :
    Calls Tryz.prog 76 #[.slice a n c, .int .i64 i, .int .i64 ((i : Int) + 1)] w fun e w' =>
      e = .returned (.slice a (n - 1) c) ∧ w'.ownsRow base 9 1 (.slice a (n - 1) c) (n - 1) ((rs.eraseIdx i).map .string) ∧ Ext (fun k => Blk a k) w w' := by
  have hl : rs.length = n := by have := h.1; simp at this; omega
  rcases h.2 with ⟨_, h0⟩ | ⟨g, cap, cur, hv, hb, hg, hnc, hcm, hcs, ht⟩
  · omega
  · cases hv
    have hm : rs.map Value.string = (rs.map (fun s : Str => s.data.toList)).map encStr := by rw [List.map_map]; apply List.map_congr_left; intro s _; rfl
    have hH : Holds encStr w g 0 (rs.map (fun s : Str => s.data.toList)).toArray := holds_of_block hg (by rw [List.length_map, hl, ← hm, ← ht, Nat.mul_one])
    have hC := Any.slices_Delete_string Tryz.laysDelS g 0 c i (i + 1) (rs.map (fun s : Str => s.data.toList)) w hH (by rw [List.length_map]; omega) (by unfold maxLen at hcm; omega) (by omega) (by rw [List.length_map]; omega)
    rw [List.length_map, hl, show n - (i + 1 - i) = n - 1 by omega, show ((i + 1 : Nat) : Int) = (i : Int) + 1 by omega] at hC
    refine hC.mono ?_
    rintro e w' ⟨he, q, rfl⟩
    refine ⟨he, ?_, ?_⟩
    · have ho := ownsRow_sorted (n := q) (os := #[]) (ss := rs.map (fun s : Str => s.data.toList)) (ts := (rs.map (fun s : Str => s.data.toList)).take i ++ (rs.map (fun s : Str => s.data.toList)).drop (i + 1) ++ List.replicate (i + 1 - i) []) (by simp; omega) hb hg (by rw [List.length_map]; omega) hcm hcs
      rw [grow_nil, List.length_map, hl] at ho
      have := ownsRow_take ho (show n - 1 ≤ n by omega)
      have e2 : (((rs.map (fun s : Str => s.data.toList)).take i ++ (rs.map (fun s : Str => s.data.toList)).drop (i + 1) ++ List.replicate (i + 1 - i) []).map encStr).take (n - 1) = (rs.eraseIdx i).map Value.string := by
        rw [List.eraseIdx_eq_take_drop_succ, List.map_append, List.take_append_of_le_length (by simp; omega), List.take_of_length_le (by simp; omega), List.map_append, List.map_append, ← List.map_take, ← List.map_drop, List.map_map, List.map_map]
        rfl
      rw [e2] at this
      exact this
    · have hgb := grownBy_sorted (w := w) (g := g) (n := q) (os := #[]) ((rs.map (fun s : Str => s.data.toList)).take i ++ (rs.map (fun s : Str => s.data.toList)).drop (i + 1) ++ List.replicate (i + 1 - i) []).toArray
      rw [grow_nil] at hgb
      exact (Ext.refl _ w).grownBy hgb fun k hk => by cases hk; exact .inl ⟨_, rfl, rfl⟩

theorem DelI_ok {n c i base : Nat} {a : Option Addr} {rs : List Nat} (w : World) (h : w.ownsRow base 3 1 (.slice a n c) n (rs.map i64)) (hi : i < n) :
    Calls Tryz.prog 108 #[.slice a n c, .int .i64 i, .int .i64 ((i : Int) + 1)] w fun e w' =>
      e = .returned (.slice a (n - 1) c) ∧ w'.ownsRow base 3 1 (.slice a (n - 1) c) (n - 1) ((rs.eraseIdx i).map i64) ∧ Ext (fun k => Blk a k) w w' := by
  have hl : rs.length = n := by have := h.1; simp at this; omega
  rcases h.2 with ⟨_, h0⟩ | ⟨g, cap, cur, hv, hb, hg, hnc, hcm, hcs, ht⟩
  · omega
  · cases hv
    have hm : rs.map i64 = (rs.map (fun k : Nat => (k : Int))).map (Value.int .i64) := by rw [List.map_map]; apply List.map_congr_left; intro s _; rfl
    have hH : Holds (Value.int .i64) w g 0 (rs.map (fun k : Nat => (k : Int))).toArray := holds_of_blockI hg (by rw [List.length_map, hl, ← hm, ← ht, Nat.mul_one])
    have hC := Any.slices_Delete_int Tryz.laysDelI g 0 c i (i + 1) (rs.map (fun k : Nat => (k : Int))) w hH (by rw [List.length_map]; omega) (by unfold maxLen at hcm; omega) (by omega) (by rw [List.length_map]; omega)
    rw [List.length_map, hl, show n - (i + 1 - i) = n - 1 by omega, show ((i + 1 : Nat) : Int) = (i : Int) + 1 by omega] at hC
    refine hC.mono ?_
    rintro e w' ⟨he, q, rfl⟩
    refine ⟨he, ?_, ?_⟩
    · have ho := ownsRow_sortedI (n := q) (os := #[]) (ss := rs.map (fun k : Nat => (k : Int))) (ts := (rs.map (fun k : Nat => (k : Int))).take i ++ (rs.map (fun k : Nat => (k : Int))).drop (i + 1) ++ List.replicate (i + 1 - i) 0) (by simp; omega) hb hg (by rw [List.length_map]; omega) hcm hcs
      rw [grow_nil, List.length_map, hl] at ho
      have := ownsRow_take ho (show n - 1 ≤ n by omega)
      have e2 : (((rs.map (fun k : Nat => (k : Int))).take i ++ (rs.map (fun k : Nat => (k : Int))).drop (i + 1) ++ List.replicate (i + 1 - i) 0).map (Value.int .i64)).take (n - 1) = (rs.eraseIdx i).map i64 := by
        rw [List.eraseIdx_eq_take_drop_succ, List.map_append, List.take_append_of_le_length (by simp; omega), List.take_of_length_le (by simp; omega), List.map_append, List.map_append, ← List.map_take, ← List.map_drop, List.map_map, List.map_map]
        rfl
      rw [e2] at this
      exact this
    · have hgb := grownBy_sortedI (w := w) (g := g) (n := q) (os := #[]) ((rs.map (fun k : Nat => (k : Int))).take i ++ (rs.map (fun k : Nat => (k : Int))).drop (i + 1) ++ List.replicate (i + 1 - i) 0).toArray
      rw [grow_nil] at hgb
      exact (Ext.refl _ w).grownBy hgb fun k hk => by cases hk; exact .inl ⟨_, rfl, rfl⟩
end Go.Proofs.YtanglcdiebkmiaaGreat
