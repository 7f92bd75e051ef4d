/- The laws' All: a tree's entries. -/
import Derived.Test.YtanglcdiebkmiaaGreatDel2
set_option linter.unusedSimpArgs false
set_option linter.unusedVariables false
namespace Go.Proofs.YtanglcdiebkmiaaGreat
open Go.RowKit Tw

/-- What All's callback holds: a captured slice, and its row. -/
def AllJ (W : World) (ob : Nat) (l : List Str) (G : Nat → Prop) (w : World) : Prop :=
  ∃ a c, w.heap[ob]? = some (.cells #[.slice a l.length c] 33 (0, 0)) ∧ w.ownsRow W.heap.size 9 1 (.slice a l.length c) l.length (l.map .string) ∧ Ext (Only ob) W w ∧ ob < W.heap.size ∧ G = (fun k => k = ob ∨ Blk a k)

set_option maxHeartbeats 400000 in
theorem All1_ok {W : World} {ob : Nat} {x : Str} {l : List Str} {G : Nat → Prop} (w : World) (hJ : AllJ W ob l G w) (hl : l.length < 1000000000) :
    Calls Tryz.prog 58 #[.string x, .pointer (some ⟨ob, 0, none⟩)] w fun e w' => e = .returned (.bool true) ∧ Tells (AllJ W ob) (l ++ [x]) G w w' := by
  obtain ⟨a, c, hb, hown, he, hlt, rfl⟩ := hJ
  have c0 : w.cell? ⟨ob, 0, none⟩ = some (.slice a l.length c) := (cell_at hb 0).trans rfl
  have c0a : ∀ O, (w.alloc O).cell? ⟨ob, 0, none⟩ = some (.slice a l.length c) := fun O => (cell_at (((Ext.refl No w).alloc O).heapNo hb) 0).trans rfl
  have HO := Lib.hid hown
  have HB := Lib.hid hb
  have HE := Lib.hid he
  clear hown hb he
  obtain ⟨i0, hi, hz0, hz1, hz2⟩ := info_parts info_str
  go_enter Tryz.func58, Tryz.ntmps58
  go_wp2_with (at_builtin; refine wpList_append_own_at _ rfl _ _ 33 rfl W.heap.size 9 i0 (.string ⟨#[]⟩) 1 16 Tryz.underlying33 hi hz0 hz1 hz2 rfl (by decide) _ _ _ rfl (HO.out.alloc _) ⟨w.heap.size, 0, none⟩ 1 1 [.string x] rfl rfl ?c1 ?c2 ?c3 ?c4 ?c5 ?_)
  case c1 => exact cell_one_new' _ _ _ (by simp)
  case c2 => intro u hu; simp at hu; subst hu; rfl
  case c3 => unfold maxLen; omega
  case c4 => omega
  case c5 => have := HE.out.size; simp; omega
  intro v' w1 hown' hg _ hat
  obtain ⟨a', c', rfl, _, _, hbk⟩ := ownsRow_form hown'
  have hnb : ¬ Blk a ob := fun h => by have := (HO.out.lt ob (blk_own.1 h)).1; omega
  have hob : Value.ownBlock (.slice a l.length c) ≠ some ob := fun h => hnb (blk_own.2 h)
  have e1 : Ext (fun k => Blk a k) w w1 := ((Ext.refl _ w).alloc _).grownBy hg fun k hk => .inl (blk_own.2 hk)
  have hb1 := e1.heap HB.out hnb
  have f1 := frozen_at hb1 0
  have c1 : w1.cell? ⟨ob, 0, none⟩ = some (.slice a l.length c) := (cell_at hb1 0).trans rfl
  have e2 : Ext (Only ob) w1 (w1.setCell ⟨ob, 0, none⟩ (.slice a' (l.length + 1) c')) := (Ext.refl (Only ob) w1).setCell (p := ⟨ob, 0, none⟩) (.inl rfl) _
  have hnb' : ¬ Blk a' ob := fun h => by
    rcases hat with ht | ht
    · exact hob (ht ▸ blk_own.1 h)
    · rw [blk_own.1 h] at ht; simp at ht; have := lt_of_heap HB.out; omega
  have hgrow : Grow (fun k => k = ob ∨ Blk a k) (fun k => k = ob ∨ Blk a' k) w := fun k hk => by
    rcases hk with hk | hk
    · exact .inl (.inl hk)
    · rcases hat with ht | ht
      · exact .inl (.inr (blk_own.2 (ht ▸ blk_own.1 hk)))
      · rw [blk_own.1 hk] at ht; simp at ht; exact .inr (by omega)
  have HFIN := Lib.hid (show Tells (AllJ W ob) (l ++ [x]) (fun k => k = ob ∨ Blk a k) w (w1.setCell ⟨ob, 0, none⟩ (.slice a' (l.length + 1) c')) from by
    refine ⟨_, ⟨a', c', ?_, ?_, (HE.out.trans' e1 fun y hy h => ?_).trans e2, hlt, rfl⟩, (e1.mono fun y h => .inr h).trans (e2.mono fun y h => .inl h), hgrow⟩
    · rw [List.length_append, List.length_singleton]; exact (heap_setCell_at hb1 0 _).trans rfl
    · have := ownsRow_ext hown' e2 fun k hk h => hnb' (h ▸ blk_own.2 hk)
      rw [List.length_append, List.length_singleton, List.map_append, List.map_singleton]; exact this
    · have := (HO.out.lt y (blk_own.1 h)).1; omega)
  clear hown' hg hat hbk hnb hob e1 hb1 e2 hnb' hgrow c0a
  go_wp2_with (fail)
  go_ret
  exact ⟨rfl, HFIN.out⟩

/-- A slice of one's own with these texts. -/
def GivesS (l : List Str) (w : World) (e : Ending) (w' : World) : Prop :=
  ∃ a c, e = .returned (.slice a l.length c) ∧ w'.ownsRow w.heap.size 9 1 (.slice a l.length c) l.length (l.map .string) ∧ Ext No w w'

set_option maxHeartbeats 400000 in
theorem All_ok {T A root h k : Nat} {F : Nat → Prop} {st : St} {E : List Str} (w : World) (hT : TreeAt w T A root (h + 1) k) (hA : Arena w A st F) (hW : Ways st ⟨#[]⟩ h root E) (hE : E.length ≤ 1000000000) :
    Calls Tryz.prog 28 #[.pointer (some ⟨T, 0, none⟩)] w (GivesS E w) := by
  obtain ⟨W, hW1⟩ : ∃ W, W = w.alloc (.cells #[.slice none 0 0] 33) := ⟨_, rfl⟩
  have e1 : Ext No w W := by rw [hW1]; exact (Ext.refl No w).alloc _
  have hb : W.heap[w.heap.size]? = some (.cells #[.slice none 0 0] 33 (0, 0)) := by rw [hW1]; exact heap_alloc_new _ _
  have hbl := lt_of_heap hb
  have hTl := lt_of_heap hT
  have C : CB 58 #[] #[.pointer (some ⟨w.heap.size, 0, none⟩)] (fun l _ => l.length < 1000000000) (fun _ _ => true) (AllJ W w.heap.size) := by
    refine ⟨fun args w => by kernel_rfl, fun l G w2 h k hk => ?_, fun l G w2 w3 h he => ?_, fun l x G w2 hp h => All1_ok w2 h hp⟩
    · obtain ⟨a, c, hb, hown, _, _, rfl⟩ := h
      rcases hk with hk | hk
      · subst hk; exact lt_of_heap hb
      · exact (hown.lt k (blk_own.1 hk)).2
    · obtain ⟨a, c, hb, hown, hx, hlt, rfl⟩ := h
      exact ⟨a, c, he.heapNo hb, ownsRow_ext hown he fun _ _ f => f, hx.transNo he, hlt, rfl⟩
  have hEa := Each_ok (E := E) (l := []) (frm := ⟨#[]⟩) (til := ⟨#[]⟩) (G := fun k => k = w.heap.size ∨ Blk none k) W C (e1.heapNo hT) (hA.extNo e1) (fun f => f.elim (fun f => by omega) (fun ⟨p, hp, _⟩ => by cases hp)) (fun k f g => g.elim (fun g => by have := hA.lt k f; omega) (fun ⟨p, hp, _⟩ => by cases hp)) hW
    (fun pre s suf he => by have := congrArg List.length he; simp at this ⊢; omega) ⟨none, 0, hb, ⟨rfl, .inl ⟨rfl, rfl⟩⟩, Ext.refl _ _, hbl, rfl⟩
  rw [tell_all _ empty_toList, List.nil_append] at hEa
  have HE := Lib.hid hEa
  have HW1 := Lib.hid hW1
  have HE1 := Lib.hid e1
  have HBL := Lib.hid hbl
  clear hEa hW1 e1 C hb hbl hTl hT hA hW hE
  go_enter Tryz.func28, Tryz.ntmps28
  go_upto_region 2 with (fail)
  rw [← HW1.out]
  go_wp2_with (fail)
  refine HE.out.mono ?_
  rintro e w2 ⟨rfl, G', ⟨a, c, hb, hown, he, hlt, _⟩, _, _⟩
  have c0 : w2.cell? ⟨w.heap.size, 0, none⟩ = some (.slice a E.length c) := (cell_at hb 0).trans rfl
  have HFIN := Lib.hid (show GivesS E w (.returned (.slice a E.length c)) w2 from ⟨a, c, rfl, ownsRow_base hown fun k hk => by have := (hown.lt k hk).1; have := HE1.out.size; omega, HE1.out.trans' he fun x hx f => by have : x = w.heap.size := f; omega⟩)
  clear hb hown he hlt
  go_wp2_with (fail)
  go_ret
  exact HFIN.out
end Go.Proofs.YtanglcdiebkmiaaGreat
