/- Has. -/
import Derived.Test.YtanglcdiebkmiaaGreatEach1
set_option linter.unusedSimpArgs false
set_option linter.unusedVariables false
namespace Go.Proofs.YtanglcdiebkmiaaGreat
open Go.RowKit Tw

/-- Is the first entry s? -/
def headIs (E : List Str) (s : Str) : Bool := match E with
  | [] => false
  | x :: _ => x.toList == s.toList
def lastIs (E : List Str) (s : Str) : Bool := match E.getLast? with
  | none => false
  | some x => x.toList == s.toList
theorem lastIs_snoc (l : List Str) (x s : Str) : lastIs (l ++ [x]) s = (x.toList == s.toList) := by unfold lastIs; rw [List.getLast?_concat]
theorem lastIs_take (E : List Str) (s : Str) : lastIs (E.take 1) s = headIs E s := by cases E <;> rfl

def HasJ (W : World) (fb sb : Nat) (s : Str) (l : List Str) (G : Nat → Prop) (w : World) : Prop :=
  G = Only fb ∧ Ext (Only fb) W w ∧ w.heap[fb]? = some (.cells #[.bool (lastIs l s)] 4 (0, 0)) ∧ w.heap[sb]? = some (.cells #[.string s] 9 (0, 0))

theorem Has1_ok {W : World} {fb sb : Nat} {s x : Str} {l : List Str} {G : Nat → Prop} (w : World) (hJ : HasJ W fb sb s l G w) :
    Calls Tryz.prog 57 #[.string x, .pointer (some ⟨sb, 0, none⟩), .pointer (some ⟨fb, 0, none⟩)] w fun e w' => e = .returned (.bool false) ∧ Tells (HasJ W fb sb s) (l ++ [x]) G w w' := by
  obtain ⟨rfl, he, hf, hs⟩ := hJ
  have hne : fb ≠ sb := ne_of_elem hf hs (by decide)
  have c0 : w.cell? ⟨sb, 0, none⟩ = some (.string s) := (cell_at hs 0).trans rfl
  have c1 : w.cell? ⟨fb, 0, none⟩ = some (.bool (lastIs l s)) := (cell_at hf 0).trans rfl
  have f1 := frozen_at hf 0
  have ew : Ext (Only fb) w (w.setCell ⟨fb, 0, none⟩ (.bool (x.toList == s.toList))) := (Ext.refl (Only fb) w).setCell (p := ⟨fb, 0, none⟩) (.inl rfl) _
  have HFIN := Lib.hid (show Tells (HasJ W fb sb s) (l ++ [x]) (Only fb) w (w.setCell ⟨fb, 0, none⟩ (.bool (x.toList == s.toList))) from
    ⟨Only fb, ⟨rfl, he.trans ew, by rw [lastIs_snoc]; exact heap_setCell_at hf 0 _, ew.heap hs (fun f => hne f.symm)⟩, ew, Grow.refl _ _⟩)
  clear he hf hs ew
  go_enter Tryz.func57, Tryz.ntmps57
  go_wp2_with (fail)
  go_ret
  exact ⟨rfl, HFIN.out⟩

theorem empty_toList : (⟨#[]⟩ : Str).toList = [] := by rw [Lib.toList_data]
theorem tell_one (til : Str) (ht : til.toList = []) : ∀ (E : List Str), tellAll (fun _ _ => false) til E [] = (E.take 1, E.isEmpty)
  | [] => rfl
  | x :: E => by rw [tellAll, past_nil ht]; rfl

set_option maxHeartbeats 400000 in
theorem Has_ok {T A root h k : Nat} {F : Nat → Prop} {st : St} {s : Str} {E : List Str} (w : World)
    (hT : TreeAt w T A root (h + 1) k) (hA : Arena w A st F) (hW : Ways st s h root E) :
    Calls Tryz.prog 25 #[.pointer (some ⟨T, 0, none⟩), .string s] w (Gives (.bool (headIs E s)) w) := by
  obtain ⟨W, hW1⟩ : ∃ W, W = (w.alloc (.cells #[.string s] 9)).alloc (.cells #[.bool false] 4) := ⟨_, rfl⟩
  have e1 : Ext No w W := by rw [hW1]; exact ((Ext.refl No w).alloc _).alloc _
  have hs : W.heap[w.heap.size]? = some (.cells #[.string s] 9 (0, 0)) := by rw [hW1, heap_alloc_lt (by simp)]; exact heap_alloc_new _ _
  have hf : W.heap[w.heap.size + 1]? = some (.cells #[.bool false] 4 (0, 0)) := by rw [hW1]; simpa using heap_alloc_new (w.alloc (.cells #[.string s] 9)) (.cells #[.bool false] 4)
  have hfl := lt_of_heap hf
  have hTl := lt_of_heap hT
  have C : CB 57 #[] #[.pointer (some ⟨w.heap.size, 0, none⟩), .pointer (some ⟨w.heap.size + 1, 0, none⟩)] (fun _ _ => True) (fun _ _ => false) (HasJ W (w.heap.size + 1) w.heap.size s) :=
    ⟨fun args w => by kernel_rfl, fun _ _ _ ⟨h0, h1, h2, _⟩ k hk => by subst h0; have hk' : k = w.heap.size + 1 := hk; subst hk'; exact lt_of_heap h2, fun _ _ _ _ h he => ⟨h.1, h.2.1.transNo he, he.heapNo h.2.2.1, he.heapNo h.2.2.2⟩, fun l x G w' _ h => Has1_ok w' h⟩
  have hE := Each_ok (E := E) (l := []) (frm := s) (til := ⟨#[]⟩) (G := Only (w.heap.size + 1)) W C (e1.heapNo hT) (hA.extNo e1) (fun f => by have : T = w.heap.size + 1 := f; omega) (fun k f g => by have := hA.lt k f; have : k = w.heap.size + 1 := g; omega) hW (fun _ _ _ _ => trivial) ⟨rfl, Ext.refl _ _, hf, hs⟩
  rw [tell_one _ empty_toList] at hE
  have k0 : W.cell? ⟨w.heap.size, 0, none⟩ = some (.string s) := (cell_at hs 0).trans rfl
  have HE := Lib.hid hE
  have HW1 := Lib.hid hW1
  have HE1 := Lib.hid e1
  clear hE hW1 e1 C hf hfl hTl hT hA hW hs
  go_enter Tryz.func25, Tryz.ntmps25
  go_upto_region 2 with (fail)
  rw [← HW1.out]
  go_wp2_with (fail)
  refine HE.out.mono ?_
  rintro e w2 ⟨rfl, _, ⟨_, he, hf, hs⟩, _, _⟩
  rw [lastIs_take] at hf
  have c0 : w2.cell? ⟨w.heap.size + 1, 0, none⟩ = some (.bool (headIs E s)) := (cell_at hf 0).trans rfl
  have HX := Lib.hid (HE1.out.trans' he fun x hx f => by have : x = w.heap.size + 1 := f; omega)
  clear he hf hs
  go_wp2_with (fail)
  go_ret
  exact ⟨rfl, HX.out⟩
end Go.Proofs.YtanglcdiebkmiaaGreat
