/-
  TreeOrders: in whatever order up to 120 texts are put into two trees of one arena, both trees tell the same entries and have the same length: for every list of texts and every list of numbers (the turns), with no condition.
-/
import Derived.Test.YtanglcdiebkmiaaRows
import Derived.Test.YtanglcdiebkmiaaOrders
import Derived.ProofKit
import Derived.SizedLaws
import Derived.SliceStrings
set_option linter.unusedSimpArgs false
set_option linter.unusedVariables false
namespace Go.Proofs.Ytanglcdiebkmiaa
open Go.ChangeShapes Go.WideShapes Go.ChangeAt Go.RowKit Tw

theorem own_knob : ownKnob Try.prog.godebug = none := by kernel_rfl
theorem laid_out : laidOutB Try.prog = true := by kernel_rfl
theorem cells_string : Try.prog.cellsOf 9 = 1 := by kernel_rfl
theorem cells_int : Try.prog.cellsOf 3 = 1 := by kernel_rfl

theorem i64_range {n : Int} (h : (Lit.int .i64 n).wf = true) : -9223372036854775808 ≤ n ∧ n ≤ 9223372036854775807 := by
  have h1 : IntKind.i64.min = -9223372036854775808 := rfl
  have h2 : IntKind.i64.max = 9223372036854775807 := rfl
  simp only [Lit.wf, Bool.and_eq_true, decide_eq_true_eq, h1, h2] at h
  exact h

theorem zero_maxLen {α : Type} : ([] : List α).length ≤ maxLen := by rw [List.length_nil]; exact Nat.zero_le maxLen

set_option maxRecDepth 100000 in
/-- An argument that is a slice of texts. -/
theorem arg_strings {H : Type} {enc : TypeId × Value → H} {W : World} {base : Nat} {v : Value} {d : DataW H} {p : List MemPlace} (hv : Value.okWide Try.prog W .any base 35 v) (h : DataW.Trod enc Try.prog W 0 (fun _ => true) true 35 v d p) :
    ∃ (a : Option Addr) (c : Nat) (l : List Str), v = .slice a l.length c ∧ RowAt W a (l.map .string) ∧ (a = none → l = [] ∧ c = 0) ∧ l.length ≤ maxLen ∧ ∀ s ∈ l, s.size ≤ maxLen := by
  obtain ⟨a0, len, cap, rfl⟩ := okWide_slice Try.underlying35 hv
  obtain ⟨fuel, hf⟩ := h
  rcases open_strings Try.underlying35 Try.underlying9 cells_string hf with ⟨hcs, hx⟩ | ⟨a, len', cap', ss, hcs, _, hl, hm, hz, hx, hcell, hws⟩
  · simp [Value.cells] at hcs
    obtain ⟨rfl, rfl, rfl⟩ := hcs
    exact ⟨none, 0, [], rfl, .inl rfl, fun _ => ⟨rfl, rfl⟩, zero_maxLen, fun s hs => by cases hs⟩
  · simp [Value.cells] at hcs
    obtain ⟨rfl, rfl, rfl⟩ := hcs
    simp only [if_true] at hz
    have hlen : (ss.take len).length = len := by rw [List.length_take]; omega
    refine ⟨some a, cap, ss.take len, by rw [hlen], ?_, fun h => (by cases h), by rw [hlen]; exact Nat.le_trans hl hm, fun s hs => hws s (List.mem_of_mem_take hs)⟩
    by_cases h0 : len = 0
    · exact .inl (by subst h0; simp)
    · obtain ⟨b, off, spot⟩ := a
      have hspot : spot = none := by simpa [Addr.add] using World.cell?_spot (hcell 0 (by omega))
      subst hspot
      refine .inr ⟨b, off, rfl, fun i u hi => ?_⟩
      rw [List.getElem?_map] at hi
      cases hg : (ss.take len)[i]? with
      | none => rw [hg] at hi; cases hi
      | some s =>
        rw [hg] at hi; cases hi
        have hi' : i < (ss.take len).length := (List.getElem?_eq_some_iff.1 hg).1
        have hc := hcell i (by omega)
        rw [Addr.add_lit] at hc
        rw [hc]
        rw [List.getElem?_take_of_lt (by omega)] at hg
        rw [List.getD_eq_getElem?_getD, hg]; rfl

set_option maxRecDepth 100000 in
/-- An argument that is a slice of ints. -/
theorem arg_ints {H : Type} {enc : TypeId × Value → H} {W : World} {base : Nat} {v : Value} {d : DataW H} {p : List MemPlace} (hv : Value.okWide Try.prog W .any base 46 v) (h : DataW.Trod enc Try.prog W 0 (fun _ => true) true 46 v d p) :
    ∃ (a : Option Addr) (c : Nat) (l : List Int), v = .slice a l.length c ∧ RowAt W a (l.map (.int .i64)) ∧ l.length ≤ maxLen ∧ ∀ z ∈ l, -9223372036854775808 ≤ z ∧ z ≤ 9223372036854775807 := by
  obtain ⟨a0, len, cap, rfl⟩ := okWide_slice Try.underlying46 hv
  obtain ⟨fuel, hf⟩ := h
  rcases open_ints Try.underlying46 Try.underlying3 cells_int hf with ⟨hcs, hx⟩ | ⟨a, len', cap', ss, hcs, _, hl, hm, hz, hx, hcell, hws⟩
  · simp [Value.cells] at hcs
    obtain ⟨rfl, rfl, rfl⟩ := hcs
    exact ⟨none, 0, [], rfl, .inl rfl, zero_maxLen, fun s hs => by cases hs⟩
  · simp [Value.cells] at hcs
    obtain ⟨rfl, rfl, rfl⟩ := hcs
    simp only [if_true] at hz
    have hlen : (ss.take len).length = len := by rw [List.length_take]; omega
    refine ⟨some a, cap, ss.take len, by rw [hlen], ?_, by rw [hlen]; exact Nat.le_trans hl hm, fun s hs => i64_range (hws s (List.mem_of_mem_take hs))⟩
    by_cases h0 : len = 0
    · exact .inl (by subst h0; simp)
    · obtain ⟨b, off, spot⟩ := a
      have hspot : spot = none := by simpa [Addr.add] using World.cell?_spot (hcell 0 (by omega))
      subst hspot
      refine .inr ⟨b, off, rfl, fun i u hi => ?_⟩
      rw [List.getElem?_map] at hi
      cases hg : (ss.take len)[i]? with
      | none => rw [hg] at hi; cases hi
      | some s =>
        rw [hg] at hi; cases hi
        have hi' : i < (ss.take len).length := (List.getElem?_eq_some_iff.1 hg).1
        have hc := hcell i (by omega)
        rw [Addr.add_lit] at hc
        rw [hc]
        rw [List.getElem?_take_of_lt (by omega)] at hg
        rw [List.getD_eq_getElem?_getD, hg]; rfl

set_option maxRecDepth 100000 in
theorem orders_lifted (os : Os) (started : os.Started) (H : Type) (enc : TypeId × Value → H) :
    ReturnsInHanded {} Try.checked os 4 .any (Rows.treeOrdersSpec.pre6 enc Try.prog Try.f4 Rows.treeOrdersRow.domain false) (Rows.treeOrdersSpec.post enc Try.prog Try.f4 false true false false) := by
  refine returnsInHanded_of_change (C := Try.checked) own_knob started (by kernel_rfl) Try.func4
    (ChangeSpec.witness6 (enc := enc) (C := Try.checked) false ⟨#[], #[.slice none 0 0, .slice none 0 0], []⟩ 8 (by kernel_rfl) (by kernel_rfl) (by kernel_rfl) (by kernel_rfl)) ?_
  intro W base args ds gs before hval0 hW _ _
  have hval : ∀ (j : Nat) t v, Try.f4.params[j]? = some t → args[j]? = some v → Value.okWide Try.prog W .any base t v := hval0
  have hW' := hW
  obtain ⟨p, q, hA0, hV, rfl, _, _⟩ := hW
  have hA : DataW.TrodAll enc Try.prog W 0 (fun _ => true) true Try.f4.params.toList args.toList ds p := hA0
  rw [Try.params4] at hA hval
  obtain ⟨v0, v1, d0, d1, p0, p1, rfl, rfl, rfl, h0, h1⟩ := trodAll_two hA
  obtain ⟨rfl, rfl⟩ := trodVars_none hV
  clear hA0 hval0
  simp only [List.append_nil] at hW'
  have hlt : ∀ x ∈ p0 ++ p1, x.block < W.heap.size := fun x hx => by simpa using hW'.lt x hx
  obtain ⟨a, c, l, rfl, ha, ha0, hl, hs⟩ := arg_strings (hval 0 35 v0 rfl rfl) h0
  obtain ⟨b, d, zs, rfl, hb, hz, hzr⟩ := arg_ints (hval 1 46 v1 rfl rfl) h1
  refine (orders_ok (c := c) (d := d) W ha ha0 hb hl hz hs hzr).mono ?_
  rintro e W' ⟨rfl, hx⟩
  have hnx := hx.below
  refine ⟨_, rfl, _, _, _, [] ++ [], p0 ++ p1, [], hW', ?_, ?_, rfl, hnx.frame _, fun h => by cases h⟩
  · exact trodAll_mk1 (shut_bool Try.underlying4 true)
  · exact trodAll_mk2 (Below.trod laid_out (by kernel_rfl) (of_decide_eq_true (by kernel_rfl)) h0 hnx fun x hx => hlt x (List.mem_append_left _ hx)) (Below.trod laid_out (by kernel_rfl) (of_decide_eq_true (by kernel_rfl)) h1 hnx fun x hx => hlt x (List.mem_append_right _ hx))

theorem tree_orders : Rows.TreeOrdersSaid :=
  OpenClaim.holds_of_wide 4 Try.f4 rfl rfl rfl rfl rfl rfl rfl ⟨rfl, rfl, rfl, rfl, rfl⟩ rfl rfl rfl rfl rfl (by kernel_rfl) Try.func4 (by kernel_rfl)
    (of_decide_eq_true (by kernel_rfl)) (by unfold Func.isWrapper; first | (rw [if_pos (by decide +kernel)]; kernel_rfl) | (rw [if_neg (by decide +kernel)]; exact ⟨rfl, rfl⟩))
    (fun os started H enc _ => orders_lifted os started H enc)

#print axioms tree_orders
end Go.Proofs.Ytanglcdiebkmiaa
