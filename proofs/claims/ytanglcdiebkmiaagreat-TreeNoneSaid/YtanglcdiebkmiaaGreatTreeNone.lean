/-
  TreeNone: a tree that isn't there (nil, or asked of no arena) has nothing: for every text, with no condition.
-/
import Derived.Test.YtanglcdiebkmiaaGreatRows
import Derived.Test.YtanglcdiebkmiaaGreatNone
import Derived.ProofKit
set_option linter.unusedSimpArgs false
set_option linter.unusedVariables false
namespace Go.Proofs.YtanglcdiebkmiaaGreat
open Go.ChangeShapes Go.WideShapes Go.ChangeAt Go.RowKit Tw

theorem Root_nil (w : World) : Calls Tryz.prog 27 #[.pointer none] w (Gives (.int .i64 0) w) := by
  go_enter Tryz.func27, Tryz.ntmps27
  go_wp2_with (fail)
  refine (over_nil _).mono ?_
  rintro e w' ⟨rfl, rfl⟩
  go_wp2_with (fail)
  go_ret
  exact ⟨rfl, Ext.refl _ _⟩

theorem Pages_nil (w : World) : Calls Tryz.prog 17 #[.pointer none] w (Gives (.slice none 0 0) w) := by
  go_enter Tryz.func17, Tryz.ntmps17
  go_wp2_with (fail)
  refine (over_nil _).mono ?_
  rintro e w' ⟨rfl, rfl⟩
  go_wp2_with (fail)
  go_ret
  exact ⟨rfl, Ext.refl _ _⟩

theorem Drop_nil (w : World) : Calls Tryz.prog 29 #[.pointer none] w (Gives (.int .i64 15) w) := by
  go_enter Tryz.func29, Tryz.ntmps29
  go_wp2_with (fail)
  refine (over_nil _).mono ?_
  rintro e w' ⟨rfl, rfl⟩
  go_wp2_with (fail)
  go_ret
  exact ⟨rfl, Ext.refl _ _⟩

set_option maxRecDepth 10000 in
set_option maxHeartbeats 1000000 in
theorem none_ok (s : Str) (w : World) : Calls Tryz.prog 5 #[.string s] w (Gives (.bool true) w) := by
  have HA := Lib.hid (awake_ok w)
  go_enter Tryz.func5, Tryz.ntmps5
  go_wp2_with (fail)
  refine HA.out.mono ?_
  rintro e w1 ⟨rfl, hx1⟩
  have HX1 := Lib.hid hx1
  clear hx1
  go_wp2_with (fail)
  refine (New_nil _).mono ?_
  rintro e w2 ⟨rfl, hx2⟩
  have HX2 := Lib.hid (HX1.out.trans hx2)
  clear hx2
  go_wp2_with (fail)
  refine (Insert_nil _ _).mono ?_
  rintro e w3 ⟨rfl, hx3⟩
  have HX3 := Lib.hid (HX2.out.trans hx3)
  clear hx3
  go_wp2_with (fail)
  refine (Delete_nil _ _).mono ?_
  rintro e w4 ⟨rfl, hx4⟩
  have HX4 := Lib.hid (HX3.out.trans hx4)
  clear hx4
  go_wp2_with (fail)
  refine (Has_nil _ _).mono ?_
  rintro e w5 ⟨rfl, hx5⟩
  have HX5 := Lib.hid (HX4.out.trans hx5)
  clear hx5
  go_wp2_with (fail)
  refine (Len_nil _).mono ?_
  rintro e w6 ⟨rfl, hx6⟩
  have HX6 := Lib.hid (HX5.out.trans hx6)
  clear hx6
  go_wp2_with (fail)
  refine (Height_nil _).mono ?_
  rintro e w7 ⟨rfl, hx7⟩
  have HX7 := Lib.hid (HX6.out.trans hx7)
  clear hx7
  go_wp2_with (fail)
  refine (Root_nil _).mono ?_
  rintro e w8 ⟨rfl, hx8⟩
  have HX8 := Lib.hid (HX7.out.trans hx8)
  clear hx8
  go_wp2_with (fail)
  refine (Pages_nil _).mono ?_
  rintro e w9 ⟨rfl, hx9⟩
  have HX9 := Lib.hid (HX8.out.trans hx9)
  clear hx9
  go_wp2_with (fail)
  refine (All_nil _).mono ?_
  rintro e w10 ⟨rfl, hx10⟩
  have HX10 := Lib.hid (HX9.out.trans hx10)
  clear hx10
  go_wp2_with (fail)
  refine (Drop_nil _).mono ?_
  rintro e w11 ⟨rfl, hx11⟩
  have HX11 := Lib.hid (HX10.out.trans hx11)
  clear hx11
  go_wp2_with (fail)
  go_ret
  exact ⟨rfl, HX11.out⟩

theorem own_knob : ownKnob Tryz.prog.godebug = none := by kernel_rfl
theorem laid_out : laidOutB Tryz.prog = true := by kernel_rfl

set_option maxRecDepth 100000 in
theorem none_lifted (os : Os) (started : os.Started) (H : Type) (enc : TypeId × Value → H) :
    ReturnsInHanded {} Tryz.checked os 5 .any (Rows.treeNoneSpec.pre6 enc Tryz.prog Tryz.f5 Rows.treeNoneRow.domain false) (Rows.treeNoneSpec.post enc Tryz.prog Tryz.f5 false true false false) := by
  refine returnsInHanded_of_change (C := Tryz.checked) own_knob started (by kernel_rfl) Tryz.func5
    (ChangeSpec.witness6 (enc := enc) (C := Tryz.checked) false ⟨#[], #[.string ⟨#[]⟩], []⟩ 8 (by kernel_rfl) (by kernel_rfl) (by kernel_rfl) (by kernel_rfl)) ?_
  intro W base args ds gs before hval0 hW _ _
  have hval : ∀ (j : Nat) t v, Tryz.f5.params[j]? = some t → args[j]? = some v → Value.okWide Tryz.prog W .any base t v := hval0
  have hW' := hW
  obtain ⟨p, q, hA0, hV, rfl, _, _⟩ := hW
  have hA : DataW.TrodAll enc Tryz.prog W 0 (fun _ => true) true Tryz.f5.params.toList args.toList ds p := hA0
  rw [Tryz.params5] at hA hval
  obtain ⟨v0, d0, rfl, rfl, h0⟩ := trodAll_one hA
  obtain ⟨rfl, rfl⟩ := trodVars_none hV
  clear hA0 hval0
  simp only [List.append_nil] at hW'
  have hlt : ∀ x ∈ p, x.block < W.heap.size := fun x hx => by simpa using hW'.lt x hx
  obtain ⟨s, rfl⟩ := okWide_string Tryz.underlying9 (hval 0 9 v0 rfl rfl)
  refine (none_ok s W).mono ?_
  rintro e W' ⟨rfl, hx⟩
  have hnx := hx.below
  refine ⟨_, rfl, _, _, _, [] ++ [], p, [], hW', ?_, ?_, rfl, hnx.frame _, fun h => by cases h⟩
  · exact trodAll_mk1 (shut_bool Tryz.underlying4 true)
  · exact trodAll_mk1 (Below.trod laid_out (by kernel_rfl) (of_decide_eq_true (by kernel_rfl)) h0 hnx hlt)

theorem tree_none : Rows.TreeNoneSaid :=
  OpenClaim.holds_of_wide 5 Tryz.f5 rfl rfl rfl rfl rfl rfl rfl ⟨rfl, rfl, rfl, rfl, rfl⟩ rfl rfl rfl rfl rfl (by kernel_rfl) Tryz.func5 (by kernel_rfl)
    (of_decide_eq_true (by kernel_rfl)) (by unfold Func.isWrapper; first | (rw [if_pos (by decide +kernel)]; kernel_rfl) | (rw [if_neg (by decide +kernel)]; exact ⟨rfl, rfl⟩))
    (fun os started H enc _ => none_lifted os started H enc)

#print axioms tree_none
end Go.Proofs.YtanglcdiebkmiaaGreat
