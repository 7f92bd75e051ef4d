import Derived.Test.YtanglcdiebkmiaaGreatPage2
set_option linter.unusedSimpArgs false
set_option linter.unusedVariables false
namespace Go.Proofs.YtanglcdiebkmiaaGreat
open Go.RowKit Tw

/-- The struct's box, made at a function's beginning. -/
theorem box_cells {w w' : World} {F : Nat → Prop} {x y z : Value} {T : TypeId} (he : Ext F (w.alloc (.cells #[x, y, z] T)) w') (hF : ¬ F w.heap.size) :
    w'.heap[w.heap.size]? = some (.cells #[x, y, z] T (0, 0)) := he.heap (heap_alloc_new w _) hF

theorem slt_str {a b : Str} (h : slt a b = true) : Op.bytesLess b.toList a.toList = false ∧ (b.toList == a.toList) = false := by
  refine ⟨slt_asymm h, ?_⟩
  rw [beq_eq_false_iff_ne]
  intro e
  have : b = a := str_ext (by rw [← Lib.toList_data, ← Lib.toList_data, e])
  subst this; rw [slt_irrefl] at h; cases h

set_option maxHeartbeats 1000000 in
theorem shaped_ok {ra ka : Option Addr} {rc kc : Nat} {n : Nd} (w : World) (h : NodeIn w ra ka n) (hs : n.Shaped) (hz : n.size ≤ 1000000) :
    Calls Tryz.prog 103 #[nodeVal n ra rc ka kc] w (Gives (.bool true) w) := by
  have hsz : n.size = 3 + 4 * n.kids.length + weigh n.recs := rfl
  have hrl := length_le_weigh n.recs
  have hk : n.kids.length ≤ 1000000 := by omega
  have hr : n.recs.length ≤ 1000000 := by omega
  have hlk := hs.lk
  have hik := hs.ik
  have hC := fun w' (he : Ext No w w') => ContainsFunc_ok (g := 123) (a := ka) (c := kc) (xs := n.kids) #[] #[] w' (fun _ w2 => Ext No w w2) (fun _ _ => False) (fun args w => by kernel_rfl) hk (fun _ w2 hw => h.kids.extNo hw)
    (fun k hk w2 hw => (shaped1_ok n.kids[k] w2 (hs.kid _ (List.getElem_mem hk)).1 (hs.kid _ (List.getElem_mem hk)).2).mono fun e w3 ⟨he, hw3⟩ => ⟨false, he, (fun e => by cases e), (fun _ => by subst hw3; exact hw)⟩) he
  have HC := Lib.hid hC
  have HS := Lib.hid hs
  have H := Lib.hid h
  clear hC hs h hsz hrl hz
  unfold nodeVal
  rcases hlf : n.leaf with _ | _
  · have hik := hik hlf
    have hb : ((n.kids.length : Int) != (n.recs.length : Int) + 1) = false := by rw [bne_eq_false_iff_eq]; omega
    rename_i hik0
    clear hlf hik hik0 hlk
    go_enter Tryz.func103, Tryz.ntmps103
    go_wp2
    go_loop [31] (fun i => ∃ k : Nat, k ≤ n.recs.length ∧ i = .int .i64 k) (fun i => n.recs.length - (intOf i).toNat)
    case atStart => exact ⟨0, Nat.zero_le _, rfl⟩
    case round =>
      obtain ⟨k, hk, rfl⟩ := hrel
      by_cases hlt : k < n.recs.length
      · obtain ⟨b, off, rfl, hc⟩ := (H.out.extNo ((Ext.refl No w).alloc (.cells #[.bool false, .slice ra n.recs.length rc, .slice ka n.kids.length kc] 79))).recs.cell (i := k) (by simpa using hlt)
        rw [List.getElem_map] at hc
        have hsz := HS.out.one _ (List.getElem_mem hlt)
        by_cases hk0 : 0 < k
        · obtain ⟨b2, off2, hb2, hc2⟩ := (H.out.extNo ((Ext.refl No w).alloc (.cells #[.bool false, .slice (some ⟨b, off, none⟩) n.recs.length rc, .slice ka n.kids.length kc] 79))).recs.cell (i := k - 1) (by simp; omega)
          cases hb2
          rw [List.getElem_map] at hc2
          obtain ⟨hp1, hp2⟩ := slt_str ((List.pairwise_iff_getElem.1 HS.out.up) (k - 1) k (by omega) hlt (by omega))
          have hk1 : (0 : Int) ≤ (k : Int) - 1 := by omega
          have hk2 : ((k : Int) - 1).toNat = k - 1 := by omega
          have hk3 : (k : Int) - 1 < n.recs.length := by omega
          have hk4 : IntKind.i64.wrap ((k : Int) - 1) = (k : Int) - 1 := IntWalk.i64_in _ (by omega)
          have hk5 : decide ((0 : Int) < (k : Int)) = true := by simpa using hk0
          generalize n.recs[k] = s1 at hc hsz hp1 hp2
          generalize n.recs[k - 1] = s2 at hc2 hp1 hp2
          have hz1 : decide ((s1.size : Int) < 1) = false := by simp; omega
          have hz2 : decide ((400 : Int) < (s1.size : Int)) = false := by simp; omega
          go_wp2
          go_round
          case rel => exact ⟨k + 1, by omega, by go_num⟩
          case measure => simp [intOf]; omega
        · have hk5 : decide ((0 : Int) < (k : Int)) = false := by simpa using hk0
          generalize n.recs[k] = s1 at hc hsz
          have hz1 : decide ((s1.size : Int) < 1) = false := by simp; omega
          have hz2 : decide ((400 : Int) < (s1.size : Int)) = false := by simp; omega
          go_wp2
          go_round
          case rel => exact ⟨k + 1, by omega, by go_num⟩
          case measure => simp [intOf]; omega
      · go_wp2_with (fail)
        refine (HC.out _ ((Ext.refl No w).alloc _)).mono ?_
        rintro e w' (⟨_, _, _, hf⟩ | ⟨rfl, he⟩)
        · exact hf.elim
        · have HE := Lib.hid he
          clear he
          go_wp2_with (fail)
          go_ret
          exact ⟨by simp, HE.out⟩
  · have hlk := hlk hlf
    rename_i hlk0
    have hl0 : n.kids.length = 0 := by rw [hlk]; rfl
    rw [hl0] at HC ⊢
    clear hlf hik hlk0 hlk hl0 hk
    go_enter Tryz.func103, Tryz.ntmps103
    go_wp2
    go_loop [31] (fun i => ∃ k : Nat, k ≤ n.recs.length ∧ i = .int .i64 k) (fun i => n.recs.length - (intOf i).toNat)
    case atStart => exact ⟨0, Nat.zero_le _, rfl⟩
    case round =>
      obtain ⟨k, hk, rfl⟩ := hrel
      by_cases hlt : k < n.recs.length
      · obtain ⟨b, off, rfl, hc⟩ := (H.out.extNo ((Ext.refl No w).alloc (.cells #[.bool true, .slice ra n.recs.length rc, .slice ka 0 kc] 79))).recs.cell (i := k) (by simpa using hlt)
        rw [List.getElem_map] at hc
        have hsz := HS.out.one _ (List.getElem_mem hlt)
        by_cases hk0 : 0 < k
        · obtain ⟨b2, off2, hb2, hc2⟩ := (H.out.extNo ((Ext.refl No w).alloc (.cells #[.bool true, .slice (some ⟨b, off, none⟩) n.recs.length rc, .slice ka 0 kc] 79))).recs.cell (i := k - 1) (by simp; omega)
          cases hb2
          rw [List.getElem_map] at hc2
          obtain ⟨hp1, hp2⟩ := slt_str ((List.pairwise_iff_getElem.1 HS.out.up) (k - 1) k (by omega) hlt (by omega))
          have hk1 : (0 : Int) ≤ (k : Int) - 1 := by omega
          have hk2 : ((k : Int) - 1).toNat = k - 1 := by omega
          have hk3 : (k : Int) - 1 < n.recs.length := by omega
          have hk4 : IntKind.i64.wrap ((k : Int) - 1) = (k : Int) - 1 := IntWalk.i64_in _ (by omega)
          have hk5 : decide ((0 : Int) < (k : Int)) = true := by simpa using hk0
          generalize n.recs[k] = s1 at hc hsz hp1 hp2
          generalize n.recs[k - 1] = s2 at hc2 hp1 hp2
          have hz1 : decide ((s1.size : Int) < 1) = false := by simp; omega
          have hz2 : decide ((400 : Int) < (s1.size : Int)) = false := by simp; omega
          go_wp2
          go_round
          case rel => exact ⟨k + 1, by omega, by go_num⟩
          case measure => simp [intOf]; omega
        · have hk5 : decide ((0 : Int) < (k : Int)) = false := by simpa using hk0
          generalize n.recs[k] = s1 at hc hsz
          have hz1 : decide ((s1.size : Int) < 1) = false := by simp; omega
          have hz2 : decide ((400 : Int) < (s1.size : Int)) = false := by simp; omega
          go_wp2
          go_round
          case rel => exact ⟨k + 1, by omega, by go_num⟩
          case measure => simp [intOf]; omega
      · go_wp2_with (fail)
        refine (HC.out _ ((Ext.refl No w).alloc _)).mono ?_
        rintro e w' (⟨_, _, _, hf⟩ | ⟨rfl, he⟩)
        · exact hf.elim
        · have HE := Lib.hid he
          clear he
          go_wp2_with (fail)
          go_ret
          exact ⟨by simp, HE.out⟩

set_option maxHeartbeats 1000000 in
theorem Right_ok {ra ka : Option Addr} {rc kc : Nat} {n : Nd} (w : World) (h : NodeIn w ra ka n) (hs : n.Shaped) (hz : n.size ≤ 1000000) :
    Calls Tryz.prog 73 #[nodeVal n ra rc ka kc] w (Gives (.bool (decide (n.size ≤ 1024))) w) := by
  have h1 := fun w' he => shaped_ok (rc := rc) (kc := kc) w' (h.extNo (w := w) (w' := w') he) hs hz
  have h2 := fun w' he => Size_ok (rc := rc) (kc := kc) w' (h.extNo (w := w) (w' := w') he) hz
  have H1 := Lib.hid h1
  have H2 := Lib.hid h2
  clear h1 h2 h hs
  unfold nodeVal at *
  have hd : decide ((n.size : Int) ≤ 1024) = decide (n.size ≤ 1024) := by by_cases e : n.size ≤ 1024 <;> simp [e] <;> omega
  go_enter Tryz.func73, Tryz.ntmps73
  go_wp2_with (fail)
  refine (H1.out _ ((Ext.refl No w).alloc _)).mono ?_
  rintro e w1 ⟨rfl, he1⟩
  have hb := box_cells he1 (fun f => f)
  have hc0 : w1.cell? ⟨w.heap.size, 0, none⟩ = some (.bool n.leaf) := by rw [cell_at hb]; rfl
  have hc1 : w1.cell? ⟨w.heap.size, 1, none⟩ = some (.slice ra n.recs.length rc) := by rw [cell_at hb]; rfl
  have hc2 : w1.cell? ⟨w.heap.size, 2, none⟩ = some (.slice ka n.kids.length kc) := by rw [cell_at hb]; rfl
  have HE1 := Lib.hid (((Ext.refl No w).alloc _).trans' he1 fun _ _ f => f)
  clear hb he1
  go_wp2_with (fail)
  refine (H2.out _ HE1.out).mono ?_
  rintro e w2 ⟨rfl, he2⟩
  have HE2 := Lib.hid (HE1.out.trans he2)
  clear he2
  go_wp2_with (fail)
  go_ret
  exact ⟨by simp [hd], HE2.out⟩
end Go.Proofs.YtanglcdiebkmiaaGreat
