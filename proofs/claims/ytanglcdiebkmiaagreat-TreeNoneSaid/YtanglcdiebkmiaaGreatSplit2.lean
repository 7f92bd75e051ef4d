import Derived.Test.YtanglcdiebkmiaaGreatSplit1
set_option linter.unusedSimpArgs false
set_option linter.unusedVariables false
namespace Go.Proofs.YtanglcdiebkmiaaGreat
open Go.RowKit Tw
set_option maxRecDepth 10000 in
set_option maxHeartbeats 1000000 in
theorem Split_leaf {ka : Option Addr} {rb rc kc : Nat} {n : Nd} (w : World) (hrow : RowAt w (some ⟨rb, 0, none⟩) (n.recs.map .string)) (hrc : n.recs.length ≤ rc)
    (hl : n.leaf = true) (hlen : 2 ≤ n.recs.length) (hz : weigh n.recs ≤ 100000) :
    Calls Tryz.prog 74 #[nodeVal n (some ⟨rb, 0, none⟩) rc ka kc] w (SplitPost n w) := by
  have hrl := length_le_weigh n.recs
  have hW1 : ∀ w', Ext No w w' → ∀ i, i ≤ n.recs.length → Calls Tryz.prog 104 #[.slice (some ⟨rb, 0, none⟩) i rc] w' fun e w'' => e = .returned (.int .i64 (weigh (n.recs.take i))) ∧ w'' = w' := fun w' he i hi => by
    have := weigh_ok (c := rc) (a := some ⟨rb, 0, none⟩) (l := n.recs.take i) w' (by rw [List.map_take]; exact (hrow.extNo he).take i) (by have := weigh_take_le n.recs i; omega) (by rw [List.length_take]; omega)
    rwa [List.length_take, Nat.min_eq_left hi] at this
  have hW2 : ∀ w', Ext No w w' → ∀ j, j ≤ n.recs.length → Calls Tryz.prog 104 #[.slice (some ⟨rb, j, none⟩) (n.recs.length - j) (rc - j)] w' fun e w'' => e = .returned (.int .i64 (weigh (n.recs.drop j))) ∧ w'' = w' := fun w' he j hj => by
    have hd := weigh_drop_le n.recs j
    have := weigh_ok (c := rc - j) (a := some ⟨rb, j, none⟩) (l := n.recs.drop j) w' (by rw [List.map_drop]; have := RowAt.drop (hrow.extNo he) j; rwa [Nat.zero_add] at this) (by omega) (by rw [List.length_drop]; omega)
    rwa [List.length_drop] at this
  have hSm := fun w' (he : Ext No w w') f t h1 h2 h3 => some_ok (kb := 0) (ka := ka) (kc := kc) (f := f) (t := t) w' (hrow.extNo he) h1 h2 h3 hrc (by omega) (fun h => by rw [hl] at h; cases h)
  have HW1 := Lib.hid hW1
  have HW2 := Lib.hid hW2
  have HSm := Lib.hid hSm
  have HROW := Lib.hid hrow
  have HL := Lib.hid hl
  have hsk : skipOf n = 0 := by unfold skipOf; rw [hl]; rfl
  have hea : eachOf n = 0 := by unfold eachOf; rw [hl]; rfl
  have hside : ∀ i, side n i = max (weigh (n.recs.take i)) (weigh (n.recs.drop i)) := fun i => by unfold side; rw [hsk, hea]; simp
  have HSIDE := Lib.hid hside
  have HSK := Lib.hid hsk
  have hb1 := weigh_take_le n.recs
  have hb2 := weigh_drop_le n.recs
  have HB1 := Lib.hid hb1
  have HB2 := Lib.hid hb2
  clear hW1 hW2 hSm hrow hside hsk hea hb1 hb2
  unfold nodeVal at HSm ⊢
  rw [hl] at HSm ⊢
  clear hl
  generalize hN : n.recs.length = N at *
  generalize hK : n.kids.length = K at *
  have HN := Lib.hid hN
  have HK := Lib.hid hK
  clear hN hK
  go_enter Tryz.func74, Tryz.ntmps74
  go_upto_region 5 with (fail)
  obtain ⟨W0, hW0⟩ : ∃ W0, W0 = ((w.alloc (.cells #[.bool true, .slice (some ⟨rb, 0, none⟩) N rc, .slice ka K kc] 79)).alloc (.cells #[.bool false, .slice none 0 0, .slice none 0 0] 79)).alloc (.cells #[.bool false, .slice none 0 0, .slice none 0 0] 79) := ⟨_, rfl⟩
  have hbx0 : W0.heap[w.heap.size]? = some (.cells #[.bool true, .slice (some ⟨rb, 0, none⟩) N rc, .slice ka K kc] 79 (0, 0)) := by
    rw [hW0, heap_alloc_lt (by simp; omega), heap_alloc_lt (by simp)]; exact heap_alloc_new _ _
  have hra0 : W0.heap[w.heap.size + 1]? = some (.cells #[.bool false, .slice none 0 0, .slice none 0 0] 79 (0, 0)) := by
    rw [hW0, heap_alloc_lt (by simp)]
    have := heap_alloc_new (w.alloc (.cells #[.bool true, .slice (some ⟨rb, 0, none⟩) N rc, .slice ka K kc] 79)) (.cells #[.bool false, .slice none 0 0, .slice none 0 0] 79)
    simpa using this
  have hrb0 : W0.heap[w.heap.size + 1 + 1]? = some (.cells #[.bool false, .slice none 0 0, .slice none 0 0] 79 (0, 0)) := by
    rw [hW0]
    have := heap_alloc_new ((w.alloc (.cells #[.bool true, .slice (some ⟨rb, 0, none⟩) N rc, .slice ka K kc] 79)).alloc (.cells #[.bool false, .slice none 0 0, .slice none 0 0] 79)) (.cells #[.bool false, .slice none 0 0, .slice none 0 0] 79)
    simpa using this
  have eW0 : Ext No w W0 := hW0 ▸ (((Ext.refl No w).alloc _).alloc _).alloc _
  have hsz0 : W0.heap.size = w.heap.size + 3 := by rw [hW0]; simp
  rw [← hW0]
  have HBX := Lib.hid hbx0
  have HRA := Lib.hid hra0
  have HRB := Lib.hid hrb0
  have HEW := Lib.hid eW0
  have HSZ := Lib.hid hsz0
  clear hbx0 hra0 hrb0 eW0 hsz0 hW0
  go_wp2_with (fail)
  go_loopw [7, 8, 9] (fun s7 s8 s9 wr => ∃ k l i : Nat, s7 = .int .i64 k ∧ s8 = .int .i64 l ∧ s9 = .int .i64 i ∧ 1 ≤ i ∧ i ≤ N ∧ Hid (PickAt n k l i) ∧ Hid (Ext No W0 wr)) (fun _ _ s9 _ => N - (intOf s9).toNat)
  case atStart => exact ⟨0, 0, 1, rfl, rfl, rfl, by omega, by omega, .inl ⟨rfl, rfl, rfl⟩, Ext.refl _ _⟩
  case round =>
    obtain ⟨k, l, i, rfl, rfl, rfl, hi1, hi2, hP, hE⟩ := hrel
    have b1 : wr.cell? ⟨w.heap.size, 1, none⟩ = some (.slice (some ⟨rb, 0, none⟩) N rc) := (cell_at (hE.out.heapNo HBX.out) 1).trans rfl
    by_cases hlt : i < N
    · have w1 := HB1.out i
      have w2 := HB2.out i
      have hA1 := fun w' he => HW1.out w' he i (by omega)
      have hA2 := fun w' he => HW2.out w' he i (by omega)
      have hsd := HSIDE.out i
      generalize weigh (n.recs.take i) = A at w1 hA1 hsd
      generalize weigh (n.recs.drop i) = B at w2 hA2 hsd
      have HA1 := Lib.hid hA1
      have HA2 := Lib.hid hA2
      have HSD := Lib.hid hsd
      clear hA1 hA2 hsd
      have hBz : A ≤ 100000 := by omega
      have hBz2 : B ≤ 100000 := by omega
      have hNz : N ≤ 100000 := by omega
      have s1 : IntKind.i64.wrap ((i : Int) * 0) = 0 := by rw [Int.mul_zero]; rfl
      have s0 : IntKind.i64.wrap 0 = 0 := rfl
      have s2 : IntKind.i64.wrap (A : Int) = (A : Int) := IntWalk.i64_in _ (by omega)
      have s3 : IntKind.i64.wrap (i : Int) = (i : Int) := IntWalk.i64_in _ (by omega)
      have s4 : IntKind.i64.wrap ((N : Int) - (i : Int)) = (N : Int) - (i : Int) := IntWalk.i64_in _ (by omega)
      have s6 : IntKind.i64.wrap (((N : Int) - (i : Int)) * 0) = 0 := by rw [Int.mul_zero]; rfl
      have s7 : IntKind.i64.wrap (B : Int) = (B : Int) := IntWalk.i64_in _ (by omega)
      have s8 : IntKind.i64.wrap ((i : Int) + 1) = (i : Int) + 1 := IntWalk.i64_in _ (by omega)
      have t0 : (0 : Int) ≤ (i : Int) := by omega
      have t1 : (i : Int) ≤ (rc : Int) := by omega
      have t2 : (i : Int) ≤ (N : Int) := by omega
      have t5 : ¬ (rc = i) := by omega
      have t6 : (i : Int) < (N : Int) := by omega
      go_wp2_with (fail)
      go_quiet ((first | (go_at_call_of 104 (Value.slice (some ⟨rb, 0, none⟩) i rc); exact Calls.quiet_of_same (HA1.out _ ((HEW.out.trans hE.out).drewN _))) | (go_at_call 104; exact Calls.quiet_of_same (HA2.out _ ((HEW.out.trans hE.out).drewN _)))))
      have hmx : max (A : Int) (B : Int) = ((side n i : Nat) : Int) := by rw [HSD.out]; omega
      have HMX := Lib.hid hmx
      have HE2 := Lib.hid (hE.out.drewN nq)
      clear hmx
      go_wp2_with (fail)
      · go_roundw
        case rel => exact ⟨i, side n i, i + 1, rfl, by rw [HMX.out], by go_num, by omega, by omega, hP.out.take (.inl (by assumption)), HE2.out⟩
        case measure => simp [intOf]; omega
      · go_roundw
        case rel =>
          have hk : ¬ k = 0 := by assumption
          have hd : ((k : Int) == 0) = true ∨ max (A : Int) (B : Int) < (l : Int) := by assumption
          rw [HMX.out] at hd
          exact ⟨i, side n i, i + 1, rfl, by rw [HMX.out], by go_num, by omega, by omega, hP.out.take (hd.imp (fun e => by simpa using e) fun e => by omega), HE2.out⟩
        case measure => simp [intOf]; omega
      · go_roundw
        case rel =>
          have hk : ¬ k = 0 := by assumption
          have hd : ((k : Int) == 0) = false ∧ (l : Int) ≤ max (A : Int) (B : Int) := by assumption
          rw [HMX.out] at hd
          exact ⟨k, l, i + 1, rfl, rfl, by go_num, by omega, by omega, hP.out.keep hk (by omega), HE2.out⟩
        case measure => simp [intOf]; omega
    · have hi3 : i = N := by omega
      have hB := Best_of_pick (n := n) (k := k) (l := l) (i := i) hP.out (by rw [HSK.out, HN.out]; omega) (by omega)
      have HBest := Lib.hid hB
      obtain ⟨hk1, hk2, _⟩ := hB
      rw [HSK.out, HN.out] at hk2
      have HK1 := Lib.hid hk1
      have hbx := hE.out.heapNo HBX.out
      have hra := hE.out.heapNo HRA.out
      have hrb := hE.out.heapNo HRB.out
      have hrowr := HROW.out.extNo (HEW.out.trans hE.out)
      obtain ⟨rb', off', hb', hcs⟩ := hrowr.cell (i := k) (by rw [List.length_map, HN.out]; omega)
      cases hb'
      rw [Nat.zero_add, List.getElem_map] at hcs
      have HSS := Lib.hid (show n.recs[k]'(by rw [HN.out]; omega) = n.recs.getD k ByteArray.empty from (getD_lt _).symm)
      rw [HSS.out] at hcs
      generalize hsk : n.recs.getD k ByteArray.empty = sk at hcs
      have HSKK := Lib.hid hsk
      have hS1 := HSm.out wr.drew (HEW.out.trans hE.out).drew 0 k (by omega) (by omega) (by omega)
      have hS2 := fun w' he => HSm.out w' he k N (by omega) (Nat.le_refl _) (by omega)
      rw [show ((0 : Nat) : Int) = 0 from rfl] at hS1
      have HS1 := Lib.hid hS1
      have HS2 := Lib.hid hS2
      have hFacts : ∀ w', Ext No wr w' → w'.heap[w.heap.size]? = _ ∧ w'.heap[w.heap.size + 1]? = _ ∧ w'.heap[w.heap.size + 1 + 1]? = _ ∧ w'.cell? ⟨rb, k, none⟩ = some (.string sk) := fun w' he => ⟨he.heapNo hbx, he.heapNo hra, he.heapNo hrb, he.cellSome hcs (fun f => f)⟩
      have HFacts := Lib.hid hFacts
      have hrbs : rb < w.heap.size := by
        obtain ⟨b', off', hb', hc'⟩ := HROW.out.cell (i := 0) (by rw [List.length_map, HN.out]; omega)
        cases hb'; exact World.block_lt_of_cell? w _ hc'
      have n1 : ¬ rb = w.heap.size + 1 := by omega
      have n2 : ¬ rb = w.heap.size + 1 + 1 := by omega
      have n3 : ¬ w.heap.size + 1 = rb := by omega
      have n4 : ¬ w.heap.size + 1 + 1 = rb := by omega
      have n5 : ¬ w.heap.size + 1 + 1 = w.heap.size := by omega
      have n6 : ¬ w.heap.size = w.heap.size + 1 + 1 := by omega
      have c0 : wr.cell? ⟨w.heap.size, 0, none⟩ = some (.bool true) := (cell_at hbx 0).trans rfl
      have c1 : wr.cell? ⟨w.heap.size, 1, none⟩ = some (.slice (some ⟨rb, 0, none⟩) N rc) := (cell_at hbx 1).trans rfl
      have c2 : wr.cell? ⟨w.heap.size, 2, none⟩ = some (.slice ka K kc) := (cell_at hbx 2).trans rfl
      have ua0 : wr.cell? ⟨w.heap.size + 1, 0, none⟩ = some (.bool false) := (cell_at hra 0).trans rfl
      have fa0 : wr.frozen? ⟨w.heap.size + 1, 0, none⟩ = false := (frozen_at hra 0).trans rfl
      have ua1 : wr.cell? ⟨w.heap.size + 1, 1, none⟩ = some (.slice none 0 0) := (cell_at hra 1).trans rfl
      have fa1 : wr.frozen? ⟨w.heap.size + 1, 1, none⟩ = false := (frozen_at hra 1).trans rfl
      have ua2 : wr.cell? ⟨w.heap.size + 1, 2, none⟩ = some (.slice none 0 0) := (cell_at hra 2).trans rfl
      have fa2 : wr.frozen? ⟨w.heap.size + 1, 2, none⟩ = false := (frozen_at hra 2).trans rfl
      have ub0 : wr.cell? ⟨w.heap.size + 1 + 1, 0, none⟩ = some (.bool false) := (cell_at hrb 0).trans rfl
      have fb0 : wr.frozen? ⟨w.heap.size + 1 + 1, 0, none⟩ = false := (frozen_at hrb 0).trans rfl
      have ub1 : wr.cell? ⟨w.heap.size + 1 + 1, 1, none⟩ = some (.slice none 0 0) := (cell_at hrb 1).trans rfl
      have fb1 : wr.frozen? ⟨w.heap.size + 1 + 1, 1, none⟩ = false := (frozen_at hrb 1).trans rfl
      have ub2 : wr.cell? ⟨w.heap.size + 1 + 1, 2, none⟩ = some (.slice none 0 0) := (cell_at hrb 2).trans rfl
      have fb2 : wr.frozen? ⟨w.heap.size + 1 + 1, 2, none⟩ = false := (frozen_at hrb 2).trans rfl
      have t1 : (0 : Int) ≤ (k : Int) := by omega
      have t2 : (k : Int) < (N : Int) := by omega
      have t3 : IntKind.i64.wrap (k : Int) = (k : Int) := IntWalk.i64_in _ (by omega)
      clear hi3 hbx hra hrb hrowr hS1 hS2 hFacts hsk b1
      go_wp2_with (fail)
      go_region_held3 (fun w' => w'.cell? ⟨w.heap.size, 0, none⟩ = some (.bool true) ∧ w'.cell? ⟨w.heap.size, 1, none⟩ = some (.slice (some ⟨rb, 0, none⟩) N rc) ∧ w'.cell? ⟨w.heap.size, 2, none⟩ = some (.slice ka K kc) ∧ w'.cell? ⟨rb, k, none⟩ = some (.string sk)) (first | go_keep) (first
        | (go_at_call_of 105 (Value.int IntKind.i64 0); refine HS1.out.mono ?_; rintro e w1 ⟨ra1, rc1, ka1, kc1, rfl, hn1, he1⟩; have e01 := (Ext.refl No wr).drew.trans he1; obtain ⟨hbx, hra, hrb, hcs⟩ := HFacts.out _ e01; have c0 : w1.cell? ⟨w.heap.size, 0, none⟩ = some (.bool true) := (cell_at hbx 0).trans rfl; have c1 : w1.cell? ⟨w.heap.size, 1, none⟩ = some (.slice (some ⟨rb, 0, none⟩) N rc) := (cell_at hbx 1).trans rfl; have c2 : w1.cell? ⟨w.heap.size, 2, none⟩ = some (.slice ka K kc) := (cell_at hbx 2).trans rfl; have ua0 : w1.cell? ⟨w.heap.size + 1, 0, none⟩ = some (.bool false) := (cell_at hra 0).trans rfl; have fa0 : w1.frozen? ⟨w.heap.size + 1, 0, none⟩ = false := (frozen_at hra 0).trans rfl; have ua1 : w1.cell? ⟨w.heap.size + 1, 1, none⟩ = some (.slice none 0 0) := (cell_at hra 1).trans rfl; have fa1 : w1.frozen? ⟨w.heap.size + 1, 1, none⟩ = false := (frozen_at hra 1).trans rfl; have ua2 : w1.cell? ⟨w.heap.size + 1, 2, none⟩ = some (.slice none 0 0) := (cell_at hra 2).trans rfl; have fa2 : w1.frozen? ⟨w.heap.size + 1, 2, none⟩ = false := (frozen_at hra 2).trans rfl; have ub0 : w1.cell? ⟨w.heap.size + 1 + 1, 0, none⟩ = some (.bool false) := (cell_at hrb 0).trans rfl; have fb0 : w1.frozen? ⟨w.heap.size + 1 + 1, 0, none⟩ = false := (frozen_at hrb 0).trans rfl; have ub1 : w1.cell? ⟨w.heap.size + 1 + 1, 1, none⟩ = some (.slice none 0 0) := (cell_at hrb 1).trans rfl; have fb1 : w1.frozen? ⟨w.heap.size + 1 + 1, 1, none⟩ = false := (frozen_at hrb 1).trans rfl; have ub2 : w1.cell? ⟨w.heap.size + 1 + 1, 2, none⟩ = some (.slice none 0 0) := (cell_at hrb 2).trans rfl; have fb2 : w1.frozen? ⟨w.heap.size + 1 + 1, 2, none⟩ = false := (frozen_at hrb 2).trans rfl; have HN1 := Lib.hid hn1; have HE01 := Lib.hid e01; clear hn1 he1 e01 hbx hra hrb; unfold nodeVal)
        | (go_at_call 105; refine (HS2.out w1 ((HEW.out.trans hE.out).trans HE01.out)).mono ?_; rintro e w2 ⟨ra2, rc2, ka2, kc2, rfl, hn2, he2⟩; have e02 := HE01.out.trans he2; obtain ⟨hbx, hra, hrb, hcs⟩ := HFacts.out _ e02; have c0 : w2.cell? ⟨w.heap.size, 0, none⟩ = some (.bool true) := (cell_at hbx 0).trans rfl; have c1 : w2.cell? ⟨w.heap.size, 1, none⟩ = some (.slice (some ⟨rb, 0, none⟩) N rc) := (cell_at hbx 1).trans rfl; have c2 : w2.cell? ⟨w.heap.size, 2, none⟩ = some (.slice ka K kc) := (cell_at hbx 2).trans rfl; have ua0 : w2.cell? ⟨w.heap.size + 1, 0, none⟩ = some (.bool false) := (cell_at hra 0).trans rfl; have fa0 : w2.frozen? ⟨w.heap.size + 1, 0, none⟩ = false := (frozen_at hra 0).trans rfl; have ua1 : w2.cell? ⟨w.heap.size + 1, 1, none⟩ = some (.slice none 0 0) := (cell_at hra 1).trans rfl; have fa1 : w2.frozen? ⟨w.heap.size + 1, 1, none⟩ = false := (frozen_at hra 1).trans rfl; have ua2 : w2.cell? ⟨w.heap.size + 1, 2, none⟩ = some (.slice none 0 0) := (cell_at hra 2).trans rfl; have fa2 : w2.frozen? ⟨w.heap.size + 1, 2, none⟩ = false := (frozen_at hra 2).trans rfl; have ub0 : w2.cell? ⟨w.heap.size + 1 + 1, 0, none⟩ = some (.bool false) := (cell_at hrb 0).trans rfl; have fb0 : w2.frozen? ⟨w.heap.size + 1 + 1, 0, none⟩ = false := (frozen_at hrb 0).trans rfl; have ub1 : w2.cell? ⟨w.heap.size + 1 + 1, 1, none⟩ = some (.slice none 0 0) := (cell_at hrb 1).trans rfl; have fb1 : w2.frozen? ⟨w.heap.size + 1 + 1, 1, none⟩ = false := (frozen_at hrb 1).trans rfl; have ub2 : w2.cell? ⟨w.heap.size + 1 + 1, 2, none⟩ = some (.slice none 0 0) := (cell_at hrb 2).trans rfl; have fb2 : w2.frozen? ⟨w.heap.size + 1 + 1, 2, none⟩ = false := (frozen_at hrb 2).trans rfl; have HN2 := Lib.hid hn2; have HE02 := Lib.hid e02; have HE12 := Lib.hid he2; have HRA2 := Lib.hid hra; have HRB2 := Lib.hid hrb; clear hn2 he2 e02 hbx hra hrb; unfold nodeVal))
      obtain ⟨W6, hW6⟩ : ∃ W6, W6 = (((((w2.setCell ⟨w.heap.size + 1, 0, none⟩ (Value.bool (part n 0 k).leaf)).setCell ⟨w.heap.size + 1, 1, none⟩ (Value.slice ra1 (part n 0 k).recs.length rc1)).setCell ⟨w.heap.size + 1, 2, none⟩ (Value.slice ka1 (part n 0 k).kids.length kc1)).setCell ⟨w.heap.size + 1 + 1, 0, none⟩ (Value.bool (part n k N).leaf)).setCell ⟨w.heap.size + 1 + 1, 1, none⟩ (Value.slice ra2 (part n k N).recs.length rc2)).setCell ⟨w.heap.size + 1 + 1, 2, none⟩ (Value.slice ka2 (part n k N).kids.length kc2) := ⟨_, rfl⟩
      have e26 : Ext (fun x => x = w.heap.size + 1 ∨ x = w.heap.size + 1 + 1) w2 W6 := by
        rw [hW6]
        exact ((((((Ext.refl _ w2).setCell (.inl (.inl rfl)) _).setCell (.inl (.inl rfl)) _).setCell (.inl (.inl rfl)) _).setCell (.inl (.inr rfl)) _).setCell (.inl (.inr rfl)) _).setCell (.inl (.inr rfl)) _
      have hFIN : SplitPost n w (.returned (.tuple #[nodeVal (part n 0 k) ra1 rc1 ka1 kc1, .string sk, nodeVal (part n k N) ra2 rc2 ka2 kc2])) W6 := by
        have hws : W0.heap.size ≤ wr.heap.size := hE.out.size
        have hz := HSZ.out
        have hs1 : wr.heap.size ≤ w1.heap.size := HE01.out.size
        refine ⟨k, ra1, rc1, ka1, kc1, ra2, rc2, ka2, kc2, HBest.out, ?_, ?_, ?_, (HEW.out.trans (hE.out.trans HE02.out)).trans' e26 fun x hx f => by omega⟩
        · rw [HSKK.out, HSK.out, HN.out, Nat.add_zero]
        · refine (HN1.out.on HE12.out (fun x f => f.elim) (Nat.le_refl _)).on e26 (fun x f => ?_) ?_
          · show x < wr.heap.size; omega
          · show _ ≤ wr.heap.size; omega
        · rw [HSK.out, HN.out, Nat.add_zero]
          refine HN2.out.on e26 (fun x f => ?_) ?_ <;> omega
      have HFIN := Lib.hid hFIN
      clear hFIN e26
      subst hW6
      unfold nodeVal at HFIN
      go_wp2_with (fail)
      refine bodyPost_ret (v := .tuple #[.agg #[.bool (part n 0 k).leaf, .slice ra1 (part n 0 k).recs.length rc1, .slice ka1 (part n 0 k).kids.length kc1], .string sk, .agg #[.bool (part n k N).leaf, .slice ra2 (part n k N).recs.length rc2, .slice ka2 (part n k N).kids.length kc2]]) (by simp [results, Tryz.results74, go_sem, *]) rfl ?_
      exact HFIN.out
end Go.Proofs.YtanglcdiebkmiaaGreat
