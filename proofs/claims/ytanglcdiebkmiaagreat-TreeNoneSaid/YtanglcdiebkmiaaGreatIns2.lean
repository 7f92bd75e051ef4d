import Derived.Test.YtanglcdiebkmiaaGreatIns1
set_option linter.unusedSimpArgs false
set_option linter.unusedVariables false
namespace Go.Proofs.YtanglcdiebkmiaaGreat
open Go.RowKit Tw

set_option maxRecDepth 10000 in
set_option maxHeartbeats 4000000 in
theorem insert_ok {T A root hh kk : Nat} {s : Str} (h : Nat) : ∀ {id : Nat} {st : St} {F : Nat → Prop} {Q : Str → Nat → St → Prop} (w : World) (hT : TreeAt w T A root hh kk) (hA : Arena w A st F) (hTF : ¬ F T) (hw : InsW s h st id Q),
    Calls Tryz.prog 50 #[.pointer (some ⟨T, 0, none⟩), .int .i64 id, .string s] w (InsPost A F Q w) := by
  induction h with
  | zero => intro id st F Q w hT hA hTF hw; exact insert_leaf w hT hA hTF hw
  | succ h ih =>
  intro id st F Q w hT hA hTF hw
  obtain ⟨n, hn, hl, hrec⟩ := hw
  have hr : n.Right := hA.wf.ok _ _ (St.node_some hn)
  have hL := tload_ok w hT hA hn
  have HL := Lib.hid hL
  have HT := Lib.hid hT
  have HA := Lib.hid hA
  have HLF := Lib.hid hl
  have HR := Lib.hid hr
  have HREC := Lib.hid hrec
  have HTF := Lib.hid hTF
  have HN := Lib.hid hn
  clear hL hT hA hl hr hrec hTF hn
  go_enter Tryz.func50, Tryz.ntmps50
  go_wp2_with (fail)
  refine HL.out.mono ?_
  rintro e w1 ⟨ra, rc, ka, kc, rfl, hrows, he1⟩
  unfold nodeVal
  rw [HLF.out]
  obtain ⟨W2, hW2⟩ : ∃ W2, W2 = w1.alloc (.cells #[.bool false, .slice ra n.recs.length rc, .slice ka n.kids.length kc] 79) := ⟨_, rfl⟩
  obtain ⟨NB, hNB⟩ : ∃ NB, NB = w1.heap.size := ⟨_, rfl⟩
  have hM : W2.heap[NB]? = some (.cells #[.bool false, .slice ra n.recs.length rc, .slice ka n.kids.length kc] 79 (0, 0)) := by rw [hW2, hNB]; exact heap_alloc_new _ _
  have e12 : Ext No w1 W2 := by rw [hW2]; exact (Ext.refl No w1).alloc _
  have hr2 := hrows.on e12 (fun x f => f.elim) (Nat.le_refl _)
  have hK := Kid_ok (rc := rc) (kc := kc) (s := s) W2 hr2.nodeIn HR.out.shaped.up (by have := length_le_weigh n.recs; have := HR.out.fits; have : n.size = 3 + 4 * n.kids.length + weigh n.recs := rfl; omega)
  unfold nodeVal at hK
  rw [HLF.out] at hK
  have hNw : w.heap.size ≤ NB := by rw [hNB]; exact he1.size
  have m0 : W2.cell? ⟨NB, 0, none⟩ = some (.bool false) := (cell_at hM 0).trans rfl
  have m1 : W2.cell? ⟨NB, 1, none⟩ = some (.slice ra n.recs.length rc) := (cell_at hM 1).trans rfl
  have m2 : W2.cell? ⟨NB, 2, none⟩ = some (.slice ka n.kids.length kc) := (cell_at hM 2).trans rfl
  have HK := Lib.hid hK
  have HM := Lib.hid hM
  have HR2 := Lib.hid hr2
  have HE2 := Lib.hid (he1.trans e12)
  have HNW := Lib.hid hNw
  have HW2 := Lib.hid hW2
  have HNB := Lib.hid hNB
  clear hK hM hr2 e12 hrows he1 hNw hW2 hNB
  go_upto_region 2 with (fail)
  rw [← HW2.out, ← HNB.out]
  go_wp2_with (fail)
  refine HK.out.mono ?_
  rintro e w3 ⟨rfl, he3⟩
  have hM3 := he3.heapNo HM.out
  have hr3 := HR2.out.on he3 (fun x f => f.elim) (Nat.le_refl _)
  have e3 := HE2.out.trans he3
  have m0 : w3.cell? ⟨NB, 0, none⟩ = some (.bool false) := (cell_at hM3 0).trans rfl
  have m1 : w3.cell? ⟨NB, 1, none⟩ = some (.slice ra n.recs.length rc) := (cell_at hM3 1).trans rfl
  have hlt3 := lt_of_heap hM3
  have m2 : w3.cell? ⟨NB, 2, none⟩ = some (.slice ka n.kids.length kc) := (cell_at hM3 2).trans rfl
  have hkl : kidIx n.recs s ≤ n.recs.length := kidIx_le _ _
  have hik : n.kids.length = n.recs.length + 1 := HR.out.shaped.ik HLF.out
  obtain ⟨kb, hkb, _, _, _, hkc, _⟩ := ownsRow_open hr3.2 (by omega)
  have hkcell : w3.cell? ⟨kb, kidIx n.recs s, none⟩ = some (.int .i64 (n.kids.getD (kidIx n.recs s) 0)) := by
    rw [hkc _ (by rw [List.length_map]; omega), List.getElem_map, List.getD_eq_getElem?_getD, List.getElem?_eq_getElem (by omega)]; rfl
  have hrl : n.recs.length ≤ 100000 := by have := length_le_weigh n.recs; have := HR.out.fits; have : n.size = 3 + 4 * n.kids.length + weigh n.recs := rfl; omega
  have hA3 := HA.out.extNo e3
  have hT3 := TreeAt.ext HT.out e3 (fun f => f)
  have hRec := ih (id := n.kids.getD (kidIx n.recs s) 0) w3 hT3 hA3 HTF.out HREC.out
  have t1 : ((kidIx n.recs s : Nat) : Int) < (n.kids.length : Int) := by omega
  have t2 : (0 : Int) ≤ ((kidIx n.recs s : Nat) : Int) := by omega
  have t3 : IntKind.i64.wrap (((kidIx n.recs s : Nat) : Int) + 1) = ((kidIx n.recs s : Nat) : Int) + 1 := IntWalk.i64_in _ (by omega)
  rw [hkb] at m2 hr3 ⊢
  rw [hkb] at hM3
  have HIK := Lib.hid hik
  have HKL := Lib.hid hkl
  have HRL := Lib.hid hrl
  have HRC := Lib.hid hRec
  have HM3 := Lib.hid hM3
  have HR3 := Lib.hid hr3
  have HE3 := Lib.hid e3
  clear he3 hM3 hr3 e3 hik hkl hrl hRec hA3 hT3 hkc
  generalize hkid : n.kids.getD (kidIx n.recs s) 0 = kid at *
  clear hkid
  generalize hat : kidIx n.recs s = at_ at *
  have HAT_ := Lib.hid hat
  clear hat
  go_wp2_with (fail)
  refine HRC.out.mono ?_
  rintro e w4 ⟨sep, right, st1, rfl, hq, F4, hA4, hX4, hG4⟩
  by_cases hr0 : right = 0
  · subst hr0
    rw [if_pos rfl] at hq
    have HFIN := Lib.hid (show InsPost A F Q w (.returned (.tuple #[.string ⟨#[]⟩, .int .i64 0])) w4 from ⟨⟨#[]⟩, 0, st1, rfl, hq, Turns.before HE3.out ⟨F4, hA4, hX4, hG4⟩⟩)
    clear hq hA4 hX4 hG4
    go_wp2_with (fail)
    go_ret2
    exact HFIN.out
  · rw [if_neg hr0] at hq
    have hr1 : ¬ ((right : Int) = 0) := by omega
    have hFlt := HA.out.lt
    have hNBF : ¬ F NB := fun f => by have := hFlt _ f; have := HNW.out; omega
    have hM4 := hX4.heap HM3.out hNBF
    have hr4 : NodeRows n w.heap.size w4 ra rc (some ⟨kb, 0, none⟩) kc := HR3.out.on hX4 (fun x f => hFlt x f) (Nat.le_refl _)
    have hX4w : Ext F w w4 := HE3.out.noTrans hX4
    have hG4w : Grow F F4 w := fun q hq => (hG4 q hq).elim Or.inl fun g => Or.inr (by have := HE3.out.size; omega)
    have hws3 := HE3.out.size
    have hNB4 : ¬ F4 NB := Grow.not hG4 hNBF (lt_of_heap HM3.out)
    have hra4 : ∀ q, Blk ra q → ¬ F4 q := fun q hq => Grow.not hG4 (fun f => by have := hFlt _ f; have := (HR3.out.blkR hq).1; omega) (HR3.out.blkR hq).2
    have hka4 : ∀ q, Blk (some ⟨kb, 0, none⟩) q → ¬ F4 q := fun q hq => Grow.not hG4 (fun f => by have := hFlt _ f; have := (HR3.out.blkK hq).1; omega) (HR3.out.blkK hq).2
    have m1 : w4.cell? ⟨NB, 1, none⟩ = some (.slice ra n.recs.length rc) := (cell_at hM4 1).trans rfl
    have hlt4 := lt_of_heap hM4
    have k1 : ∀ O, (w4.alloc O).cell? ⟨NB, 1, none⟩ = some (.slice ra n.recs.length rc) := fun O => ((Ext.refl No w4).alloc O).cellSome m1 (fun f => f)
    have HQ := Lib.hid hq
    have HA4 := Lib.hid hA4
    have HX4 := Lib.hid hX4w
    have HG4 := Lib.hid hG4w
    have HM4 := Lib.hid hM4
    have HR4 := Lib.hid hr4
    have HNB4 := Lib.hid hNB4
    have HRA4 := Lib.hid hra4
    have HKA4 := Lib.hid hka4
    have HT4 := Lib.hid (TreeAt.ext HT.out hX4w HTF.out)
    have HTF4 := Lib.hid (Grow.not hG4w HTF.out (lt_of_heap HT.out))
    clear hq hA4 hX4 hG4 hX4w hG4w hM4 hr4 hNB4 hra4 hka4 hNBF hFlt hws3
    go_wp2_with (fail)
    obtain ⟨W5, hW5⟩ : ∃ W5, W5 = w4.alloc (.cells #[.string sep] 9) := ⟨_, rfl⟩
    rw [← hW5]
    have e45 : Ext No w4 W5 := by rw [hW5]; exact (Ext.refl No w4).alloc _
    have hv5 : W5.heap[w4.heap.size]? = some (.cells #[.string sep] 9 (0, 0)) := by rw [hW5]; exact heap_alloc_new _ _
    have hr5 := HR4.out.on e45 (fun x f => f.elim) (Nat.le_refl _)
    have hwN : w.heap.size ≤ W5.heap.size := (HX4.out.transNo e45).size
    have hI := InsS_ok (x := .string sep) W5 hr5.1 (fun u hu => str_one u hu) rfl hv5 (fun q hq e => by have := (HR4.out.blkR hq).2; omega) HKL.out (by have := HRL.out; omega) hwN
    have hpa : putAt (n.recs.map .string) at_ (.string sep) = (ins n.recs at_ sep).map .string := by rw [ins_map]; rfl
    rw [hpa] at hI
    refine hI.mono ?_
    rintro e w6 ⟨ra', rc', rfl, hown6, hbk6, he6⟩
    have hM5 := e45.heapNo HM4.out
    have hNBr : ¬ Blk ra NB := owns_not_block HR4.out.1 HM4.out (by decide)
    have hM6 := he6.heap hM5 hNBr
    have hk6 : w6.ownsRow w.heap.size 3 1 (.slice (some ⟨kb, 0, none⟩) n.kids.length kc) n.kids.length (n.kids.map i64) := ownsRow_ext hr5.2 he6 fun q hq f => owns_ne2 hr5.1 hr5.2 (by decide) (blk_own.1 f) hq
    have hln : ((ins n.recs at_ sep).map Value.string).length = (ins n.recs at_ sep).length := List.length_map ..
    rw [hln] at hown6 ⊢
    have x46 : Ext (fun x => ¬ F4 x) w4 w6 := e45.ofNo.trans (he6.mono fun q f => HRA4.out q f)
    have hx6 : Ext F w w6 := (HX4.out.transNo e45).trans' he6 fun x hx f => by have := (HR4.out.blkR f).1; omega
    have hra6 : ∀ q, Blk ra' q → ¬ F4 q := fun q hq => (hbk6 q hq).elim (HRA4.out q) fun g f => by have := HA4.out.lt _ f; have := e45.size; omega
    have m1 : w6.cell? ⟨NB, 1, none⟩ = some (.slice ra n.recs.length rc) := (cell_at hM6 1).trans rfl
    have f1 := frozen_at hM6 1
    have HO6 := Lib.hid hown6
    have HK6 := Lib.hid hk6
    have HM6 := Lib.hid hM6
    have HX46 := Lib.hid x46
    have HX6 := Lib.hid hx6
    have HRA6 := Lib.hid hra6
    have HS46 := Lib.hid x46.size
    clear hI hpa hwN hr5 hv5 e45 hW5 hM5 hNBr hM6 hk6 hln hown6 hbk6 he6 k1 hlt4 x46 hx6 hra6
    go_upto_region 9 with (fail)
    obtain ⟨w7, hw7⟩ : ∃ w7, w7 = w6.setCell ⟨NB, 1, none⟩ (.slice ra' (ins n.recs at_ sep).length rc') := ⟨_, rfl⟩
    rw [← hw7]
    have e67 : Ext (Only NB) w6 w7 := hw7 ▸ (Ext.refl (Only NB) w6).setCell (p := ⟨NB, 1, none⟩) (.inl rfl) _
    have hM7 : w7.heap[NB]? = some (.cells #[.bool false, .slice ra' (ins n.recs at_ sep).length rc', .slice (some ⟨kb, 0, none⟩) n.kids.length kc] 79 (0, 0)) := by
      rw [hw7]; exact (heap_setCell_at HM6.out 1 _).trans rfl
    have hO7 := ownsRow_ext HO6.out e67 fun q hq f => owns_not_block HO6.out HM6.out (by decide) (blk_own.2 (f ▸ hq))
    have hK7 := ownsRow_ext HK6.out e67 fun q hq f => owns_not_block HK6.out HM6.out (by decide) (blk_own.2 (f ▸ hq))
    have x47 : Ext (fun x => ¬ F4 x) w4 w7 := HX46.out.trans (e67.mono fun q f => f ▸ HNB4.out)
    have hx7 : Ext F w w7 := HX6.out.trans' e67 fun x hx f => by have g : x = NB := f; have := HNW.out; omega
    have m2 : w7.cell? ⟨NB, 2, none⟩ = some (.slice (some ⟨kb, 0, none⟩) n.kids.length kc) := (cell_at hM7 2).trans rfl
    have hlt7 := lt_of_heap hM7
    have k2 : ∀ O, (w7.alloc O).cell? ⟨NB, 2, none⟩ = some (.slice (some ⟨kb, 0, none⟩) n.kids.length kc) := fun O => ((Ext.refl No w7).alloc O).cellSome m2 (fun f => f)
    have HM7 := Lib.hid hM7
    have HO7 := Lib.hid hO7
    have HK7 := Lib.hid hK7
    have HX47 := Lib.hid x47
    have HX7 := Lib.hid hx7
    clear hw7 e67 hM7 hO7 hK7 x47 hx7 m1 f1
    go_wp2_with (fail)
    obtain ⟨W8, hW8⟩ : ∃ W8, W8 = w7.alloc (.cells #[.int .i64 right] 3) := ⟨_, rfl⟩
    rw [← hW8]
    have e78 : Ext No w7 W8 := by rw [hW8]; exact (Ext.refl No w7).alloc _
    have hv8 : W8.heap[w7.heap.size]? = some (.cells #[i64 right] 3 (0, 0)) := by rw [hW8]; exact heap_alloc_new _ _
    have hK8 := ownsRow_ext HK7.out e78 fun _ _ f => f
    have hO8 := ownsRow_ext HO7.out e78 fun _ _ f => f
    have hwN : w.heap.size ≤ W8.heap.size := (HX7.out.transNo e78).size
    have hik := HIK.out
    have hkl := HKL.out
    have hrl := HRL.out
    have hI := InsI_ok (i := at_ + 1) (x := i64 right) W8 hK8 (fun u hu => by obtain ⟨q, _, rfl⟩ := List.mem_map.1 hu; rfl) rfl hv8 (fun q hq e => by have := (HK7.out.lt _ (blk_own.1 hq)).2; omega) (by omega) (by omega) hwN
    have hpa : putAt (n.kids.map i64) (at_ + 1) (i64 right) = (ins n.kids (at_ + 1) right).map i64 := by rw [ins_map]; rfl
    rw [hpa, show ((at_ + 1 : Nat) : Int) = (at_ : Int) + 1 by omega] at hI
    refine hI.mono ?_
    rintro e w9 ⟨ka', kc', rfl, hown9, hbk9, he9⟩
    have hM8 := e78.heapNo HM7.out
    have hNBk : ¬ Blk (some ⟨kb, 0, none⟩) NB := owns_not_block HK7.out HM7.out (by decide)
    have hM9 := he9.heap hM8 hNBk
    have hO9 := ownsRow_ext hO8 he9 fun q hq f => owns_ne2 hK8 hO8 (by decide) (blk_own.1 f) hq
    have hln : ((ins n.kids (at_ + 1) right).map i64).length = (ins n.kids (at_ + 1) right).length := List.length_map ..
    rw [hln] at hown9 ⊢
    have x49 : Ext (fun x => ¬ F4 x) w4 w9 := (HX47.out.transNo e78).trans (he9.mono fun q f => HKA4.out q f)
    have hx9 : Ext F w w9 := (HX7.out.transNo e78).trans' he9 fun x hx f => by have := (HK7.out.lt _ (blk_own.1 f)).1; omega
    have hka9 : ∀ q, Blk ka' q → ¬ F4 q := fun q hq => (hbk9 q hq).elim (HKA4.out q) fun g f => by have := HA4.out.lt _ f; have := HX47.out.size; have := e78.size; omega
    have m2 : w9.cell? ⟨NB, 2, none⟩ = some (.slice (some ⟨kb, 0, none⟩) n.kids.length kc) := (cell_at hM9 2).trans rfl
    have f2 := frozen_at hM9 2
    obtain ⟨m, hmd⟩ : ∃ m, m = Nd.mk false (ins n.recs at_ sep) (ins n.kids (at_ + 1) right) := ⟨_, rfl⟩
    have hm1 : ins n.recs at_ sep = m.recs := by rw [hmd]
    have hm2 : ins n.kids (at_ + 1) right = m.kids := by rw [hmd]
    have hml : false = m.leaf := by rw [hmd]
    have hFi := HQ.out
    rw [← hmd] at hFi
    rw [hm2] at hown9 ⊢
    rw [hm1] at hO9 hM9 ⊢
    have HO9 := Lib.hid hO9
    have HK9 := Lib.hid hown9
    have HM9 := Lib.hid hM9
    have HX49 := Lib.hid x49
    have HX9 := Lib.hid hx9
    have HFI := Lib.hid hFi
    have HML := Lib.hid hml
    have HKA9 := Lib.hid hka9
    clear hI hpa hwN hik hkl hrl hK8 hO8 hv8 e78 hW8 hM8 hNBk hM9 hO9 hln hown9 hbk9 he9 k2 hlt7 x49 hx9 hka9 hmd hm1 hm2 hml hFi
    go_upto_region 10 with (fail)
    obtain ⟨wt, hwt⟩ : ∃ wt, wt = w9.setCell ⟨NB, 2, none⟩ (.slice ka' m.kids.length kc') := ⟨_, rfl⟩
    rw [← hwt]
    have e9t : Ext (Only NB) w9 wt := hwt ▸ (Ext.refl (Only NB) w9).setCell (p := ⟨NB, 2, none⟩) (.inl rfl) _
    have hM : wt.heap[NB]? = some (.cells #[.bool m.leaf, .slice ra' m.recs.length rc', .slice ka' m.kids.length kc'] 79 (0, 0)) := by
      rw [hwt, ← HML.out]; exact (heap_setCell_at HM9.out 2 _).trans rfl
    have hRm : NodeRows m w.heap.size wt ra' rc' ka' kc' := ⟨ownsRow_ext HO9.out e9t fun q hq f => owns_not_block HO9.out HM9.out (by decide) (blk_own.2 (f ▸ hq)), ownsRow_ext HK9.out e9t fun q hq f => owns_not_block HK9.out HM9.out (by decide) (blk_own.2 (f ▸ hq))⟩
    have x4t : Ext (fun x => ¬ F4 x) w4 wt := HX49.out.trans (e9t.mono fun q f => f ▸ HNB4.out)
    have hXt : Ext F w wt := HX9.out.trans' e9t fun x hx f => by have g : x = NB := f; have := HNW.out; omega
    have hSh : m.Shaped := HFI.out.1
    have hSz : m.size ≤ 100000 := HFI.out.2.1
    have hFi := HFI.out
    have hAt := HA4.out.ext x4t (fun q f g => g f)
    have hTt := TreeAt.ext HT.out hXt HTF.out
    have hGt := HG4.out
    have hFt := HTF4.out
    have hNf := HNB4.out
    have hRf := HRA6.out
    have hKf := HKA9.out
    have hId := hFi.2.2.1
    clear x4t e9t hwt m2 f2 m0 HL HK HM HR2 HE2 HW2 HM3 HR3 HE3 HM4 HR4 HO6 HK6 HM6 HO7 HK7 HM7 HO9 HK9 HM9 HRC HREC

    -- from here on: the node m in block NB of the world wt
    have HM := Lib.hid hM
    have HRT := Lib.hid (fun w' (he : Ext No wt w') => Right_ok (rc := rc') (kc := kc') w' (hRm.nodeIn.extNo (w' := w') he) hSh (by omega))
    have HSP := Lib.hid (fun w' (he : Ext No wt w') h2 => Split_ok w' (NodeRows.on (base' := w.heap.size) hRm he (fun x f => f.elim) (Nat.le_refl _)) hSh h2 hSz)
    have HRM := Lib.hid hRm
    have HFI := Lib.hid hFi
    have HAT := Lib.hid hAt
    have HTT := Lib.hid hTt
    have HXT := Lib.hid hXt
    have HGT := Lib.hid hGt
    have HFT := Lib.hid hFt
    have HNF := Lib.hid hNf
    have HRF := Lib.hid hRf
    have HKF := Lib.hid hKf
    have HID := Lib.hid hId
    have m0 : wt.cell? ⟨NB, 0, none⟩ = some (.bool m.leaf) := (cell_at hM 0).trans rfl
    have m1 : wt.cell? ⟨NB, 1, none⟩ = some (.slice ra' m.recs.length rc') := (cell_at hM 1).trans rfl
    have m2 : wt.cell? ⟨NB, 2, none⟩ = some (.slice ka' m.kids.length kc') := (cell_at hM 2).trans rfl
    clear hM hRm hSh hSz hFi hAt hTt hXt hGt hFt hNf hRf hKf hId
    unfold nodeVal at HRT HSP
    go_wp2_with (fail)
    refine (HRT.out _ (Ext.refl No _)).mono ?_
    rintro e w6 ⟨rfl, he6⟩
    have hM6 := he6.heapNo HM.out
    have m0 : w6.cell? ⟨NB, 0, none⟩ = some (.bool m.leaf) := (cell_at hM6 0).trans rfl
    have m1 : w6.cell? ⟨NB, 1, none⟩ = some (.slice ra' m.recs.length rc') := (cell_at hM6 1).trans rfl
    have m2 : w6.cell? ⟨NB, 2, none⟩ = some (.slice ka' m.kids.length kc') := (cell_at hM6 2).trans rfl
    have HE6 := Lib.hid he6
    clear he6 hM6
    by_cases hz : m.size ≤ 1024
    · rw [decide_eq_true hz]
      have hS := tstore_ok (n := m) (id := id) w6 (HTT.out.ext HE6.out (fun f => f)) (HAT.out.extNo HE6.out) (Option.get_mem HID.out) (HRM.out.nodeIn.extNo HE6.out) ⟨HFI.out.1, hz⟩ (rc := rc') (kc := kc')
      unfold nodeVal at hS
      have HS := Lib.hid hS
      have HZ := Lib.hid hz
      clear hS hz
      go_wp2_with (fail)
      refine HS.out.mono ?_
      rintro e w7 ⟨rfl, ht⟩
      have HFIN := Lib.hid (show InsPost A F Q w (.returned (.tuple #[.string ⟨#[]⟩, .int .i64 0])) w7 from ⟨⟨#[]⟩, 0, _, rfl, HFI.out.2.2.2.1 HZ.out, Turns.trans HXT.out HGT.out (Turns.before HE6.out ht)⟩)
      clear ht
      go_wp2_with (fail)
      go_ret2
      exact HFIN.out
    · rw [decide_eq_false hz]
      obtain ⟨hl2, hB⟩ := HFI.out.2.2.2.2 hz
      have HB := Lib.hid hB
      have hSp := HSP.out w6 HE6.out hl2
      have HS := Lib.hid hSp
      clear hSp hl2 hB hz
      go_wp2_with (fail)
      refine HS.out.mono ?_
      rintro e w7 ⟨k, ra1, rc1, ka1, kc1, ra2, rc2, ka2, kc2, hbest, rfl, hR1, hR2, he7⟩
      obtain ⟨hr1, hr2, hleft, hQ⟩ := HB.out k hbest
      unfold nodeVal
      obtain ⟨m1', hm1⟩ : ∃ x, x = part m 0 k := ⟨_, rfl⟩
      obtain ⟨m2', hm2⟩ : ∃ x, x = part m (k + skipOf m) m.recs.length := ⟨_, rfl⟩
      rw [← hm1] at hR1 hr1 hleft hQ ⊢
      rw [← hm2] at hR2 hr2 hQ ⊢
      obtain ⟨W8, hW8⟩ : ∃ W8, W8 = (w7.alloc (.cells #[.bool m1'.leaf, .slice ra1 m1'.recs.length rc1, .slice ka1 m1'.kids.length kc1] 79)).alloc (.cells #[.bool m2'.leaf, .slice ra2 m2'.recs.length rc2, .slice ka2 m2'.kids.length kc2] 79) := ⟨_, rfl⟩
      have e78 : Ext No w7 W8 := by rw [hW8]; exact ((Ext.refl No w7).alloc _).alloc _
      have hb1 : W8.heap[w7.heap.size]? = some (.cells #[.bool m1'.leaf, .slice ra1 m1'.recs.length rc1, .slice ka1 m1'.kids.length kc1] 79 (0, 0)) := by
        rw [hW8, heap_alloc_lt (by simp)]; exact heap_alloc_new _ _
      have hb2 : W8.heap[w7.heap.size + 1]? = some (.cells #[.bool m2'.leaf, .slice ra2 m2'.recs.length rc2, .slice ka2 m2'.kids.length kc2] 79 (0, 0)) := by
        rw [hW8]
        have := heap_alloc_new (w7.alloc (.cells #[.bool m1'.leaf, .slice ra1 m1'.recs.length rc1, .slice ka1 m1'.kids.length kc1] 79)) (.cells #[.bool m2'.leaf, .slice ra2 m2'.recs.length rc2, .slice ka2 m2'.kids.length kc2] 79)
        simpa using this
      have et8 := (HE6.out.trans he7).trans e78
      have hFlt := HAT.out.lt
      have hsz : wt.heap.size ≤ w7.heap.size := (HE6.out.trans he7).size
      have hsz6 : wt.heap.size ≤ w6.heap.size := HE6.out.size
      have hT8 := HTT.out.ext et8 (fun f => f)
      have hA8 := HAT.out.extNo et8
      have hR1' := hR1.on e78 (fun x f => f.elim) (Nat.le_refl _)
      have hR2' := hR2.on e78 (fun x f => f.elim) (Nat.le_refl _)
      have hS8 := tstore_ok (n := m1') (id := id) W8 hT8 hA8 (Option.get_mem HID.out) hR1'.nodeIn hr1 (rc := rc1) (kc := kc1)
      have hnr : ∀ kk, Blk ra2 kk → ¬ F4 kk := fun kk hk f => by have := (hR2'.blkR hk).1; have := hFlt kk f; omega
      have hnk : ∀ kk, Blk ka2 kk → ¬ F4 kk := fun kk hk f => by have := (hR2'.blkK hk).1; have := hFlt kk f; omega
      have hAl := fun w9 F9 hT9 hA9 hF9 hn9 h1 h2 => talloc_ok (rc := rc2) (kc := kc2) (n := m2') (T := T) (A := A) (root := root) (h := hh) (k := kk) (F := F9) (ra := ra2) (ka := ka2) w9 hT9 hA9 hF9 hleft hn9 hr2 h1 h2
      unfold nodeVal at hS8 hAl
      have h10 : W8.cell? ⟨w7.heap.size, 0, none⟩ = some (.bool m1'.leaf) := (cell_at hb1 0).trans rfl
      have h11 : W8.cell? ⟨w7.heap.size, 1, none⟩ = some (.slice ra1 m1'.recs.length rc1) := (cell_at hb1 1).trans rfl
      have h12 : W8.cell? ⟨w7.heap.size, 2, none⟩ = some (.slice ka1 m1'.kids.length kc1) := (cell_at hb1 2).trans rfl
      have HS8 := Lib.hid hS8
      have HAL := Lib.hid hAl
      have HNR := Lib.hid hnr
      have HNK := Lib.hid hnk
      have HQ := Lib.hid hQ
      have HB2 := Lib.hid hb2
      have HT8 := Lib.hid hT8
      have HE8 := Lib.hid et8
      have HFLT := Lib.hid hFlt
      have HSZ := Lib.hid hsz
      have HR2 := Lib.hid hR2'.nodeIn
      have HL8 := Lib.hid (lt_of_heap hb2)
      have HBR := Lib.hid (fun q (hq : Blk ra2 q) => (hR2'.blkR hq).2)
      have HBK := Lib.hid (fun q (hq : Blk ka2 q) => (hR2'.blkK hq).2)
      have HW8 := Lib.hid hW8
      clear hS8 hAl hnr hnk hQ hb1 hb2 hT8 hA8 et8 hFlt hsz hsz6 hR1' hR2' hR1 hR2 hr1 hr2 hleft he7 hbest e78 hm1 hm2 hW8
      go_upto_region 14 with (fail)
      rw [← HW8.out]
      go_wp2_with (fail)
      refine HS8.out.mono ?_
      rintro e w9 ⟨rfl, F9, hA9, hX9, hG9⟩
      have hb2 := hX9.heap HB2.out (fun f => by have := HFLT.out _ f; have := HSZ.out; omega)
      have h20 : w9.cell? ⟨w7.heap.size + 1, 0, none⟩ = some (.bool m2'.leaf) := (cell_at hb2 0).trans rfl
      have h21 : w9.cell? ⟨w7.heap.size + 1, 1, none⟩ = some (.slice ra2 m2'.recs.length rc2) := (cell_at hb2 1).trans rfl
      have h22 : w9.cell? ⟨w7.heap.size + 1, 2, none⟩ = some (.slice ka2 m2'.kids.length kc2) := (cell_at hb2 2).trans rfl
      have hTl : T < W8.heap.size := lt_of_heap HT8.out
      have hAl9 := HAL.out w9 F9 (HT8.out.ext hX9 HFT.out) hA9 (Grow.not hG9 HFT.out hTl) (HR2.out.ext hX9 HNR.out HNK.out)
        (fun q hq => Grow.not hG9 (HNR.out q hq) (HBR.out q hq))
        (fun q hq => Grow.not hG9 (HNK.out q hq) (HBK.out q hq))
      have HAL9 := Lib.hid hAl9
      have HX9 := Lib.hid hX9
      have HG9 := Lib.hid hG9
      clear hb2 hTl hAl9 hA9 hX9 hG9 h10 h11 h12
      go_wp2_with (fail)
      refine HAL9.out.mono ?_
      rintro e w10 ⟨rfl, ht⟩
      have HFIN := Lib.hid (show InsPost A F Q w (.returned (.tuple #[.string (m.recs.getD k ByteArray.empty), .int .i64 _])) w10 from
        ⟨_, _, _, rfl, HQ.out, Turns.trans HXT.out HGT.out (Turns.before HE8.out (Turns.trans HX9.out HG9.out ht))⟩)
      clear ht
      go_wp2_with (fail)
      go_ret2
      exact HFIN.out
end Go.Proofs.YtanglcdiebkmiaaGreat
