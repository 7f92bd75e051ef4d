/- tree.insert: what it does, as a condition on the pages; the walk. -/
import Derived.Test.YtanglcdiebkmiaaGreatTree1
set_option linter.unusedSimpArgs false
set_option linter.unusedVariables false
namespace Go.Proofs.YtanglcdiebkmiaaGreat
open Go.RowKit Tw

/-- What is laid at the end of an insertion into a node: Q of what comes back and of the pages. -/
def FinW (st : St) (id : Nat) (m : Nd) (Q : Str → Nat → St → Prop) : Prop :=
  m.Shaped ∧ m.size ≤ 100000 ∧ (st.get id).isSome ∧ (m.size ≤ 1024 → Q ⟨#[]⟩ 0 (st.put id (.node m))) ∧
  (¬ m.size ≤ 1024 → 2 + skipOf m ≤ m.recs.length ∧ ∀ k, Best m k → (part m 0 k).Right ∧ (part m (k + skipOf m) m.recs.length).Right ∧ (st.put id (.node (part m 0 k))).left ≠ 0 ∧
    Q (m.recs.getD k ByteArray.empty) (st.put id (.node (part m 0 k))).new.1 ((st.put id (.node (part m 0 k))).new.2.put (st.put id (.node (part m 0 k))).new.1 (.node (part m (k + skipOf m) m.recs.length))))

/-- What an insertion below a page of height h + 1 does. -/
def InsW (s : Str) : Nat → St → Nat → (Str → Nat → St → Prop) → Prop
  | 0, st, id, Q => ∃ n, st.node id = some n ∧ n.leaf = true ∧ FinW st id ⟨true, ins n.recs (kidIx n.recs s) s, n.kids⟩ Q
  | h + 1, st, id, Q => ∃ n, st.node id = some n ∧ n.leaf = false ∧ InsW s h st (n.kids.getD (kidIx n.recs s) 0) (fun sep right st' =>
      if right = 0 then Q ⟨#[]⟩ 0 st' else FinW st' id ⟨false, ins n.recs (kidIx n.recs s) sep, ins n.kids (kidIx n.recs s + 1) right⟩ Q)

theorem ins_map {α β : Type} (f : α → β) (l : List α) (k : Nat) (x : α) : (ins l k x).map f = ins (l.map f) k (f x) := by
  unfold ins; simp [List.map_take, List.map_drop]
theorem kidIx_le (l : List Str) (s : Str) : kidIx l s ≤ l.length := by
  unfold kidIx
  have := below_le l s
  split
  · rename_i h
    unfold hasB at h
    have := (decide_eq_true_iff.1 h).1
    omega
  · omega
theorem owns_ne2 {w : World} {base base' n n' : Nat} {e e' : TypeId} {v v' : Value} {xs xs' : List Value} (h : w.ownsRow base e 1 v n xs) (h' : w.ownsRow base' e' 1 v' n' xs') (hne : e ≠ e') {k : Nat} (hk : v.ownBlock = some k) : v'.ownBlock ≠ some k := by
  intro hk'
  rcases h.2 with ⟨rfl, _⟩ | ⟨g, cap, cur, rfl, _, hg, _⟩
  · simp [Value.ownBlock] at hk
  · rcases h'.2 with ⟨rfl, _⟩ | ⟨g', cap', cur', rfl, _, hg', _⟩
    · simp [Value.ownBlock] at hk'
    · simp [Value.ownBlock] at hk hk'
      subst hk; subst hk'
      rw [hg] at hg'; cases hg'; exact hne rfl

theorem owns_not_block {w : World} {base n c q : Nat} {e T : TypeId} {a : Option Addr} {xs : List Value} {cs : Array Value} {fr : Nat × Nat} (h : w.ownsRow base e 1 (.slice a n c) n xs) (hq : w.heap[q]? = some (.cells cs T fr)) (hne : e ≠ T) : ¬ Blk a q := by
  rintro ⟨p, rfl, rfl⟩
  rcases h.2 with ⟨h0, _⟩ | ⟨g, cap, cur, h0, _, hg, _⟩
  · cases h0
  · cases h0
    simp only at hq
    rw [hg] at hq; cases hq; exact hne rfl

/-- Split, at a node in rows of one's own. -/
theorem Split_ok {n : Nd} {base rc kc : Nat} {ra ka : Option Addr} (w : World) (h : NodeRows n base w ra rc ka kc) (hs : n.Shaped) (hlen : 2 + skipOf n ≤ n.recs.length) (hz : n.size ≤ 100000) :
    Calls Tryz.prog 74 #[nodeVal n ra rc ka kc] w (SplitPost n w) := by
  have hw : weigh n.recs ≤ 100000 := by have : n.size = 3 + 4 * n.kids.length + weigh n.recs := rfl; omega
  obtain ⟨rb, rfl, _, _, hrc, _⟩ := ownsRow_open h.1 (by omega)
  cases hl : n.leaf with
  | true => exact Split_leaf w (RowAt.ofOwns h.1) hrc hl (by unfold skipOf at hlen; rw [hl] at hlen; simpa using hlen) hw
  | false =>
    have hk := hs.ik hl
    obtain ⟨kb, rfl, _, _, hkc, _⟩ := ownsRow_open h.2 (by omega)
    exact Split_inner w (RowAt.ofOwns h.1) (RowAt.ofOwns h.2) hrc hkc hl (by unfold skipOf at hlen; rw [hl] at hlen; simpa using hlen) (by omega) (by omega) hw

/-- What 'insert' gives. -/
def InsPost (A : Nat) (F : Nat → Prop) (Q : Str → Nat → St → Prop) (w : World) (e : Ending) (w' : World) : Prop :=
  ∃ (sep : Str) (right : Nat) (st' : St), e = .returned (.tuple #[.string sep, .int .i64 right]) ∧ Q sep right st' ∧ Turns A st' F w w'
theorem NodeRows.nodeIn {n : Nd} {base rc kc : Nat} {ra ka : Option Addr} {w : World} (h : NodeRows n base w ra rc ka kc) : NodeIn w ra ka n := ⟨RowAt.ofOwns h.1, RowAt.ofOwns h.2⟩
theorem NodeRows.blkR {n : Nd} {base rc kc : Nat} {ra ka : Option Addr} {w : World} (h : NodeRows n base w ra rc ka kc) {k : Nat} (hk : Blk ra k) : base ≤ k ∧ k < w.heap.size := h.1.lt k (blk_own.1 hk)
theorem NodeRows.blkK {n : Nd} {base rc kc : Nat} {ra ka : Option Addr} {w : World} (h : NodeRows n base w ra rc ka kc) {k : Nat} (hk : Blk ka k) : base ≤ k ∧ k < w.heap.size := h.2.lt k (blk_own.1 hk)

set_option maxRecDepth 10000 in
set_option maxHeartbeats 2000000 in
theorem insert_leaf {T A id root hh kk : Nat} {st : St} {F : Nat → Prop} {s : Str} {Q : Str → Nat → St → Prop} (w : World) (hT : TreeAt w T A root hh kk) (hA : Arena w A st F) (hTF : ¬ F T) (hw : InsW s 0 st id Q) :
    Calls Tryz.prog 50 #[.pointer (some ⟨T, 0, none⟩), .int .i64 id, .string s] w (InsPost A F Q w) := by
  obtain ⟨n, hn, hl, hFi⟩ := hw
  have hr : n.Right := hA.wf.ok _ _ (St.node_some hn)
  have hL := tload_ok w hT hA hn
  have HL := Lib.hid hL
  have HT := Lib.hid hT
  have HA := Lib.hid hA
  have HLF := Lib.hid hl
  have HR := Lib.hid hr
  have HFI := Lib.hid hFi
  have HTF := Lib.hid hTF
  have HN := Lib.hid hn
  clear hL hT hA hl hr hFi hTF hn
  go_enter Tryz.func50, Tryz.ntmps50
  go_wp2_with (fail)
  refine HL.out.mono ?_
  rintro e w1 ⟨ra, rc, ka, kc, rfl, hrows, he1⟩
  unfold nodeVal
  rw [HLF.out]
  obtain ⟨W2, hW2⟩ : ∃ W2, W2 = w1.alloc (.cells #[.bool true, .slice ra n.recs.length rc, .slice ka n.kids.length kc] 79) := ⟨_, rfl⟩
  obtain ⟨NB, hNB⟩ : ∃ NB, NB = w1.heap.size := ⟨_, rfl⟩
  have hM : W2.heap[NB]? = some (.cells #[.bool true, .slice ra n.recs.length rc, .slice ka n.kids.length kc] 79 (0, 0)) := by rw [hW2, hNB]; exact heap_alloc_new _ _
  have e12 : Ext No w1 W2 := by rw [hW2]; exact (Ext.refl No w1).alloc _
  have hr2 := hrows.on e12 (fun x f => f.elim) (Nat.le_refl _)
  have hK := Kid_ok (rc := rc) (kc := kc) (s := s) W2 hr2.nodeIn HR.out.shaped.up (by have := length_le_weigh n.recs; have := HR.out.fits; have : n.size = 3 + 4 * n.kids.length + weigh n.recs := rfl; omega)
  unfold nodeVal at hK
  rw [HLF.out] at hK
  have hNw : w.heap.size ≤ NB := by rw [hNB]; exact he1.size
  have m0 : W2.cell? ⟨NB, 0, none⟩ = some (.bool true) := (cell_at hM 0).trans rfl
  have m1 : W2.cell? ⟨NB, 1, none⟩ = some (.slice ra n.recs.length rc) := (cell_at hM 1).trans rfl
  have m2 : W2.cell? ⟨NB, 2, none⟩ = some (.slice ka n.kids.length kc) := (cell_at hM 2).trans rfl
  have HK := Lib.hid hK
  have HM := Lib.hid hM
  have HR2 := Lib.hid hr2
  have HE2 := Lib.hid (he1.trans e12)
  have HNW := Lib.hid hNw
  have HW2 := Lib.hid hW2
  have HNB := Lib.hid hNB
  clear hK hM hr2 e12 hrows he1 hNw hW2 hNB
  go_upto_region 2 with (fail)
  rw [← HW2.out, ← HNB.out]
  go_wp2_with (fail)
  refine HK.out.mono ?_
  rintro e w3 ⟨rfl, he3⟩
  have hM3 := he3.heapNo HM.out
  have hr3 := HR2.out.on he3 (fun x f => f.elim) (Nat.le_refl _)
  have e3 := HE2.out.trans he3
  have m0 : w3.cell? ⟨NB, 0, none⟩ = some (.bool true) := (cell_at hM3 0).trans rfl
  have m1 : w3.cell? ⟨NB, 1, none⟩ = some (.slice ra n.recs.length rc) := (cell_at hM3 1).trans rfl
  have hlt3 := lt_of_heap hM3
  have k1 : ∀ O, (w3.alloc O).cell? ⟨NB, 1, none⟩ = some (.slice ra n.recs.length rc) := fun O => ((Ext.refl No w3).alloc O).cellSome m1 (fun f => f)
  have HM3 := Lib.hid hM3
  have HR3 := Lib.hid hr3
  have HE3 := Lib.hid e3
  clear he3 hM3 hr3 e3
  go_wp2_with (fail)
  obtain ⟨W4, hW4⟩ : ∃ W4, W4 = w3.alloc (.cells #[.string s] 9) := ⟨_, rfl⟩
  rw [← hW4]
  have e34 : Ext No w3 W4 := by rw [hW4]; exact (Ext.refl No w3).alloc _
  have hv4 : W4.heap[w3.heap.size]? = some (.cells #[.string s] 9 (0, 0)) := by rw [hW4]; exact heap_alloc_new _ _
  have hr4 := HR3.out.on e34 (fun x f => f.elim) (Nat.le_refl _)
  have hkl : kidIx n.recs s ≤ n.recs.length := kidIx_le _ _
  have hrl : n.recs.length ≤ 1000000 := by have := length_le_weigh n.recs; have := HR.out.fits; have : n.size = 3 + 4 * n.kids.length + weigh n.recs := rfl; omega
  have hwN : w.heap.size ≤ W4.heap.size := (HE3.out.trans e34).size
  have hI := InsS_ok (x := .string s) W4 hr4.1 (fun u hu => str_one u hu) rfl hv4 (fun q hq e => by have := (HR3.out.blkR hq).2; omega) hkl hrl hwN
  have hpa : putAt (n.recs.map .string) (kidIx n.recs s) (.string s) = (ins n.recs (kidIx n.recs s) s).map .string := by rw [ins_map]; rfl
  rw [hpa] at hI
  refine hI.mono ?_
  rintro e w5 ⟨ra', rc', rfl, hown5, hbk5, he5⟩
  have hM4 := e34.heapNo HM3.out
  have hNBr : ¬ Blk ra NB := owns_not_block HR3.out.1 HM3.out (by decide)
  have hM5 := he5.heap hM4 hNBr
  have eW5 : Ext No w w5 := (HE3.out.trans e34).trans' he5 fun x hx f => by have := (HR3.out.blkR f).1; omega
  have hk5 : w5.ownsRow w.heap.size 3 1 (.slice ka n.kids.length kc) n.kids.length (n.kids.map i64) := ownsRow_ext hr4.2 he5 fun q hq f => owns_ne2 hr4.1 hr4.2 (by decide) (blk_own.1 f) hq
  have hln : ((ins n.recs (kidIx n.recs s) s).map Value.string).length = (ins n.recs (kidIx n.recs s) s).length := List.length_map ..
  rw [hln] at hown5 ⊢
  have m1 : w5.cell? ⟨NB, 1, none⟩ = some (.slice ra n.recs.length rc) := (cell_at hM5 1).trans rfl
  have f1 := frozen_at hM5 1
  have hra5 := hown5.lt
  obtain ⟨m, hmd⟩ : ∃ m, m = Nd.mk true (ins n.recs (kidIx n.recs s) s) n.kids := ⟨_, rfl⟩
  have hm1 : ins n.recs (kidIx n.recs s) s = m.recs := by rw [hmd]
  have hm2 : n.kids = m.kids := by rw [hmd]
  have hml : true = m.leaf := by rw [hmd]
  have hFi := HFI.out
  rw [← hmd] at hFi
  rw [hm1] at hown5 ⊢
  have HO5 := Lib.hid hown5
  have HK5 := Lib.hid (hm2 ▸ hk5)
  have HM5 := Lib.hid hM5
  have HX5 := Lib.hid eW5
  have HFI := Lib.hid hFi
  have HML := Lib.hid hml
  have HMK := Lib.hid hm2
  have HB5 := Lib.hid hbk5
  have HLT3 := Lib.hid hlt3
  have HS34 := Lib.hid e34.size
  clear hI hpa hkl hrl hwN hr4 hv4 e34 hW4 hM4 hNBr hM5 eW5 hk5 hln hra5 hmd hm1 hm2 hml hFi hown5 hbk5 he5 k1 hlt3
  go_upto_region 10 with (fail)
  obtain ⟨wt, hwt⟩ : ∃ wt, wt = w5.setCell ⟨NB, 1, none⟩ (.slice ra' m.recs.length rc') := ⟨_, rfl⟩
  rw [← hwt]
  have e5t : Ext (Only NB) w5 wt := hwt ▸ (Ext.refl (Only NB) w5).setCell (p := ⟨NB, 1, none⟩) (.inl rfl) _
  have hM : wt.heap[NB]? = some (.cells #[.bool m.leaf, .slice ra' m.recs.length rc', .slice ka m.kids.length kc] 79 (0, 0)) := by
    rw [hwt, ← HML.out, ← HMK.out]; exact (heap_setCell_at HM5.out 1 _).trans rfl
  have hRm : NodeRows m w.heap.size wt ra' rc' ka kc := ⟨ownsRow_ext HO5.out e5t fun q hq f => owns_not_block HO5.out HM5.out (by decide) (blk_own.2 (f ▸ hq)), ownsRow_ext HK5.out e5t fun q hq f => owns_not_block HK5.out HM5.out (by decide) (blk_own.2 (f ▸ hq))⟩
  have hX0 : Ext No w wt := HX5.out.trans' e5t fun x hx f => by have g : x = NB := f; have := HNW.out; omega
  have hSh : m.Shaped := HFI.out.1
  have hSz : m.size ≤ 100000 := HFI.out.2.1
  have hFi := HFI.out
  have hAt := HA.out.extNo hX0
  have hTt := TreeAt.ext HT.out hX0 (fun f => f)
  have hXt : Ext F w wt := hX0.ofNo
  have hGt := Grow.refl F w
  have hFt := HTF.out
  have hNf : ¬ F NB := fun f => by have := HA.out.lt _ f; have := HNW.out; omega
  have hRf : ∀ q, Blk ra' q → ¬ F q := fun q hq f => by have := (hRm.blkR hq).1; have := HA.out.lt _ f; omega
  have hKf : ∀ q, Blk ka q → ¬ F q := fun q hq f => by have := (hRm.blkK hq).1; have := HA.out.lt _ f; omega
  have hId := hFi.2.2.1
  clear hX0 e5t hwt m1 f1 m0 m2 HL HK HM HR2 HE2 HW2 HM3 HR3 HE3 HM5 HO5 HK5 HX5

  -- from here on: the node m in block NB of the world wt
  have HM := Lib.hid hM
  have HRT := Lib.hid (fun w' (he : Ext No wt w') => Right_ok (rc := rc') (kc := kc) w' (hRm.nodeIn.extNo (w' := w') he) hSh (by omega))
  have HSP := Lib.hid (fun w' (he : Ext No wt w') h2 => Split_ok w' (NodeRows.on (base' := w.heap.size) hRm he (fun x f => f.elim) (Nat.le_refl _)) hSh h2 hSz)
  have HRM := Lib.hid hRm
  have HFI := Lib.hid hFi
  have HAT := Lib.hid hAt
  have HTT := Lib.hid hTt
  have HXT := Lib.hid hXt
  have HGT := Lib.hid hGt
  have HFT := Lib.hid hFt
  have HNF := Lib.hid hNf
  have HRF := Lib.hid hRf
  have HKF := Lib.hid hKf
  have HID := Lib.hid hId
  have m0 : wt.cell? ⟨NB, 0, none⟩ = some (.bool m.leaf) := (cell_at hM 0).trans rfl
  have m1 : wt.cell? ⟨NB, 1, none⟩ = some (.slice ra' m.recs.length rc') := (cell_at hM 1).trans rfl
  have m2 : wt.cell? ⟨NB, 2, none⟩ = some (.slice ka m.kids.length kc) := (cell_at hM 2).trans rfl
  clear hM hRm hSh hSz hFi hAt hTt hXt hGt hFt hNf hRf hKf hId
  unfold nodeVal at HRT HSP
  go_wp2_with (fail)
  refine (HRT.out _ (Ext.refl No _)).mono ?_
  rintro e w6 ⟨rfl, he6⟩
  have hM6 := he6.heapNo HM.out
  have m0 : w6.cell? ⟨NB, 0, none⟩ = some (.bool m.leaf) := (cell_at hM6 0).trans rfl
  have m1 : w6.cell? ⟨NB, 1, none⟩ = some (.slice ra' m.recs.length rc') := (cell_at hM6 1).trans rfl
  have m2 : w6.cell? ⟨NB, 2, none⟩ = some (.slice ka m.kids.length kc) := (cell_at hM6 2).trans rfl
  have HE6 := Lib.hid he6
  clear he6 hM6
  by_cases hz : m.size ≤ 1024
  · rw [decide_eq_true hz]
    have hS := tstore_ok (n := m) (id := id) w6 (HTT.out.ext HE6.out (fun f => f)) (HAT.out.extNo HE6.out) (Option.get_mem HID.out) (HRM.out.nodeIn.extNo HE6.out) ⟨HFI.out.1, hz⟩ (rc := rc') (kc := kc)
    unfold nodeVal at hS
    have HS := Lib.hid hS
    have HZ := Lib.hid hz
    clear hS hz
    go_wp2_with (fail)
    refine HS.out.mono ?_
    rintro e w7 ⟨rfl, ht⟩
    have HFIN := Lib.hid (show InsPost A F Q w (.returned (.tuple #[.string ⟨#[]⟩, .int .i64 0])) w7 from ⟨⟨#[]⟩, 0, _, rfl, HFI.out.2.2.2.1 HZ.out, Turns.trans HXT.out HGT.out (Turns.before HE6.out ht)⟩)
    clear ht
    go_wp2_with (fail)
    go_ret2
    exact HFIN.out
  · rw [decide_eq_false hz]
    obtain ⟨hl2, hB⟩ := HFI.out.2.2.2.2 hz
    have HB := Lib.hid hB
    have hSp := HSP.out w6 HE6.out hl2
    have HS := Lib.hid hSp
    clear hSp hl2 hB hz
    go_wp2_with (fail)
    refine HS.out.mono ?_
    rintro e w7 ⟨k, ra1, rc1, ka1, kc1, ra2, rc2, ka2, kc2, hbest, rfl, hR1, hR2, he7⟩
    obtain ⟨hr1, hr2, hleft, hQ⟩ := HB.out k hbest
    unfold nodeVal
    obtain ⟨m1', hm1⟩ : ∃ x, x = part m 0 k := ⟨_, rfl⟩
    obtain ⟨m2', hm2⟩ : ∃ x, x = part m (k + skipOf m) m.recs.length := ⟨_, rfl⟩
    rw [← hm1] at hR1 hr1 hleft hQ ⊢
    rw [← hm2] at hR2 hr2 hQ ⊢
    obtain ⟨W8, hW8⟩ : ∃ W8, W8 = (w7.alloc (.cells #[.bool m1'.leaf, .slice ra1 m1'.recs.length rc1, .slice ka1 m1'.kids.length kc1] 79)).alloc (.cells #[.bool m2'.leaf, .slice ra2 m2'.recs.length rc2, .slice ka2 m2'.kids.length kc2] 79) := ⟨_, rfl⟩
    have e78 : Ext No w7 W8 := by rw [hW8]; exact ((Ext.refl No w7).alloc _).alloc _
    have hb1 : W8.heap[w7.heap.size]? = some (.cells #[.bool m1'.leaf, .slice ra1 m1'.recs.length rc1, .slice ka1 m1'.kids.length kc1] 79 (0, 0)) := by
      rw [hW8, heap_alloc_lt (by simp)]; exact heap_alloc_new _ _
    have hb2 : W8.heap[w7.heap.size + 1]? = some (.cells #[.bool m2'.leaf, .slice ra2 m2'.recs.length rc2, .slice ka2 m2'.kids.length kc2] 79 (0, 0)) := by
      rw [hW8]
      have := heap_alloc_new (w7.alloc (.cells #[.bool m1'.leaf, .slice ra1 m1'.recs.length rc1, .slice ka1 m1'.kids.length kc1] 79)) (.cells #[.bool m2'.leaf, .slice ra2 m2'.recs.length rc2, .slice ka2 m2'.kids.length kc2] 79)
      simpa using this
    have et8 := (HE6.out.trans he7).trans e78
    have hFlt := HAT.out.lt
    have hsz : wt.heap.size ≤ w7.heap.size := (HE6.out.trans he7).size
    have hsz6 : wt.heap.size ≤ w6.heap.size := HE6.out.size
    have hT8 := HTT.out.ext et8 (fun f => f)
    have hA8 := HAT.out.extNo et8
    have hR1' := hR1.on e78 (fun x f => f.elim) (Nat.le_refl _)
    have hR2' := hR2.on e78 (fun x f => f.elim) (Nat.le_refl _)
    have hS8 := tstore_ok (n := m1') (id := id) W8 hT8 hA8 (Option.get_mem HID.out) hR1'.nodeIn hr1 (rc := rc1) (kc := kc1)
    have hnr : ∀ kk, Blk ra2 kk → ¬ F kk := fun kk hk f => by have := (hR2'.blkR hk).1; have := hFlt kk f; omega
    have hnk : ∀ kk, Blk ka2 kk → ¬ F kk := fun kk hk f => by have := (hR2'.blkK hk).1; have := hFlt kk f; omega
    have hAl := fun w9 F9 hT9 hA9 hF9 hn9 h1 h2 => talloc_ok (rc := rc2) (kc := kc2) (n := m2') (T := T) (A := A) (root := root) (h := hh) (k := kk) (F := F9) (ra := ra2) (ka := ka2) w9 hT9 hA9 hF9 hleft hn9 hr2 h1 h2
    unfold nodeVal at hS8 hAl
    have h10 : W8.cell? ⟨w7.heap.size, 0, none⟩ = some (.bool m1'.leaf) := (cell_at hb1 0).trans rfl
    have h11 : W8.cell? ⟨w7.heap.size, 1, none⟩ = some (.slice ra1 m1'.recs.length rc1) := (cell_at hb1 1).trans rfl
    have h12 : W8.cell? ⟨w7.heap.size, 2, none⟩ = some (.slice ka1 m1'.kids.length kc1) := (cell_at hb1 2).trans rfl
    have HS8 := Lib.hid hS8
    have HAL := Lib.hid hAl
    have HNR := Lib.hid hnr
    have HNK := Lib.hid hnk
    have HQ := Lib.hid hQ
    have HB2 := Lib.hid hb2
    have HT8 := Lib.hid hT8
    have HE8 := Lib.hid et8
    have HFLT := Lib.hid hFlt
    have HSZ := Lib.hid hsz
    have HR2 := Lib.hid hR2'.nodeIn
    have HL8 := Lib.hid (lt_of_heap hb2)
    have HBR := Lib.hid (fun q (hq : Blk ra2 q) => (hR2'.blkR hq).2)
    have HBK := Lib.hid (fun q (hq : Blk ka2 q) => (hR2'.blkK hq).2)
    have HW8 := Lib.hid hW8
    clear hS8 hAl hnr hnk hQ hb1 hb2 hT8 hA8 et8 hFlt hsz hsz6 hR1' hR2' hR1 hR2 hr1 hr2 hleft he7 hbest e78 hm1 hm2 hW8
    go_upto_region 14 with (fail)
    rw [← HW8.out]
    go_wp2_with (fail)
    refine HS8.out.mono ?_
    rintro e w9 ⟨rfl, F9, hA9, hX9, hG9⟩
    have hb2 := hX9.heap HB2.out (fun f => by have := HFLT.out _ f; have := HSZ.out; omega)
    have h20 : w9.cell? ⟨w7.heap.size + 1, 0, none⟩ = some (.bool m2'.leaf) := (cell_at hb2 0).trans rfl
    have h21 : w9.cell? ⟨w7.heap.size + 1, 1, none⟩ = some (.slice ra2 m2'.recs.length rc2) := (cell_at hb2 1).trans rfl
    have h22 : w9.cell? ⟨w7.heap.size + 1, 2, none⟩ = some (.slice ka2 m2'.kids.length kc2) := (cell_at hb2 2).trans rfl
    have hTl : T < W8.heap.size := lt_of_heap HT8.out
    have hAl9 := HAL.out w9 F9 (HT8.out.ext hX9 HFT.out) hA9 (Grow.not hG9 HFT.out hTl) (HR2.out.ext hX9 HNR.out HNK.out)
      (fun q hq => Grow.not hG9 (HNR.out q hq) (HBR.out q hq))
      (fun q hq => Grow.not hG9 (HNK.out q hq) (HBK.out q hq))
    have HAL9 := Lib.hid hAl9
    have HX9 := Lib.hid hX9
    have HG9 := Lib.hid hG9
    clear hb2 hTl hAl9 hA9 hX9 hG9 h10 h11 h12
    go_wp2_with (fail)
    refine HAL9.out.mono ?_
    rintro e w10 ⟨rfl, ht⟩
    have HFIN := Lib.hid (show InsPost A F Q w (.returned (.tuple #[.string (m.recs.getD k ByteArray.empty), .int .i64 _])) w10 from
      ⟨_, _, _, rfl, HQ.out, Turns.trans HXT.out HGT.out (Turns.before HE8.out (Turns.trans HX9.out HG9.out ht))⟩)
    clear ht
    go_wp2_with (fail)
    go_ret2
    exact HFIN.out
end Go.Proofs.YtanglcdiebkmiaaGreat
