/- tree.remove at a leaf. -/
import Derived.Test.YtanglcdiebkmiaaGreatNew1
set_option linter.unusedSimpArgs false
set_option linter.unusedVariables false
namespace Go.Proofs.YtanglcdiebkmiaaGreat
open Go.RowKit Tw

/-- What a call that turns pages alone leaves. -/
def RemPost (A : Nat) (F : Nat → Prop) (Q : St → Prop) (w : World) (e : Ending) (w' : World) : Prop :=
  ∃ st' : St, e = .returned (.tuple #[]) ∧ Q st' ∧ Turns A st' F w w'

/-- What taking an entry out of a leaf does. -/
def Rem0 (s : Str) (st : St) (id : Nat) (Q : St → Prop) : Prop :=
  ∃ n, st.node id = some n ∧ n.leaf = true ∧ below n.recs s < n.recs.length ∧ Q (st.put id (.node ⟨true, n.recs.eraseIdx (below n.recs s), n.kids⟩))

theorem weigh_eraseIdx {l : List Str} {k : Nat} : weigh (l.eraseIdx k) ≤ weigh l := by
  rw [List.eraseIdx_eq_take_drop_succ, weigh_append]
  have h1 := weigh_take_drop l k
  have h2 := weigh_drop_le (l.drop k) 1
  rw [List.drop_drop] at h2
  omega
theorem leaf_erase {n : Nd} (hr : n.Right) (hl : n.leaf = true) (k : Nat) : (⟨true, n.recs.eraseIdx k, n.kids⟩ : Nd).Right := by
  have hk := hr.shaped.lk hl
  have hz := hr.fits
  have hd : n.size = 3 + 4 * n.kids.length + weigh n.recs := rfl
  have hw := weigh_eraseIdx (l := n.recs) (k := k)
  exact ⟨⟨fun _ => hk, fun e => (by cases e), fun s hs => hr.shaped.one s (List.mem_of_mem_eraseIdx hs), List.Pairwise.sublist (List.eraseIdx_sublist _ _) hr.shaped.up, hr.shaped.kid⟩, by unfold Nd.size; simp only; omega⟩

set_option maxRecDepth 10000 in
set_option maxHeartbeats 1000000 in
theorem remove_leaf {T A id root hh kk : Nat} {st : St} {F : Nat → Prop} {s : Str} {Q : St → Prop} (w : World) (hT : TreeAt w T A root hh kk) (hA : Arena w A st F) (hTF : ¬ F T) (hw : Rem0 s st id Q) :
    Calls Tryz.prog 52 #[.pointer (some ⟨T, 0, none⟩), .int .i64 id, .string s] w (RemPost A F Q w) := by
  obtain ⟨n, hn, hl, hb, hQ⟩ := hw
  have hr : n.Right := hA.wf.ok _ _ (St.node_some hn)
  have hre := leaf_erase hr hl (below n.recs s)
  have hL := tload_ok w hT hA hn
  have HRE := Lib.hid hre
  have HL := Lib.hid hL
  have HT := Lib.hid hT
  have HA := Lib.hid hA
  have HLF := Lib.hid hl
  have HR := Lib.hid hr
  have HQ := Lib.hid hQ
  have HN := Lib.hid hn
  clear hL hT hA hl hr hQ hTF hn hre
  go_enter Tryz.func52, Tryz.ntmps52
  go_wp2_with (fail)
  refine HL.out.mono ?_
  rintro e w1 ⟨ra, rc, ka, kc, rfl, hrows, he1⟩
  unfold nodeVal
  rw [HLF.out]
  obtain ⟨W2, hW2⟩ : ∃ W2, W2 = w1.alloc (.cells #[.bool true, .slice ra n.recs.length rc, .slice ka n.kids.length kc] 79) := ⟨_, rfl⟩
  obtain ⟨NB, hNB⟩ : ∃ NB, NB = w1.heap.size := ⟨_, rfl⟩
  have hM : W2.heap[NB]? = some (.cells #[.bool true, .slice ra n.recs.length rc, .slice ka n.kids.length kc] 79 (0, 0)) := by rw [hW2, hNB]; exact heap_alloc_new _ _
  have e12 : Ext No w1 W2 := by rw [hW2]; exact (Ext.refl No w1).alloc _
  have hr2 := hrows.on e12 (fun x f => f.elim) (Nat.le_refl _)
  have hF := Find_ok (rc := rc) (kc := kc) (s := s) W2 hr2.nodeIn HR.out.shaped.up (by have := length_le_weigh n.recs; have := HR.out.fits; have : n.size = 3 + 4 * n.kids.length + weigh n.recs := rfl; omega)
  unfold nodeVal at hF
  rw [HLF.out] at hF
  have m0 : W2.cell? ⟨NB, 0, none⟩ = some (.bool true) := (cell_at hM 0).trans rfl
  have m1 : W2.cell? ⟨NB, 1, none⟩ = some (.slice ra n.recs.length rc) := (cell_at hM 1).trans rfl
  have m2 : W2.cell? ⟨NB, 2, none⟩ = some (.slice ka n.kids.length kc) := (cell_at hM 2).trans rfl
  have HF := Lib.hid hF
  have HM := Lib.hid hM
  have HR2 := Lib.hid hr2
  have HE2 := Lib.hid (he1.trans e12)
  have HNW := Lib.hid (show w.heap.size ≤ NB by rw [hNB]; exact he1.size)
  have HW2 := Lib.hid hW2
  have HNB := Lib.hid hNB
  clear hF hM hr2 e12 hrows he1 hW2 hNB
  go_upto_region 2 with (fail)
  rw [← HW2.out, ← HNB.out]
  go_wp2_with (fail)
  refine HF.out.mono ?_
  rintro e w3 ⟨rfl, he3⟩
  have hM3 := he3.heapNo HM.out
  have hr3 := HR2.out.on he3 (fun x f => f.elim) (Nat.le_refl _)
  have hrl : n.recs.length ≤ 1000000 := by have := length_le_weigh n.recs; have := HR.out.fits; have : n.size = 3 + 4 * n.kids.length + weigh n.recs := rfl; omega
  have hD := DelS_ok (i := below n.recs s) w3 hr3.1 hb
  have m0 : w3.cell? ⟨NB, 0, none⟩ = some (.bool true) := (cell_at hM3 0).trans rfl
  have m1 : w3.cell? ⟨NB, 1, none⟩ = some (.slice ra n.recs.length rc) := (cell_at hM3 1).trans rfl
  have hNBr : ¬ Blk ra NB := owns_not_block hr3.1 hM3 (by decide)
  have hRK : ∀ k, Blk ra k → ¬ Blk ka k := fun k hk hk' => owns_ne2 hr3.1 hr3.2 (by decide) (blk_own.1 hk) (blk_own.1 hk')
  have HD := Lib.hid hD
  have HM3 := Lib.hid hM3
  have HR3 := Lib.hid hr3
  have HE3 := Lib.hid (HE2.out.trans he3)
  have HNBR := Lib.hid hNBr
  have HRK := Lib.hid hRK
  clear he3 hM3 hr3 hD hNBr hRK
  generalize below n.recs s = b at *
  have s1 : IntKind.i64.wrap ((b : Int) + 1) = (b : Int) + 1 := IntWalk.i64_in _ (by omega)
  go_wp2_with (fail)
  refine HD.out.mono ?_
  rintro e w5 ⟨rfl, hown5, he5⟩
  have hM5 := he5.heap HM3.out HNBR.out
  have eW5 : Ext No w w5 := HE3.out.trans' he5 fun x hx f => by have := (HR3.out.blkR f).1; omega
  have hk5 : w5.ownsRow w.heap.size 3 1 (.slice ka n.kids.length kc) n.kids.length (n.kids.map i64) := ownsRow_ext HR3.out.2 he5 fun q hq f => HRK.out q f (blk_own.2 hq)
  have hel : (n.recs.eraseIdx b).length = n.recs.length - 1 := by rw [List.length_eraseIdx]; simp [hb]
  rw [← hel] at hown5 ⊢
  obtain ⟨m, hmd⟩ : ∃ m, m = Nd.mk true (n.recs.eraseIdx b) n.kids := ⟨_, rfl⟩
  have hm1 : n.recs.eraseIdx b = m.recs := by rw [hmd]
  have hm2 : n.kids = m.kids := by rw [hmd]
  have hml : true = m.leaf := by rw [hmd]
  have hQ := HQ.out
  have hRE := HRE.out
  rw [← hmd] at hQ hRE
  rw [hm1] at hown5 ⊢
  rw [hm2] at hk5 hM5
  have m0 : w5.cell? ⟨NB, 0, none⟩ = some (.bool true) := (cell_at hM5 0).trans rfl
  have m1 : w5.cell? ⟨NB, 1, none⟩ = some (.slice ra n.recs.length rc) := (cell_at hM5 1).trans rfl
  have m2 : w5.cell? ⟨NB, 2, none⟩ = some (.slice ka m.kids.length kc) := (cell_at hM5 2).trans rfl
  have f1 := frozen_at hM5 1
  have ht : Ext (Only NB) w5 (w5.setCell ⟨NB, 1, none⟩ (.slice ra m.recs.length rc)) := (Ext.refl (Only NB) w5).setCell (p := ⟨NB, 1, none⟩) (.inl rfl) _
  have hX : Ext No w (w5.setCell ⟨NB, 1, none⟩ (.slice ra m.recs.length rc)) := eW5.trans' ht fun x hx f => by have g : x = NB := f; have := HNW.out; omega
  have hO5' : ¬ Blk ra NB := owns_not_block hown5 hM5 (by decide)
  have hK5' : ¬ Blk ka NB := owns_not_block hk5 hM5 (by decide)
  have hIn : NodeIn (w5.setCell ⟨NB, 1, none⟩ (.slice ra m.recs.length rc)) ra ka m := ⟨RowAt.ofOwns (ownsRow_ext hown5 ht fun q hq f => hO5' (blk_own.2 (f ▸ hq))), RowAt.ofOwns (ownsRow_ext hk5 ht fun q hq f => hK5' (blk_own.2 (f ▸ hq)))⟩
  have hS := tstore_ok (n := m) (id := id) _ (TreeAt.ext HT.out hX (fun f => f)) (HA.out.extNo hX) (St.node_some HN.out) hIn hRE (rc := rc) (kc := kc)
  unfold nodeVal at hS
  rw [← hml] at hS
  have HS := Lib.hid hS
  have HX := Lib.hid hX
  have HQ := Lib.hid hQ
  clear hS hX hQ hRE hIn hO5' hK5' ht eW5 hk5 hown5 hM5 hel hmd hm1 hm2 hml he5
  go_wp2_with (fail)
  refine HS.out.mono ?_
  rintro e w7 ⟨rfl, ht⟩
  have HFIN := Lib.hid (show RemPost A F Q w (.returned (.tuple #[])) w7 from ⟨_, rfl, HQ.out, Turns.before HX.out ht⟩)
  clear ht
  go_wp2_with (fail)
  go_end0
  exact HFIN.out
end Go.Proofs.YtanglcdiebkmiaaGreat
