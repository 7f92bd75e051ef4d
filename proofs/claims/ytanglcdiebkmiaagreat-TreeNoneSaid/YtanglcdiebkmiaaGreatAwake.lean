/- The laws' awake. -/
import Derived.Test.YtanglcdiebkmiaaGreatAll
set_option linter.unusedSimpArgs false
set_option linter.unusedVariables false
namespace Go.Proofs.YtanglcdiebkmiaaGreat
open Go.RowKit Tw

/-- What a new entry leaves in a leaf that has room. -/
def PutPost0 (T A : Nat) (F : Nat → Prop) (st : St) (root : Nat) (E : List Str) (I : List Nat) (s : Str) (w : World) (e : Ending) (w' : World) : Prop :=
  e = .returned (.int .i64 0) ∧ ∃ st' F', Arena w' A st' F' ∧ Ext (fun x => F x ∨ x = T) w w' ∧ Grow F F' w ∧ TreeAt w' T A root 1 (E.length + 1) ∧
    TreeOK st' root 0 (ins E (below E s) s) I (E.length + 1) ∧ Chg st I st' I

theorem Insert_small {T A root : Nat} {F : Nat → Prop} {st : St} {s : Str} {E : List Str} {I : List Nat} {m : Nat} (w : World) (hT : TreeAt w T A root 1 E.length) (hA : Arena w A st F) (hTF : ¬ F T) (t : TreeOK st root 0 E I m)
    (h1 : 1 ≤ s.size) (h2 : s.size ≤ 400) (hs : s ∉ E) (hl : 2 ≤ st.left) (hz : weigh E + (4 + s.size) + 3 ≤ 1024) :
    Calls Tryz.prog 21 #[.pointer (some ⟨T, 0, none⟩), .string s] w (PutPost0 T A F st root E I s w) := by
  have hsm := t.small hA.wf
  have hwf := hA.wf
  have hi : headIs (ge s E) s = false := by
    cases hh : headIs (ge s E) s with
    | false => rfl
    | true => exact absurd ((headIs_ge t.sorted).1 hh) hs
  obtain ⟨n, hn, hr, hlf, hb, hE, hI, hm⟩ := id t.sub
  have hid := node_isSome hn
  have hkid := hr.shaped.lk hlf
  have hidx : kidIx n.recs s = below n.recs s := by
    have hf : hasB n.recs s = false := by
      cases hh : hasB n.recs s with
      | false => rfl
      | true => exact absurd (hE ▸ (hasB_iff hr.shaped.up).1 hh) hs
    unfold kidIx; rw [hf]; rfl
  have hsh : (⟨true, ins E (below E s) s, []⟩ : Nd).Shaped := ⟨fun _ => rfl, fun e => (by cases e), fun x hx => (by
      rcases mem_ins.1 hx with rfl | hx
      · exact ⟨h1, h2⟩
      · exact t.sub.sizes x hx), sorted_ins t.sorted hs, fun k hk => (by cases hk)⟩
  have hfit : (⟨true, ins E (below E s) s, []⟩ : Nd).size ≤ 1024 := by unfold Nd.size; simp only [List.length_nil]; rw [weigh_ins]; omega
  have hR : RootW s 0 st root (fun st' => TreeOK st' root 0 (ins E (below E s) s) I (E.length + 1) ∧ Chg st I st' I) (fun _ _ => False) := by
    refine ⟨n, hn, hlf, ?_⟩
    rw [hidx, hkid, ← hE]
    refine ⟨hsh, by omega, hid, fun _ => ?_, fun h => absurd hfit h⟩
    show if (0 : Nat) = 0 then _ else _
    rw [if_pos rfl]
    refine ⟨⟨⟨_, by rw [St.node_put hid, if_pos rfl], ⟨hsh, hfit⟩, rfl, fun x _ => inB_all x, rfl, hI, by rw [length_ins (below_le _ _)]⟩, t.nodup, fun n' hn' hl' => ?_⟩, (Chg.refl hwf t.nodup).put t.sub.id_mem hid ⟨hsh, hfit⟩⟩
    rw [St.node_put hid, if_pos rfl] at hn'; cases hn'; cases hl'
  refine (Insert_new w hT hA hTF h1 h2 (t.ways s) hi (by omega) (by omega) hl hR).mono ?_
  rintro e w' ⟨rfl, st', F', root', h', hA', hX, hG, hT', hQ⟩
  rcases hQ with ⟨rfl, rfl, p, q⟩ | ⟨_, hf⟩
  · exact ⟨rfl, st', F', hA', hX, hG, hT', p, q⟩
  · exact hf.elim

def sa : Str := ⟨#[97]⟩
def sb : Str := ⟨#[98]⟩
theorem slt_ab : slt sa sb = true := (slt_iff _ _).2 (by decide)
theorem sab_ne : sa ≠ sb := fun e => by have := slt_ab; rw [e, slt_irrefl] at this; cases this
theorem sorted_ab : Sorted [sa, sb] := sorted_cons.2 ⟨fun b hb => by rw [List.mem_singleton.1 hb]; exact slt_ab, List.pairwise_singleton _ _⟩
theorem ins_b : ins [] (below [] sb) sb = [sb] := rfl
theorem ins_ab : ins [sb] (below [sb] sa) sa = [sa, sb] :=
  sorted_ext (sorted_ins (List.pairwise_singleton _ _) (by simp; exact sab_ne)) sorted_ab (fun x => by rw [mem_ins]; simp)

/-- What was made since w: an arena, and what it holds. -/
structure Since (w w' : World) (A : Nat) (st : St) (F : Nat → Prop) : Prop where
  hA : Arena w' A st F
  hx : Ext No w w'
  hF : ∀ k, F k → w.heap.size ≤ k
theorem Since.step {w w1 w2 : World} {A T : Nat} {st st' : St} {F F' : Nat → Prop} (h : Since w w1 A st F) (hT : w.heap.size ≤ T) (hA : Arena w2 A st' F') (hX : Ext (fun x => F x ∨ x = T) w1 w2) (hG : Grow F F' w1) : Since w w2 A st' F' :=
  ⟨hA, h.hx.trans' hX (fun x hx f => f.elim (fun g => by have := h.hF x g; omega) (fun g => by omega)), fun k hk => (hG k hk).elim (h.hF k) (fun g => Nat.le_trans h.hx.size g)⟩
theorem Since.stepA {w w1 w2 : World} {A : Nat} {st st' : St} {F F' : Nat → Prop} (h : Since w w1 A st F) (hA : Arena w2 A st' F') (hX : Ext F w1 w2) (hG : Grow F F' w1) : Since w w2 A st' F' :=
  ⟨hA, h.hx.trans' hX (fun x hx g => by have := h.hF x g; omega), fun k hk => (hG k hk).elim (h.hF k) (fun g => Nat.le_trans h.hx.size g)⟩
theorem Since.more {w w1 w2 : World} {A : Nat} {st : St} {F : Nat → Prop} (h : Since w w1 A st F) (hx : Ext No w1 w2) : Since w w2 A st F := ⟨h.hA.extNo hx, h.hx.trans hx, h.hF⟩

theorem left_empty {q : Nat} : (St.empty q).left = q := by unfold St.left St.used St.empty; simp

set_option maxHeartbeats 1000000 in
theorem awake_ok (w : World) : Calls Tryz.prog 9 #[] w (Gives (.bool true) w) := by
  have hN := New_ok w (q := 20) (by omega)
  have HN := Lib.hid hN
  clear hN
  go_enter Tryz.func9, Tryz.ntmps9
  go_wp2_with (fail)
  refine HN.out.mono ?_
  rintro e w1 ⟨A, F1, rfl, hA1, hx1, hF1⟩
  have S1 := Lib.hid (show Since w w1 A (St.empty 20) F1 from ⟨hA1, hx1, hF1⟩)
  have HT := Lib.hid (New_tree w1 hA1 (by rw [left_empty]; omega))
  clear hA1 hx1 hF1
  go_wp2_with (fail)
  refine HT.out.mono ?_
  rintro e w2 ⟨T, rfl, hTl, F2, st2, root, hfr, hA2, hX2, hG2, hTF2, hT2⟩
  have hTw : w.heap.size ≤ T := Nat.le_trans S1.out.hx.size hTl
  have S2 := Lib.hid (S1.out.stepA hA2 hX2 hG2)
  have hl2 : 19 ≤ st2.left := by
    have := hfr.chg.used; have hq := hfr.chg.quota; have := left_empty (q := 20)
    unfold St.left at this ⊢; rw [hq]; simp at *; omega
  have HI := Lib.hid (Insert_small (s := sb) w2 hT2 hA2 hTF2 hfr.ok (by decide) (by decide) (by simp) (by omega) (by decide))
  have HTF := Lib.hid hTF2
  have HTL := Lib.hid (lt_of_heap hT2)
  have HL := Lib.hid hl2
  clear hfr hA2 hX2 hG2 hTF2 hT2 hTl hl2
  unfold sb at HI
  go_wp2_with (fail)
  refine HI.out.mono ?_
  rintro e w3 ⟨rfl, st3, F3, hA3, hX3, hG3, hT3, hok3, hc3⟩
  have S3 := Lib.hid (S2.out.step hTw hA3 hX3 hG3)
  have hTF3 : ¬ F3 T := Grow.not hG3 HTF.out HTL.out
  have hl3 : 19 ≤ st3.left := by
    have := hc3.used; have hq := hc3.quota; have := HL.out
    unfold St.left at this ⊢; rw [hq]; omega
  rw [show ins [] (below [] (⟨#[98]⟩ : Str)) ⟨#[98]⟩ = [sb] from ins_b] at hok3
  have HI := Lib.hid (Insert_small (s := sa) w3 hT3 hA3 hTF3 hok3 (by decide) (by decide) (by simp; exact sab_ne) (by omega) (by decide))
  have HTF := Lib.hid hTF3
  have HTL := Lib.hid (lt_of_heap hT3)
  clear hA3 hX3 hG3 hTF3 hT3 hok3 hc3 hl3
  unfold sa at HI
  go_wp2_with (fail)
  refine HI.out.mono ?_
  rintro e w4 ⟨rfl, st4, F4, hA4, hX4, hG4, hT4, hok4, hc4⟩
  have S4 := Lib.hid (S3.out.step hTw hA4 hX4 hG4)
  have hTF4 : ¬ F4 T := Grow.not hG4 HTF.out HTL.out
  rw [show ins [sb] (below [sb] (⟨#[97]⟩ : Str)) ⟨#[97]⟩ = [sa, sb] from ins_ab] at hok4
  have hT4 : TreeAt w4 T A root 1 [sa, sb].length := hT4
  have hAl := All_ok w4 hT4 hA4 (hok4.ways ⟨#[]⟩) (by rw [ge_empty]; decide)
  rw [ge_empty] at hAl
  have HAL := Lib.hid hAl
  have HDL := Lib.hid (fun w' (he : Ext No w4 w') => Delete_ok0 (s := sb) w' (he.heapNo hT4) (hA4.extNo he) hTF4 hok4 (by simp))
  clear hA4 hX4 hG4 hTF4 hT4 hok4 hc4 hAl
  go_wp2_with (fail)
  refine HAL.out.mono ?_
  rintro e w5 ⟨a, c, rfl, hown, hx5⟩
  obtain ⟨g, rfl, _, _, _, hcs, _⟩ := ownsRow_open hown (by decide)
  have k0 : w5.cell? ⟨g, 0, none⟩ = some (.string ⟨#[97]⟩) := hcs 0 (by decide)
  have HDL := Lib.hid (HDL.out w5 hx5)
  have S5 := Lib.hid (S4.out.more hx5)
  have hlen : [sa, sb].length = 2 := rfl
  rw [hlen]
  clear hown hcs hx5
  unfold sb at HDL
  go_wp2_with (fail)
  refine HDL.out.mono ?_
  rintro e w6 ⟨rfl, st6, F6, hA6, hX6, hG6, hT6, hok6, hc6⟩
  have S6 := Lib.hid (S5.out.step hTw hA6 hX6 hG6)
  have HLN := Lib.hid (Len_ok w6 (h := 0) hT6)
  have HHT := Lib.hid (Height_ok w6 (h := 0) hT6)
  clear hA6 hX6 hG6 hT6 hok6 hc6
  go_wp2_with (fail)
  refine HLN.out.mono ?_
  rintro e w7 ⟨rfl, rfl⟩
  rw [show (([sa, (⟨#[98]⟩ : Str)].length - 1 : Nat) : Int) = 1 from rfl]
  go_wp2_with (fail)
  refine HHT.out.mono ?_
  rintro e w8 ⟨rfl, rfl⟩
  rw [show ((0 + 1 : Nat) : Int) = 1 from rfl]
  go_wp2_with (fail)
  go_ret
  exact ⟨rfl, S6.out.hx⟩
end Go.Proofs.YtanglcdiebkmiaaGreat
