/- Each: the way through a tree. -/
import Derived.Test.YtanglcdiebkmiaaGreatIns1
import Derived.Deep.QuietTactic
set_option linter.unusedSimpArgs false
set_option linter.unusedVariables false
namespace Go.Proofs.YtanglcdiebkmiaaGreat
open Go.RowKit Tw

/-- Is it enough, for the bound? -/
def past (til s : Str) : Bool := (!(til.toList == [])) && (!(Op.bytesLess s.toList til.toList))
/-- Entries are told, until it is enough: those told; true: on. -/
def tellAll (go : List Str → Str → Bool) (til : Str) : List Str → List Str → List Str × Bool
  | [], l => (l, true)
  | s :: r, l => if past til s then (l, false) else if go l s then tellAll go til r (l ++ [s]) else (l ++ [s], false)
theorem tellAll_append (go : List Str → Str → Bool) (til : Str) : ∀ (a b l : List Str), tellAll go til (a ++ b) l = if (tellAll go til a l).2 then tellAll go til b (tellAll go til a l).1 else tellAll go til a l
  | [], b, l => by simp [tellAll]
  | s :: r, b, l => by
    rw [List.cons_append, tellAll, tellAll]
    split
    · simp
    · split
      · exact tellAll_append go til r b _
      · simp

theorem past_nil {til s : Str} (h : til.toList = []) : past til s = false := by unfold past; rw [h]; rfl
theorem past_lt {til s : Str} (_ : ¬ til.toList = []) (h : Op.bytesLess s.toList til.toList = true) : past til s = false := by unfold past; rw [h]; simp
theorem past_ge {til s : Str} (h0 : ¬ til.toList = []) (h : ¬ Op.bytesLess s.toList til.toList = true) : past til s = true := by
  unfold past
  have h1 : Op.bytesLess s.toList til.toList = false := by simpa using h
  rw [h1]; simpa using h0
theorem tell_step {go : List Str → Str → Bool} {til s : Str} {E r l told : List Str} {k : Nat} (h : tellAll go til (E.take k) l = (told, true)) (hd : E.drop k = s :: r) :
    (past til s = true → tellAll go til E l = (told, false)) ∧ (past til s = false → go told s = false → tellAll go til E l = (told ++ [s], false)) ∧
    (past til s = false → go told s = true → tellAll go til (E.take k ++ [s]) l = (told ++ [s], true)) := by
  have hE : tellAll go til E l = tellAll go til (s :: r) told := by
    rw [← List.take_append_drop k E, hd, tellAll_append, h]; rfl
  refine ⟨fun hp => ?_, fun hp hg => ?_, fun hp hg => ?_⟩
  · rw [hE, tellAll, hp]; rfl
  · rw [hE, tellAll, hp, hg]; rfl
  · rw [tellAll_append, h]; simp [tellAll, hp, hg]

/-- What is told below a page. -/
def Ways (st : St) (frm : Str) : Nat → Nat → List Str → Prop
  | 0, id, E => ∃ n, st.node id = some n ∧ n.leaf = true ∧ E = n.recs.drop (below n.recs frm)
  | h + 1, id, E => ∃ n, st.node id = some n ∧ n.leaf = false ∧ ∃ Es : List (List Str), Es.length = (n.kids.drop (kidIx n.recs frm)).length ∧ (∀ i (hi : i < (n.kids.drop (kidIx n.recs frm)).length), Ways st frm h ((n.kids.drop (kidIx n.recs frm))[i]) (Es.getD i [])) ∧ E = Es.flatten

theorem add_block (p : Addr) (b : Nat) : (p.add b).block = p.block := by unfold Addr.add; split <;> rfl
/-- A callback has been told l, holds the blocks G'; since w only blocks of G have turned. -/
def Tells (J : List Str → (Nat → Prop) → World → Prop) (l : List Str) (G : Nat → Prop) (w w' : World) : Prop := ∃ G', J l G' w' ∧ Ext G w w' ∧ Grow G G' w
theorem Tells.refl {J : List Str → (Nat → Prop) → World → Prop} {l : List Str} {G : Nat → Prop} {w : World} (h : J l G w) : Tells J l G w w := ⟨G, h, Ext.refl _ _, Grow.refl _ _⟩
theorem Tells.before {J : List Str → (Nat → Prop) → World → Prop} {l : List Str} {G : Nat → Prop} {w w1 w' : World} (he : Ext No w w1) (h : Tells J l G w1 w') : Tells J l G w w' := by
  obtain ⟨G', a, x, g⟩ := h
  exact ⟨G', a, he.noTrans x, fun k hk => (g k hk).imp id fun h => by have := he.size; omega⟩
theorem Tells.trans {J : List Str → (Nat → Prop) → World → Prop} {l : List Str} {G G1 : Nat → Prop} {w w1 w' : World} (x : Ext G w w1) (g : Grow G G1 w) (h : Tells J l G1 w1 w') : Tells J l G w w' := by
  obtain ⟨G', a, x', g'⟩ := h
  exact ⟨G', a, x.grown x' g, g.trans g' x.size⟩
theorem Tells.and {J : List Str → (Nat → Prop) → World → Prop} {l : List Str} {G : Nat → Prop} {w w' : World} (h : Tells J l G w w') : ∃ G', J l G' w' ∧ Ext G w w' ∧ Grow G G' w := h

/-- What is told of E, from l on, is as P wants it. -/
def Asked (P : List Str → Str → Prop) (l E : List Str) : Prop := ∀ pre s suf, E = pre ++ s :: suf → P (l ++ pre) s
theorem tell_true {go : List Str → Str → Bool} {til : Str} : ∀ {E l told : List Str}, tellAll go til E l = (told, true) → told = l ++ E
  | [], l, told, h => by simp only [tellAll, Prod.mk.injEq, and_true] at h; simp [h]
  | s :: E, l, told, h => by
    rw [tellAll] at h
    split at h
    · simp at h
    · split at h
      · rw [tell_true h]; simp
      · simp at h
theorem asked_at {P : List Str → Str → Prop} {go : List Str → Str → Bool} {til s : Str} {E l told r : List Str} {k : Nat} (h : Asked P l E) (ht : tellAll go til (E.take k) l = (told, true)) (hd : E.drop k = s :: r) : P told s := by
  rw [tell_true ht]
  exact h (E.take k) s r (by rw [← hd, List.take_append_drop])

/-- A callback, as a machine: what it may be told, what it has been told, what blocks it holds, what it says. -/
structure CB (g : Nat) (first caps : Array Value) (P : List Str → Str → Prop) (go : List Str → Str → Bool) (J : List Str → (Nat → Prop) → World → Prop) : Prop where
  fn : ∀ args w, (callFunc g args).run Tryz.prog w = .ok (.enter g args) w
  lt : ∀ l G w, J l G w → ∀ k, G k → k < w.heap.size
  more : ∀ l G w w', J l G w → Ext No w w' → J l G w'
  call : ∀ l s G w, P l s → J l G w → Calls Tryz.prog g (first.push (.string s) ++ caps) w fun e w' => e = .returned (.bool (go l s)) ∧ Tells J (l ++ [s]) G w w'

def WalkAt (w : World) (V T : Nat) (frm til : Str) (fv : Value) : Prop :=
  w.heap[V]? = some (.cells #[.pointer (some ⟨T, 0, none⟩), .string frm, .string til, fv] 130 (0, 0))

def NodePost (J : List Str → (Nat → Prop) → World → Prop) (G : Nat → Prop) (w : World) (r : List Str × Bool) (e : Ending) (w' : World) : Prop := e = .returned (.bool r.2) ∧ Tells J r.1 G w w'

/-- What a way through a tree stands on, at a world in which the callback holds G. -/
structure WCtx (V T A root hh kk : Nat) (F : Nat → Prop) (st : St) (frm til : Str) (fv : Value) (G : Nat → Prop) (w : World) : Prop where
  hV : WalkAt w V T frm til fv
  hT : TreeAt w T A root hh kk
  hA : Arena w A st F
  hVG : ¬ G V
  hTG : ¬ G T
  hd : ∀ k, F k → ¬ G k
theorem WCtx.next {V T A root hh kk : Nat} {F : Nat → Prop} {st : St} {frm til : Str} {fv : Value} {G G' : Nat → Prop} {w w' : World} (h : WCtx V T A root hh kk F st frm til fv G w) (x : Ext G w w') (g : Grow G G' w) : WCtx V T A root hh kk F st frm til fv G' w' :=
  ⟨x.heap h.hV h.hVG, x.heap h.hT h.hTG, h.hA.ext x h.hd, Grow.not g h.hVG (lt_of_heap h.hV), Grow.not g h.hTG (lt_of_heap h.hT), fun k f => Grow.not g (h.hd k f) (h.hA.lt k f)⟩
theorem WCtx.more {V T A root hh kk : Nat} {F : Nat → Prop} {st : St} {frm til : Str} {fv : Value} {G : Nat → Prop} {w w' : World} (h : WCtx V T A root hh kk F st frm til fv G w) (x : Ext No w w') : WCtx V T A root hh kk F st frm til fv G w' :=
  h.next x.ofNo (Grow.refl _ _)

set_option maxRecDepth 10000 in
set_option maxHeartbeats 2000000 in
theorem node_leaf {g V T A root hh kk id : Nat} {first caps : Array Value} {F G : Nat → Prop} {P : List Str → Str → Prop} {go : List Str → Str → Bool} {J : List Str → (Nat → Prop) → World → Prop} {st : St} {frm til : Str} {n : Nd}
    (C : CB g first caps P go J) (hn : st.node id = some n) (hl : n.leaf = true) (l : List Str) (w : World) (hP : Asked P l (n.recs.drop (below n.recs frm))) (hJ : J l G w) (X : WCtx V T A root hh kk F st frm til (.func (.func g) first caps) G w) :
    Calls Tryz.prog 81 #[.pointer (some ⟨V, 0, none⟩), .int .i64 id] w (NodePost J G w (tellAll go til (n.recs.drop (below n.recs frm)) l)) := by
  have hr : n.Right := X.hA.wf.ok _ _ (St.node_some hn)
  have hL := tload_ok w X.hT X.hA hn
  have hV0 := X.hV
  have hVG := X.hVG
  have v0 : w.cell? ⟨V, 0, none⟩ = some (.pointer (some ⟨T, 0, none⟩)) := (cell_at hV0 0).trans rfl
  have HL := Lib.hid hL
  have HV0 := Lib.hid hV0
  have HLF := Lib.hid hl
  have HR := Lib.hid hr
  have HC := Lib.hid C
  have HJ := Lib.hid hJ
  have HP := Lib.hid hP
  clear hL hV0 hl hr C hJ X hn hP
  go_enter Tryz.func81, Tryz.ntmps81
  go_wp2_with (fail)
  refine HL.out.mono ?_
  rintro e w1 ⟨ra, rc, ka, kc, rfl, hrows, he1⟩
  unfold nodeVal
  rw [HLF.out]
  obtain ⟨W2, hW2⟩ : ∃ W2, W2 = w1.alloc (.cells #[.bool true, .slice ra n.recs.length rc, .slice ka n.kids.length kc] 79) := ⟨_, rfl⟩
  obtain ⟨NB, hNB⟩ : ∃ NB, NB = w1.heap.size := ⟨_, rfl⟩
  have hM : W2.heap[NB]? = some (.cells #[.bool true, .slice ra n.recs.length rc, .slice ka n.kids.length kc] 79 (0, 0)) := by rw [hW2, hNB]; exact heap_alloc_new _ _
  have e12 : Ext No w1 W2 := by rw [hW2]; exact (Ext.refl No w1).alloc _
  have hr2 := hrows.on e12 (fun x f => f.elim) (Nat.le_refl _)
  have hF := fun w' (he : Ext No W2 w') => Find_ok (rc := rc) (kc := kc) (s := frm) w' (hr2.nodeIn.extNo he) HR.out.shaped.up (by have := length_le_weigh n.recs; have := HR.out.fits; have : n.size = 3 + 4 * n.kids.length + weigh n.recs := rfl; omega)
  unfold nodeVal at hF
  rw [HLF.out] at hF
  have e2 := he1.trans e12
  have hV2 := e2.heapNo HV0.out
  have m0 : W2.cell? ⟨NB, 0, none⟩ = some (.bool true) := (cell_at hM 0).trans rfl
  have m1 : W2.cell? ⟨NB, 1, none⟩ = some (.slice ra n.recs.length rc) := (cell_at hM 1).trans rfl
  have m2 : W2.cell? ⟨NB, 2, none⟩ = some (.slice ka n.kids.length kc) := (cell_at hM 2).trans rfl
  have v1 : W2.cell? ⟨V, 1, none⟩ = some (.string frm) := (cell_at hV2 1).trans rfl
  have HF := Lib.hid hF
  have HM := Lib.hid hM
  have HR2 := Lib.hid hr2
  have HE2 := Lib.hid e2
  have HNW := Lib.hid (show w.heap.size ≤ NB by rw [hNB]; exact he1.size)
  have HW2 := Lib.hid hW2
  have HNB := Lib.hid hNB
  clear hF hM hr2 e12 e2 hrows he1 hW2 hNB hV2 v0
  go_upto_region 2 with (fail)
  rw [← HW2.out, ← HNB.out]
  go_wp2_with (fail)
  go_region_held3 (fun w' => w'.cell? ⟨NB, 0, none⟩ = some (.bool true) ∧ w'.cell? ⟨NB, 1, none⟩ = some (.slice ra n.recs.length rc) ∧ w'.cell? ⟨NB, 2, none⟩ = some (.slice ka n.kids.length kc) ∧ w'.cell? ⟨V, 1, none⟩ = some (.string frm)) (first | go_keep) (first
    | (go_at_call 75; refine (HF.out _ (Ext.refl No W2).drew).mono ?_; rintro e w3 ⟨rfl, he3⟩; have e23 := (Ext.refl No W2).drew.trans he3; have hM3 := e23.heapNo HM.out; have hV3 := (HE2.out.trans e23).heapNo HV0.out; have m0 : w3.cell? ⟨NB, 0, none⟩ = some (.bool true) := (cell_at hM3 0).trans rfl; have m1 : w3.cell? ⟨NB, 1, none⟩ = some (.slice ra n.recs.length rc) := (cell_at hM3 1).trans rfl; have m2 : w3.cell? ⟨NB, 2, none⟩ = some (.slice ka n.kids.length kc) := (cell_at hM3 2).trans rfl; have v1 : w3.cell? ⟨V, 1, none⟩ = some (.string frm) := (cell_at hV3 1).trans rfl; have HE23 := Lib.hid e23; have HM3 := Lib.hid hM3; have HV3 := Lib.hid hV3; clear he3 e23 hM3 hV3))
  have hbl : below n.recs frm ≤ n.recs.length := below_le _ _
  generalize below n.recs frm = b at *
  have q1 : (0 : Int) ≤ (b : Int) := by omega
  have hrc : n.recs.length ≤ rc := by obtain ⟨_, _, h, h2, _⟩ := ownsRow_form HR2.out.1; cases h; exact h2
  have q2 : (b : Int) ≤ (rc : Int) := by omega
  have q3 : (b : Int) ≤ (n.recs.length : Int) := by omega
  go_upto_region 5 with (fail)
  case inl hrb KK hKK =>
    have HRB := Lib.hid hrb
    have hbn : n.recs.length ≤ b := by omega
    clear hrb
    obtain ⟨a', ha'⟩ : ∃ a', a' = ra := ⟨_, rfl⟩
    rw [← ha']
    have hrow : RowAt w3 a' ((n.recs.drop b).map .string) := by
      rw [List.drop_eq_nil_of_le (by omega)]; exact .inl rfl
    have hlen : n.recs.length - b = (n.recs.drop b).length := by simp
    rw [hlen]
    have hEl : (n.recs.drop b).length ≤ 100000 := by have := length_le_weigh n.recs; have := HR.out.fits; have : n.size = 3 + 4 * n.kids.length + weigh n.recs := rfl; rw [List.length_drop]; omega
    generalize n.recs.drop b = E at *
    have HROW := Lib.hid hrow
    have HLT := Lib.hid (HC.out.lt _ _ _ HJ.out)
    have HJ3 := Lib.hid (HC.out.more _ _ _ _ HJ.out (HE2.out.trans HE23.out))
    have HD := Lib.hid (show ∀ k, Blk a' k → ¬ G k from fun k hk f => by have h1 := HLT.out k f; have h2 := (HR2.out.blkR (ha' ▸ hk)).1; omega)
    clear hrow hlen ha' m0 m1 m2 v1
    go_loopw [32] (fun i wr => ∃ (k : Nat) (told : List Str), i = .int .i64 k ∧ k ≤ E.length ∧ Hid (tellAll go til (E.take k) l = (told, true)) ∧ Hid (Tells J told G w3 wr)) (fun i _ => E.length - (intOf i).toNat)
    case atStart => exact ⟨0, l, rfl, Nat.zero_le _, rfl, Tells.refl HJ3.out⟩
    case round =>
      obtain ⟨k, told, rfl, hk, hTo, hTl⟩ := hrel
      obtain ⟨G', hj', hx', hg'⟩ := hTl.out
      have HJr := Lib.hid hj'
      have HXr := Lib.hid hx'
      have HGr := Lib.hid hg'
      clear hj' hx' hg'
      by_cases hlt : k < E.length
      · obtain ⟨rb, off, rfl, hcs⟩ := (HROW.out.ext HXr.out HD.out).cell (i := k) (by rw [List.length_map]; exact hlt)
        rw [List.getElem_map] at hcs
        have hTk : E.take (k + 1) = E.take k ++ [E[k]] := by rw [List.take_succ_eq_append_getElem hlt]
        have HTK := Lib.hid hTk
        have HDR := Lib.hid (List.drop_eq_getElem_cons hlt)
        clear hTk
        generalize E[k] = s at *
        have hV := HXr.out.heap HV3.out hVG
        have v2 : wr.cell? ⟨V, 2, none⟩ = some (.string til) := (cell_at hV 2).trans rfl
        have v3 : wr.cell? ⟨V, 3, none⟩ = some (.func (.func g) first caps) := (cell_at hV 3).trans rfl
        have HCALL := Lib.hid (HC.out.call told s G' wr (asked_at HP.out hTo.out HDR.out))
        have hfn := HC.out.fn
        clear hV
        go_wp2_with (fail)
        · have hp0 : til.toList = [] := by assumption
          have HPA := Lib.hid (show past til s = false from past_nil hp0)
          refine (HCALL.out HJr.out).mono ?_
          rintro e w' ⟨rfl, ht'⟩
          have HT' := Lib.hid (Tells.trans HXr.out HGr.out ht')
          clear ht'
          have HTL := Lib.hid (tell_step (go := go) hTo.out HDR.out)
          rcases hgo : go told s with _ | _
          · have HGO := Lib.hid hgo
            clear hgo
            go_wp2_with (fail)
            go_ret
            have h3 := HTL.out.2.1 HPA.out HGO.out
            exact ⟨by rw [h3]; rfl, by rw [h3]; exact Tells.before (HE2.out.trans HE23.out) HT'.out⟩
          · have HGO := Lib.hid hgo
            clear hgo
            have s1 : IntKind.i64.wrap ((k : Int) + 1) = (k : Int) + 1 := IntWalk.i64_in _ (by omega)
            go_wp2_with (fail)
            go_roundw
            case rel => exact ⟨k + 1, told ++ [s], by go_num, by omega, by rw [HTK.out]; exact HTL.out.2.2 HPA.out HGO.out, HT'.out⟩
            case measure => simp [intOf]; omega
        · have hp0 : ¬ til.toList = [] := by assumption
          have hp1 : Op.bytesLess s.toList til.toList = true := by assumption
          have HPA := Lib.hid (show past til s = false from past_lt hp0 hp1)
          refine (HCALL.out HJr.out).mono ?_
          rintro e w' ⟨rfl, ht'⟩
          have HT' := Lib.hid (Tells.trans HXr.out HGr.out ht')
          clear ht'
          have HTL := Lib.hid (tell_step (go := go) hTo.out HDR.out)
          rcases hgo : go told s with _ | _
          · have HGO := Lib.hid hgo
            clear hgo
            go_wp2_with (fail)
            go_ret
            have h3 := HTL.out.2.1 HPA.out HGO.out
            exact ⟨by rw [h3]; rfl, by rw [h3]; exact Tells.before (HE2.out.trans HE23.out) HT'.out⟩
          · have HGO := Lib.hid hgo
            clear hgo
            have s1 : IntKind.i64.wrap ((k : Int) + 1) = (k : Int) + 1 := IntWalk.i64_in _ (by omega)
            go_wp2_with (fail)
            go_roundw
            case rel => exact ⟨k + 1, told ++ [s], by go_num, by omega, by rw [HTK.out]; exact HTL.out.2.2 HPA.out HGO.out, HT'.out⟩
            case measure => simp [intOf]; omega
        · have hp0 : ¬ til.toList = [] := by assumption
          have hp1 : ¬ Op.bytesLess s.toList til.toList = true := by assumption
          have h3 := (tell_step (go := go) hTo.out HDR.out).1 (past_ge hp0 hp1)
          have H3 := Lib.hid h3
          clear h3
          go_ret
          exact ⟨by rw [H3.out]; rfl, by rw [H3.out]; exact Tells.before (HE2.out.trans HE23.out) hTl.out⟩
      · have hk' : k = E.length := by omega
        have HK := Lib.hid hk'
        clear hk'
        go_wp2_with (fail)
        first | go_ret | (go_at_K; go_wp2_with (fail); go_ret)
        have := hTo.out
        rw [HK.out, List.take_length] at this
        exact ⟨by rw [this]; rfl, by rw [this]; exact Tells.before (HE2.out.trans HE23.out) hTl.out⟩
  case inr =>
    have hrb : ¬ rc = b := by assumption
    obtain ⟨a', ha'⟩ : ∃ a', a' = Option.map (fun x => x.add b) ra := ⟨_, rfl⟩
    rw [← ha']
    have hrow : RowAt w3 a' ((n.recs.drop b).map .string) := by
      have h3 := (HR2.out.nodeIn.recs.extNo HE23.out)
      rcases ownsRow_form HR2.out.1 with _
      rcases HR2.out.1.2 with ⟨h0, h1⟩ | ⟨gg, cap, cur, h0, _⟩
      · rw [List.drop_eq_nil_of_le (by omega)]; exact .inl rfl
      · cases h0
        have := RowAt.drop h3 b
        rw [← List.map_drop] at this
        rw [ha', Option.map_some, Addr.add_lit]; exact this
    have hlen : n.recs.length - b = (n.recs.drop b).length := by simp
    rw [hlen]
    have hEl : (n.recs.drop b).length ≤ 100000 := by have := length_le_weigh n.recs; have := HR.out.fits; have : n.size = 3 + 4 * n.kids.length + weigh n.recs := rfl; rw [List.length_drop]; omega
    generalize n.recs.drop b = E at *
    have HROW := Lib.hid hrow
    have HLT := Lib.hid (HC.out.lt _ _ _ HJ.out)
    have HJ3 := Lib.hid (HC.out.more _ _ _ _ HJ.out (HE2.out.trans HE23.out))
    have HD := Lib.hid (show ∀ k, Blk a' k → ¬ G k from fun k hk f => by have h1 := HLT.out k f; obtain ⟨p, hp, rfl⟩ := hk; rw [ha'] at hp; cases hra : ra with
      | none => rw [hra] at hp; cases hp
      | some p' => rw [hra] at hp; cases hp; have h2 := (HR2.out.blkR (k := p'.block) ⟨p', hra, rfl⟩).1; rw [add_block] at h1; omega)
    clear hrow hlen ha' m0 m1 m2 v1
    go_loopw [32] (fun i wr => ∃ (k : Nat) (told : List Str), i = .int .i64 k ∧ k ≤ E.length ∧ Hid (tellAll go til (E.take k) l = (told, true)) ∧ Hid (Tells J told G w3 wr)) (fun i _ => E.length - (intOf i).toNat)
    case atStart => exact ⟨0, l, rfl, Nat.zero_le _, rfl, Tells.refl HJ3.out⟩
    case round =>
      obtain ⟨k, told, rfl, hk, hTo, hTl⟩ := hrel
      obtain ⟨G', hj', hx', hg'⟩ := hTl.out
      have HJr := Lib.hid hj'
      have HXr := Lib.hid hx'
      have HGr := Lib.hid hg'
      clear hj' hx' hg'
      by_cases hlt : k < E.length
      · obtain ⟨rb, off, rfl, hcs⟩ := (HROW.out.ext HXr.out HD.out).cell (i := k) (by rw [List.length_map]; exact hlt)
        rw [List.getElem_map] at hcs
        have hTk : E.take (k + 1) = E.take k ++ [E[k]] := by rw [List.take_succ_eq_append_getElem hlt]
        have HTK := Lib.hid hTk
        have HDR := Lib.hid (List.drop_eq_getElem_cons hlt)
        clear hTk
        generalize E[k] = s at *
        have hV := HXr.out.heap HV3.out hVG
        have v2 : wr.cell? ⟨V, 2, none⟩ = some (.string til) := (cell_at hV 2).trans rfl
        have v3 : wr.cell? ⟨V, 3, none⟩ = some (.func (.func g) first caps) := (cell_at hV 3).trans rfl
        have HCALL := Lib.hid (HC.out.call told s G' wr (asked_at HP.out hTo.out HDR.out))
        have hfn := HC.out.fn
        clear hV
        go_wp2_with (fail)
        · have hp0 : til.toList = [] := by assumption
          have HPA := Lib.hid (show past til s = false from past_nil hp0)
          refine (HCALL.out HJr.out).mono ?_
          rintro e w' ⟨rfl, ht'⟩
          have HT' := Lib.hid (Tells.trans HXr.out HGr.out ht')
          clear ht'
          have HTL := Lib.hid (tell_step (go := go) hTo.out HDR.out)
          rcases hgo : go told s with _ | _
          · have HGO := Lib.hid hgo
            clear hgo
            go_wp2_with (fail)
            go_ret
            have h3 := HTL.out.2.1 HPA.out HGO.out
            exact ⟨by rw [h3]; rfl, by rw [h3]; exact Tells.before (HE2.out.trans HE23.out) HT'.out⟩
          · have HGO := Lib.hid hgo
            clear hgo
            have s1 : IntKind.i64.wrap ((k : Int) + 1) = (k : Int) + 1 := IntWalk.i64_in _ (by omega)
            go_wp2_with (fail)
            go_roundw
            case rel => exact ⟨k + 1, told ++ [s], by go_num, by omega, by rw [HTK.out]; exact HTL.out.2.2 HPA.out HGO.out, HT'.out⟩
            case measure => simp [intOf]; omega
        · have hp0 : ¬ til.toList = [] := by assumption
          have hp1 : Op.bytesLess s.toList til.toList = true := by assumption
          have HPA := Lib.hid (show past til s = false from past_lt hp0 hp1)
          refine (HCALL.out HJr.out).mono ?_
          rintro e w' ⟨rfl, ht'⟩
          have HT' := Lib.hid (Tells.trans HXr.out HGr.out ht')
          clear ht'
          have HTL := Lib.hid (tell_step (go := go) hTo.out HDR.out)
          rcases hgo : go told s with _ | _
          · have HGO := Lib.hid hgo
            clear hgo
            go_wp2_with (fail)
            go_ret
            have h3 := HTL.out.2.1 HPA.out HGO.out
            exact ⟨by rw [h3]; rfl, by rw [h3]; exact Tells.before (HE2.out.trans HE23.out) HT'.out⟩
          · have HGO := Lib.hid hgo
            clear hgo
            have s1 : IntKind.i64.wrap ((k : Int) + 1) = (k : Int) + 1 := IntWalk.i64_in _ (by omega)
            go_wp2_with (fail)
            go_roundw
            case rel => exact ⟨k + 1, told ++ [s], by go_num, by omega, by rw [HTK.out]; exact HTL.out.2.2 HPA.out HGO.out, HT'.out⟩
            case measure => simp [intOf]; omega
        · have hp0 : ¬ til.toList = [] := by assumption
          have hp1 : ¬ Op.bytesLess s.toList til.toList = true := by assumption
          have h3 := (tell_step (go := go) hTo.out HDR.out).1 (past_ge hp0 hp1)
          have H3 := Lib.hid h3
          clear h3
          go_ret
          exact ⟨by rw [H3.out]; rfl, by rw [H3.out]; exact Tells.before (HE2.out.trans HE23.out) hTl.out⟩
      · have hk' : k = E.length := by omega
        have HK := Lib.hid hk'
        clear hk'
        go_wp2_with (fail)
        first | go_ret | (go_at_K; go_wp2_with (fail); go_ret)
        have := hTo.out
        rw [HK.out, List.take_length] at this
        exact ⟨by rw [this]; rfl, by rw [this]; exact Tells.before (HE2.out.trans HE23.out) hTl.out⟩
end Go.Proofs.YtanglcdiebkmiaaGreat
