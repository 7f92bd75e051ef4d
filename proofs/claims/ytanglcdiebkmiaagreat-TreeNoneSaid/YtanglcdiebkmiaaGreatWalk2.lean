/- Each: walk.node at any height, stops. -/
import Derived.Test.YtanglcdiebkmiaaGreatWalk1
set_option linter.unusedSimpArgs false
set_option linter.unusedVariables false
namespace Go.Proofs.YtanglcdiebkmiaaGreat
open Go.RowKit Tw

abbrev JT := List Str → (Nat → Prop) → World → Prop
def NodeSaid (V T A root hh kk : Nat) (F : Nat → Prop) (fv : Value) (P : List Str → Str → Prop) (go : List Str → Str → Bool) (J : JT) (st : St) (frm til : Str) (h : Nat) : Prop :=
  ∀ (id : Nat) (E l : List Str) (G : Nat → Prop) (w : World), Ways st frm h id E → Asked P l E → J l G w → WCtx V T A root hh kk F st frm til fv G w → Calls Tryz.prog 81 #[.pointer (some ⟨V, 0, none⟩), .int .i64 id] w (NodePost J G w (tellAll go til E l))

theorem ret_bool {a b : Bool} (h : a = b) : Ending.returned (.bool a) = .returned (.bool b) := by rw [h]

def StopsPost (J : JT) (G : Nat → Prop) (w : World) (r : List Str × Bool) (e : Ending) (w' : World) : Prop := e = .returned (.bool (!r.2)) ∧ Tells J r.1 G w w'

theorem stops_of {V T A root hh kk h : Nat} {F G : Nat → Prop} {fv : Value} {P : List Str → Str → Prop} {go : List Str → Str → Bool} {J : JT} {st : St} {frm til : Str} (H : NodeSaid V T A root hh kk F fv P go J st frm til h)
    (id : Nat) (E l : List Str) (w : World) (hw : Ways st frm h id E) (hP : Asked P l E) (hJ : J l G w) (X : WCtx V T A root hh kk F st frm til fv G w) :
    Calls Tryz.prog 112 #[.pointer (some ⟨V, 0, none⟩), .int .i64 id] w (StopsPost J G w (tellAll go til E l)) := by
  have HN := Lib.hid (H id E l G w hw hP hJ X)
  clear H hw hP hJ X
  generalize tellAll go til E l = r at *
  obtain ⟨r1, r2⟩ := r
  go_enter Tryz.func112, Tryz.ntmps112
  go_wp2_with (fail)
  refine HN.out.mono ?_
  rintro e w1 ⟨rfl, ht⟩
  have HT := Lib.hid ht
  clear ht
  go_wp2_with (fail)
  go_ret
  exact ⟨rfl, HT.out⟩

theorem tell_stop {go : List Str → Str → Bool} {til : Str} {a b l : List Str} (h : (tellAll go til a l).2 = false) : tellAll go til (a ++ b) l = tellAll go til a l := by rw [tellAll_append, h]; simp
theorem tell_on {go : List Str → Str → Bool} {til : Str} {a b l : List Str} (h : (tellAll go til a l).2 = true) : tellAll go til (a ++ b) l = tellAll go til b (tellAll go til a l).1 := by rw [tellAll_append, h]; simp

theorem flat_take_succ {Es : List (List Str)} {i : Nat} (h : i < Es.length) : (Es.take (i + 1)).flatten = (Es.take i).flatten ++ Es.getD i [] := by
  rw [List.take_succ_eq_append_getElem h, List.flatten_append]
  simp [List.getD_eq_getElem?_getD, List.getElem?_eq_getElem h]

theorem asked_kid {P : List Str → Str → Prop} {go : List Str → Str → Bool} {til : Str} {Es : List (List Str)} {l : List Str} {k : Nat} (h : Asked P l Es.flatten) (hk : k < Es.length) (h1 : (tellAll go til (Es.take k).flatten l).2 = true) :
    Asked P (tellAll go til (Es.take k).flatten l).1 (Es.getD k []) := by
  intro pre s suf he
  have ht : (tellAll go til (Es.take k).flatten l).1 = l ++ (Es.take k).flatten := tell_true (Prod.ext rfl h1)
  rw [ht, List.append_assoc]
  refine h _ s (suf ++ (Es.drop (k + 1)).flatten) ?_
  rw [← List.cons_append, List.append_assoc, ← List.append_assoc pre, ← he, ← List.append_assoc, ← flat_take_succ hk, ← List.flatten_append, List.take_append_drop]

/-- The kids, one behind the other. -/
def KidsJ (go : List Str → Str → Bool) (til : Str) (J : JT) (Es : List (List Str)) (l : List Str) (G : Nat → Prop) (W : World) (i : Nat) (w : World) : Prop :=
  (tellAll go til (Es.take i).flatten l).2 = true ∧ Tells J (tellAll go til (Es.take i).flatten l).1 G W w
def KidsStop (go : List Str → Str → Bool) (til : Str) (J : JT) (Es : List (List Str)) (l : List Str) (G : Nat → Prop) (W : World) (i : Nat) (w : World) : Prop :=
  (tellAll go til Es.flatten l).2 = false ∧ Tells J (tellAll go til Es.flatten l).1 G W w

/-- What the search among the kids comes to. -/
def KidsPost (go : List Str → Str → Bool) (til : Str) (J : JT) (Es : List (List Str)) (l : List Str) (G : Nat → Prop) (W : World) (e : Ending) (w : World) : Prop :=
  e = .returned (.bool (!(tellAll go til Es.flatten l).2)) ∧ Tells J (tellAll go til Es.flatten l).1 G W w

theorem kids_search {V T A root hh kk h : Nat} {F G : Nat → Prop} {fv : Value} {P : List Str → Str → Prop} {go : List Str → Str → Bool} {J : JT} {st : St} {frm til : Str} {ks : List Nat} {Es : List (List Str)} {a : Option Addr} {c : Nat} {l : List Str} (W : World)
    (H : NodeSaid V T A root hh kk F fv P go J st frm til h) (hlen : Es.length = ks.length) (hE : ∀ i (hi : i < ks.length), Ways st frm h ks[i] (Es.getD i [])) (hk : ks.length ≤ 1000000) (hrow : RowAt W a (ks.map i64)) (ha : ∀ k, Blk a k → ¬ G k) (hP : Asked P l Es.flatten) (hJ : J l G W) (X : WCtx V T A root hh kk F st frm til fv G W) :
    Calls Tryz.prog 111 #[.slice a ks.length c, .func (.func 112) #[.pointer (some ⟨V, 0, none⟩)] #[]] W (KidsPost go til J Es l G W) := by
  refine (ContainsFunc_ok (g := 112) (a := a) (c := c) (xs := ks) #[.pointer (some ⟨V, 0, none⟩)] #[] W (KidsJ go til J Es l G W) (KidsStop go til J Es l G W) (fun args w => by kernel_rfl) hk
    (fun k w hw => by obtain ⟨_, _, _, x, _⟩ := hw; exact hrow.ext x ha) (fun k hk w hw => ?_) ⟨by simp [tellAll], by simpa [tellAll] using Tells.refl hJ⟩).mono ?_
  · obtain ⟨h1, G1, h2, x1, g1⟩ := hw
    have hs := stops_of H ks[k] (Es.getD k []) _ w (hE k hk) (asked_kid hP (by omega) h1) h2 (X.next x1 g1)
    have hk' : k < Es.length := by omega
    have hfl := flat_take_succ hk'
    refine hs.mono fun e w' ⟨he, ht⟩ => ?_
    have hon := tell_on (til := til) (go := go) (b := Es.getD k []) h1
    rw [← hfl] at hon
    rw [← hon] at he ht
    have ht := Tells.trans x1 g1 ht
    refine ⟨_, he, fun hb => ?_, fun hb => ⟨by simpa using hb, ht⟩⟩
    have hb' : (tellAll go til (Es.take (k + 1)).flatten l).2 = false := by simpa using hb
    have hall : tellAll go til Es.flatten l = tellAll go til (Es.take (k + 1)).flatten l := by
      have := tell_stop (b := (Es.drop (k + 1)).flatten) hb'
      rw [← List.flatten_append, List.take_append_drop] at this
      exact this
    exact ⟨by rw [hall]; exact hb', by rw [hall]; exact ht⟩
  · rintro e w' (⟨k, hk, rfl, h1, h2⟩ | ⟨rfl, h1, h2⟩)
    · exact ⟨by rw [h1]; rfl, h2⟩
    · rw [← hlen, List.take_length] at h1 h2
      exact ⟨by rw [h1]; rfl, h2⟩

theorem kids_drop {n : Nd} {base rc kc b : Nat} {ra ka : Option Addr} {w : World} (h : NodeRows n base w ra rc ka kc) :
    RowAt w (Option.map (fun x => x.add b) ka) ((n.kids.drop b).map i64) ∧ ∀ k, Blk (Option.map (fun x => x.add b) ka) k → base ≤ k ∧ k < w.heap.size := by
  cases hka : ka with
  | none =>
    rcases ownsRow_form h.2 with _
    rcases h.2.2 with ⟨h0, h1⟩ | ⟨gg, cap, cur, h0, _⟩
    · refine ⟨.inl ?_, fun k hk => ?_⟩
      · rw [List.drop_eq_nil_of_le (by omega)]; rfl
      · obtain ⟨p, hp, _⟩ := hk; cases hp
    · rw [hka] at h0; cases h0
  | some p =>
    have h3 := h.nodeIn.kids
    refine ⟨?_, fun k hk => ?_⟩
    · rcases h.2.2 with ⟨h0, h1⟩ | ⟨gg, cap, cur, h0, _⟩
      · rw [hka] at h0; cases h0
      · rw [hka] at h0 h3; cases h0
        have := RowAt.drop h3 b
        rw [← List.map_drop] at this
        rw [Option.map_some, Addr.add_lit]; exact this
    · obtain ⟨q, hq, rfl⟩ := hk
      cases hq
      rw [add_block]
      exact h.blkK (k := p.block) ⟨p, hka, rfl⟩

set_option maxRecDepth 10000 in
set_option maxHeartbeats 2000000 in
theorem node_inner {g V T A root hh kk h : Nat} {first caps : Array Value} {F : Nat → Prop} {P : List Str → Str → Prop} {go : List Str → Str → Bool} {J : JT} {st : St} {frm til : Str}
    (C : CB g first caps P go J) (H : NodeSaid V T A root hh kk F (.func (.func g) first caps) P go J st frm til h) : NodeSaid V T A root hh kk F (.func (.func g) first caps) P go J st frm til (h + 1) := by
  intro id E l G w hW hP hJ X
  obtain ⟨n, hn, hl, Es, hEl, hE, rfl⟩ := hW
  have hr : n.Right := X.hA.wf.ok _ _ (St.node_some hn)
  have hL := tload_ok w X.hT X.hA hn
  have hV0 := X.hV
  have v0 : w.cell? ⟨V, 0, none⟩ = some (.pointer (some ⟨T, 0, none⟩)) := (cell_at hV0 0).trans rfl
  have hik := hr.shaped.ik hl
  have hkl := kidIx_le n.recs frm
  have hsz : n.size ≤ 1024 := hr.fits
  have hdef : n.size = 3 + 4 * n.kids.length + weigh n.recs := rfl
  have hS := fun W (a : Option Addr) c hrow ha hj hx => kids_search (G := G) (J := J) (a := a) (c := c) (til := til) (l := l) W H hEl hE (by rw [List.length_drop]; omega) hrow ha hP hj hx
  have HS := Lib.hid hS
  have HL := Lib.hid hL
  have HV0 := Lib.hid hV0
  have HLF := Lib.hid hl
  have HR := Lib.hid hr
  have HX := Lib.hid X
  have HC := Lib.hid C
  have HJ := Lib.hid hJ
  have HIK := Lib.hid hik
  clear hS hL hV0 hl hr X C hJ hn hEl hE H hik hdef hP
  go_enter Tryz.func81, Tryz.ntmps81
  go_wp2_with (fail)
  refine HL.out.mono ?_
  rintro e w1 ⟨ra, rc, ka, kc, rfl, hrows, he1⟩
  unfold nodeVal
  rw [HLF.out]
  obtain ⟨W2, hW2⟩ : ∃ W2, W2 = w1.alloc (.cells #[.bool false, .slice ra n.recs.length rc, .slice ka n.kids.length kc] 79) := ⟨_, rfl⟩
  obtain ⟨NB, hNB⟩ : ∃ NB, NB = w1.heap.size := ⟨_, rfl⟩
  have hM : W2.heap[NB]? = some (.cells #[.bool false, .slice ra n.recs.length rc, .slice ka n.kids.length kc] 79 (0, 0)) := by rw [hW2, hNB]; exact heap_alloc_new _ _
  have e12 : Ext No w1 W2 := by rw [hW2]; exact (Ext.refl No w1).alloc _
  have hr2 := hrows.on e12 (fun x f => f.elim) (Nat.le_refl _)
  have hF := fun w' (he : Ext No W2 w') => Kid_ok (rc := rc) (kc := kc) (s := frm) w' (hr2.nodeIn.extNo he) HR.out.shaped.up (by have := length_le_weigh n.recs; have := HR.out.fits; have : n.size = 3 + 4 * n.kids.length + weigh n.recs := rfl; omega)
  unfold nodeVal at hF
  rw [HLF.out] at hF
  have e2 := he1.trans e12
  have hV2 := e2.heapNo HV0.out
  have m0 : W2.cell? ⟨NB, 0, none⟩ = some (.bool false) := (cell_at hM 0).trans rfl
  have m1 : W2.cell? ⟨NB, 1, none⟩ = some (.slice ra n.recs.length rc) := (cell_at hM 1).trans rfl
  have m2 : W2.cell? ⟨NB, 2, none⟩ = some (.slice ka n.kids.length kc) := (cell_at hM 2).trans rfl
  have v1 : W2.cell? ⟨V, 1, none⟩ = some (.string frm) := (cell_at hV2 1).trans rfl
  have HF := Lib.hid hF
  have HM := Lib.hid hM
  have HR2 := Lib.hid hr2
  have HE2 := Lib.hid e2
  have HNW := Lib.hid (show w.heap.size ≤ NB by rw [hNB]; exact he1.size)
  have HW2 := Lib.hid hW2
  have HNB := Lib.hid hNB
  have hkc : n.kids.length ≤ kc := by obtain ⟨_, _, h, h2, _⟩ := ownsRow_form hr2.2; cases h; exact h2
  have hkb : kidIx n.recs frm < n.kids.length := by have := HIK.out; omega
  clear hF hM hr2 e12 e2 hrows he1 hW2 hNB hV2 v0
  go_upto_region 2 with (fail)
  rw [← HW2.out, ← HNB.out]
  go_wp2_with (fail)
  generalize kidIx n.recs frm = b at *
  have q1 : (0 : Int) ≤ (b : Int) := by omega
  have q2 : (b : Int) ≤ (kc : Int) := by omega
  have q3 : (b : Int) ≤ (n.kids.length : Int) := by omega
  have q4 : ¬ kc = b := by omega
  go_region_held3 (fun w' => w'.cell? ⟨NB, 0, none⟩ = some (.bool false) ∧ w'.cell? ⟨NB, 1, none⟩ = some (.slice ra n.recs.length rc) ∧ w'.cell? ⟨NB, 2, none⟩ = some (.slice ka n.kids.length kc) ∧ w'.cell? ⟨V, 1, none⟩ = some (.string frm)) (first | go_keep) (first
    | (go_at_call 70; refine (HF.out _ (Ext.refl No W2).drew).mono ?_; rintro e w3 ⟨rfl, he3⟩; have e23 := (Ext.refl No W2).drew.trans he3; have hM3 := e23.heapNo HM.out; have hV3 := (HE2.out.trans e23).heapNo HV0.out; have m0 : w3.cell? ⟨NB, 0, none⟩ = some (.bool false) := (cell_at hM3 0).trans rfl; have m1 : w3.cell? ⟨NB, 1, none⟩ = some (.slice ra n.recs.length rc) := (cell_at hM3 1).trans rfl; have m2 : w3.cell? ⟨NB, 2, none⟩ = some (.slice ka n.kids.length kc) := (cell_at hM3 2).trans rfl; have v1 : w3.cell? ⟨V, 1, none⟩ = some (.string frm) := (cell_at hV3 1).trans rfl; have HE23 := Lib.hid e23; have HM3 := Lib.hid hM3; have HV3 := Lib.hid hV3; clear he3 e23 hM3 hV3)
    | (go_at_call 111; have hD := kids_drop (b := b) (HR2.out.on HE23.out (fun x f => f.elim) (Nat.le_refl _)); rw [show n.kids.length - b = (n.kids.drop b).length from by simp]; have hS4 := HS.out w3 _ (kc - b) hD.1 (fun q hq f => by have h1 := HC.out.lt _ _ _ HJ.out q f; have h2 := (hD.2 q hq).1; omega) (HC.out.more _ _ _ _ HJ.out (HE2.out.trans HE23.out)) (HX.out.more (HE2.out.trans HE23.out)); refine hS4.mono ?_; rintro e w4 ⟨rfl, ht4⟩; obtain ⟨G4, _, he4, _⟩ := ht4.and; have hM4 := he4.heap HM3.out (fun f => by have h1 := HC.out.lt _ _ _ HJ.out _ f; have h2 := HNW.out; omega); have hV4 := he4.heap HV3.out HX.out.hVG; have m0 : w4.cell? ⟨NB, 0, none⟩ = some (.bool false) := (cell_at hM4 0).trans rfl; have m1 : w4.cell? ⟨NB, 1, none⟩ = some (.slice ra n.recs.length rc) := (cell_at hM4 1).trans rfl; have m2 : w4.cell? ⟨NB, 2, none⟩ = some (.slice ka n.kids.length kc) := (cell_at hM4 2).trans rfl; have v1 : w4.cell? ⟨V, 1, none⟩ = some (.string frm) := (cell_at hV4 1).trans rfl; have HT4 := Lib.hid ht4; clear hD hS4 ht4 he4 hM4 hV4))
  all_goals
    first | go_ret | (go_wp2_with (fail); go_ret)
    exact ⟨ret_bool (by simp), Tells.before (HE2.out.trans HE23.out) HT4.out⟩

theorem node_all {g V T A root hh kk : Nat} {first caps : Array Value} {F : Nat → Prop} {P : List Str → Str → Prop} {go : List Str → Str → Bool} {J : JT} {st : St} {frm til : Str}
    (C : CB g first caps P go J) : ∀ h, NodeSaid V T A root hh kk F (.func (.func g) first caps) P go J st frm til h
  | 0 => fun id E l G w hW hP hJ X => by
    obtain ⟨n, hn, hl, rfl⟩ := hW
    exact node_leaf C hn hl l w hP hJ X
  | h + 1 => node_inner C (node_all C h)
end Go.Proofs.YtanglcdiebkmiaaGreat
