/- Plain: an insertion below a page does what it ought to. -/
import Derived.Test.YtanglcdiebkmiaaGreatChg
set_option linter.unusedSimpArgs false
set_option linter.unusedVariables false
namespace Go.Proofs.YtanglcdiebkmiaaGreat
open Tw

/-- What stands where a tree stood: one tree, or two with an entry between them. -/
def Out (nd : Nat → Option Nd) (h id : Nat) (lo : Str) (hi : Option Str) (sep : Str) (right : Nat) (E : List Str) (I : List Nat) (m : Nat) : Prop :=
  (right = 0 ∧ Tw.Sub nd h id lo hi E I m) ∨
  (right ≠ 0 ∧ inS lo hi sep ∧ 1 ≤ sep.size ∧ sep.size ≤ 400 ∧ ∃ E1 I1 m1 E2 I2 m2, Tw.Sub nd h id lo (some sep) E1 I1 m1 ∧ Tw.Sub nd h right sep hi E2 I2 m2 ∧ E = E1 ++ E2 ∧ I = I1 ++ I2 ∧ m = m1 + m2 ∧ 2 ^ h ≤ m1 ∧ 2 ^ h ≤ m2)

/-- A node parted into two pages. -/
theorem lay2 {st : St} (hw : st.WF) {id : Nat} (hid : (st.get id).isSome) (hl : st.left ≠ 0) {p1 p2 : Pg} (h1 : p1.OK) (h2 : p2.OK) {I : List Nat} (hI : id ∈ I) (hn : I.Nodup) (hu : ∀ i ∈ I, (st.get i).isSome) :
    (st.put id p1).new.1 ≠ 0 ∧ (st.put id p1).new.1 ≠ id ∧ (st.put id p1).new.1 ∉ I ∧ Chg st I ((st.put id p1).new.2.put (st.put id p1).new.1 p2) (I ++ [(st.put id p1).new.1]) ∧
    (∀ i, ((st.put id p1).new.2.put (st.put id p1).new.1 p2).get i = if i = (st.put id p1).new.1 then some p2 else if i = id then some p1 else st.get i) ∧
    ((st.put id p1).new.2.put (st.put id p1).new.1 p2).used = st.used + 1 := by
  have hw1 := hw.put hid h1
  have hs := St.new_spec hw1
  have hu1 : ∀ i ∈ I, ((st.put id p1).get i).isSome := fun i hi => by
    rw [St.get_put hid]; split
    · rfl
    · exact hu i hi
  have hf : (st.put id p1).new.1 ∉ I := fun hm => by have := hu1 _ hm; rw [hs.2.1] at this; cases this
  have hne : (st.put id p1).new.1 ≠ id := fun e => hf (by rw [e]; exact hI)
  have hg : ((st.put id p1).new.2.get (st.put id p1).new.1).isSome := by rw [hs.2.2.1, if_pos rfl]; rfl
  have c := (((Chg.refl hw hn).put hI hid h1).new (by rw [St.left_put]; exact hl) hu1).put (id := (st.put id p1).new.1) (p := p2) (by simp) hg h2
  refine ⟨by omega, hne, hf, c, fun i => ?_, ?_⟩
  · rw [St.get_put hg, hs.2.2.1, St.get_put hid]
    split
    · rfl
    · rfl
  · rw [St.used_put, St.used_new hw1, St.used_put]

theorem getD_mem {l : List Str} {k : Nat} (h : k < l.length) : l.getD k ByteArray.empty ∈ l := by rw [getD_lt h]; exact List.getElem_mem h

theorem sorted_at {l : List Str} (hs : Sorted l) {k : Nat} (h : k < l.length) : (∀ x ∈ l.take k, slt x l[k] = true) ∧ (∀ x ∈ l.drop k, sle l[k] x) ∧ (∀ x ∈ l.drop (k + 1), slt l[k] x = true) := by
  have hd := List.drop_eq_getElem_cons h
  have hs' := hs
  rw [← List.take_append_drop k l, hd] at hs'
  obtain ⟨_, h2, h3⟩ := sorted_append.1 hs'
  refine ⟨fun x hx => h3 x hx l[k] List.mem_cons_self, fun x hx => ?_, fun x hx => (sorted_cons.1 h2).1 x hx⟩
  rw [hd] at hx
  rcases List.mem_cons.1 hx with rfl | hx
  · exact sle_refl _
  · exact sle_of_slt ((sorted_cons.1 h2).1 x hx)

theorem fin_leaf {st : St} {id : Nat} {lo : Str} {hi : Option Str} {R : List Str} {Q : Str → Nat → St → Prop} (hw : st.WF) (hid : (st.get id).isSome) (hsh : (⟨true, R, []⟩ : Nd).Shaped) (hsz : (⟨true, R, []⟩ : Nd).size ≤ 1432)
    (hb : ∀ s ∈ R, inB lo hi s) (hl : st.left ≠ 0)
    (HQ : ∀ sep right st' I', Out st'.node 0 id lo hi sep right R I' R.length → Chg st [id] st' I' → st'.used ≤ st.used + 1 → (∀ n, st'.node id = some n → n.leaf = true) → Q sep right st') :
    FinW st id ⟨true, R, []⟩ Q := by
  have hn1 : ([id] : List Nat).Nodup := by simp
  refine finW_of hid hsh hsz hl (fun hfit => ?_) (fun hbig k k1 k2 r1 r2 => ?_)
  · refine HQ _ 0 _ [id] (.inl ⟨rfl, _, by rw [St.node_put hid, if_pos rfl], ⟨hsh, hfit⟩, rfl, hb, rfl, rfl, rfl⟩) ((Chg.refl hw hn1).put (by simp) hid ⟨hsh, hfit⟩) (by rw [St.used_put]; omega) (fun n hn => by rw [St.node_put hid, if_pos rfl] at hn; cases hn; rfl)
  · have hsk : skipOf (⟨true, R, []⟩ : Nd) = 0 := rfl
    rw [hsk] at k2 r2 ⊢
    simp only [Nat.add_zero] at k2 r2 ⊢
    have hk : k < R.length := k2
    obtain ⟨a1, a2, a3, a4, a5, a6⟩ := lay2 (I := [id]) hw hid hl (p1 := .node (part ⟨true, R, []⟩ 0 k)) (p2 := .node (part ⟨true, R, []⟩ k R.length)) r1 r2 (by simp) hn1 (fun i hi => by rw [List.mem_singleton.1 hi]; exact hid)
    have hsp : R.getD k ByteArray.empty = R[k] := getD_lt hk
    obtain ⟨s1, s2, s3⟩ := sorted_at hsh.up hk
    refine HQ _ _ _ _ (.inr ⟨a1, ?_, ?_, ?_, R.take k, [id], k, R.drop k, [(st.put id (.node (part ⟨true, R, []⟩ 0 k))).new.1], R.length - k, ?_, ?_, by simp, rfl, by omega, by simpa using k1, by simp; omega⟩) a4 (by omega) (fun n hn => by
      have := St.node_some hn; rw [a5, if_neg (Ne.symm a2), if_pos rfl] at this; cases this; rfl)
    · rw [hsp]
      refine ⟨?_, (hb _ (List.getElem_mem hk)).2⟩
      have h0 : 0 < R.length := by omega
      exact slt_of_sle_of_slt (hb _ (List.getElem_mem h0)).1 ((List.pairwise_iff_getElem.1 hsh.up) 0 k h0 hk (by omega))
    · rw [hsp]; exact (hsh.one _ (List.getElem_mem hk)).1
    · rw [hsp]; exact (hsh.one _ (List.getElem_mem hk)).2
    · refine ⟨part ⟨true, R, []⟩ 0 k, St.node_get (by rw [a5, if_neg (Ne.symm a2), if_pos rfl]), r1, rfl, fun x hx => ?_, rfl, rfl, by simp [part]; omega⟩
      have hx' : x ∈ R.take k := hx
      exact ⟨(hb x (List.mem_of_mem_take hx')).1, fun h e => by cases e; rw [hsp]; exact s1 x hx'⟩
    · refine ⟨part ⟨true, R, []⟩ k R.length, St.node_get (by rw [a5, if_pos rfl]), r2, rfl, fun x hx => ?_, by simp [part], rfl, by simp [part]⟩
      have hx' : x ∈ R.drop k := by simpa [part] using hx
      exact ⟨by rw [hsp]; exact s2 x hx', (hb x (List.mem_of_mem_drop hx')).2⟩

theorem fin_inner {st : St} {id h : Nat} {lo : Str} {hi : Option Str} {m : Nd} {E : List Str} {I : List Nat} {ms : Nat} {Q : Str → Nat → St → Prop} (hw : st.WF) (hid : (st.get id).isSome) (hlf : m.leaf = false) (hsh : m.Shaped) (hsz : m.size ≤ 1432)
    (hk : Tw.Kids (Tw.Sub st.node h) (2 ^ h) lo hi m.recs m.kids E I ms) (hb : ∀ s ∈ m.recs, inS lo hi s) (hn : (id :: I).Nodup) (hl : st.left ≠ 0)
    (HQ : ∀ sep right st' I', Out st'.node (h + 1) id lo hi sep right E I' ms → Chg st (id :: I) st' I' → st'.used ≤ st.used + 1 → (∀ n, st'.node id = some n → n.recs ≠ []) → Q sep right st') (hne : m.recs ≠ []) :
    FinW st id m Q := by
  have hnid : id ∉ I := (List.nodup_cons.1 hn).1
  refine finW_of hid hsh hsz hl (fun hfit => ?_) (fun hbig k k1 k2 r1 r2 => ?_)
  · refine HQ _ 0 _ (id :: I) (.inl ⟨rfl, m, I, by rw [St.node_put hid, if_pos rfl], ⟨hsh, hfit⟩, hlf, hb, ?_, rfl⟩) ((Chg.refl hw hn).put (by simp) hid ⟨hsh, hfit⟩) (by rw [St.used_put]; omega) (fun n hn => by rw [St.node_put hid, if_pos rfl] at hn; cases hn; exact hne)
    exact hk.mono fun k lo hi E0 I0 m0 hs g => g.frame fun i hi => by
      rw [St.node_put hid, if_neg]; rintro rfl; exact hnid (hs i hi)
  · rw [(eachOf_inner hlf).2] at k2 r2 ⊢
    have hk0 : k < m.recs.length := by omega
    have hkl := hsh.ik hlf
    have hu : ∀ i ∈ id :: I, (st.get i).isSome := fun i hi => by
      rcases List.mem_cons.1 hi with rfl | hi
      · exact hid
      · exact Kids.inUse hk i hi
    obtain ⟨a1, a2, a3, a4, a5, a6⟩ := lay2 (I := id :: I) hw hid hl (p1 := .node (part m 0 k)) (p2 := .node (part m (k + 1) m.recs.length)) r1 r2 (by simp) hn hu
    have hsp : m.recs.getD k ByteArray.empty = m.recs[k] := getD_lt hk0
    obtain ⟨s1, s2, s3⟩ := sorted_at hsh.up hk0
    have hsm := List.getElem_mem hk0
    have e1 : m.recs = m.recs.take k ++ m.recs.drop k := (List.take_append_drop k _).symm
    have e2 : m.kids = m.kids.take (k + 1) ++ m.kids.drop (k + 1) := (List.take_append_drop (k + 1) _).symm
    rw [e1, e2] at hk
    obtain ⟨mid, E1, I1, m1, E2, I2, m2, g1, g2, rfl, rfl, rfl⟩ := Tw.Post.split (by rw [List.length_take, List.length_take]; omega) hk
    rw [List.drop_eq_getElem_cons hk0] at g2
    cases g2 with
    | more g2 =>
    have hfr : ∀ i ∈ I1 ++ I2, ((st.put id (.node (part m 0 k))).new.2.put (st.put id (.node (part m 0 k))).new.1 (.node (part m (k + 1) m.recs.length))).node i = st.node i := fun i hi => by
      refine node_congr ?_
      rw [a5, if_neg, if_neg]
      · rintro rfl; exact hnid hi
      · rintro rfl; exact a3 (List.mem_cons_of_mem _ hi)
    refine HQ _ _ _ ((id :: I1) ++ ((st.put id (.node (part m 0 k))).new.1 :: I2)) (.inr ⟨a1, by rw [hsp]; exact hb _ hsm, by rw [hsp]; exact (hsh.one _ hsm).1, by rw [hsp]; exact (hsh.one _ hsm).2, E1, id :: I1, m1, E2, _ :: I2, m2, ?_, ?_, rfl, rfl, rfl, ?_, ?_⟩) (a4.perm (List.Perm.refl _) ?_) (by omega) (fun n hn => by
      have := St.node_some hn; rw [a5, if_neg (Ne.symm a2), if_pos rfl] at this; cases this
      intro e; have hpl : (part m 0 k).recs.length = k := by simp [part]; omega
      rw [e] at hpl; simp at hpl; omega)
    · refine ⟨part m 0 k, I1, St.node_get (by rw [a5, if_neg (Ne.symm a2), if_pos rfl]), r1, hlf, fun x hx => ?_, ?_, rfl⟩
      · have hx' : x ∈ m.recs.take k := hx
        exact ⟨(hb x (List.mem_of_mem_take hx')).1, fun h e => by cases e; rw [hsp]; exact s1 x hx'⟩
      · rw [hsp]
        have : (part m 0 k).kids = m.kids.take (k + 1) := by simp [part, hlf]
        rw [this]
        exact g1.mono fun k lo hi E0 I0 m0 hs g => g.frame fun i hi => hfr i (List.mem_append_left _ (hs i hi))
    · refine ⟨part m (k + 1) m.recs.length, I2, St.node_get (by rw [a5, if_pos rfl]), r2, hlf, fun x hx => ?_, ?_, rfl⟩
      · have hx' : x ∈ m.recs.drop (k + 1) := by simpa [part] using hx
        exact ⟨by rw [hsp]; exact s3 x hx', (hb x (List.mem_of_mem_drop hx')).2⟩
      · rw [hsp]
        have e3 : (part m (k + 1) m.recs.length).kids = m.kids.drop (k + 1) := by
          simp only [part, hlf]; rw [if_neg (by simp), List.take_of_length_le (by omega)]
        have e4 : (part m (k + 1) m.recs.length).recs = m.recs.drop (k + 1) := by simp [part]
        rw [e3, e4]
        exact g2.mono fun k lo hi E0 I0 m0 hs g => g.frame fun i hi => hfr i (List.mem_append_right _ (hs i hi))
    · have := g1.mass
      rw [g1.len, List.length_take] at this
      have h2 : 2 * 2 ^ h ≤ (min k m.recs.length + 1) * 2 ^ h := Nat.mul_le_mul_right _ (by omega)
      rw [Nat.pow_succ]; omega
    · have := g2.mass
      rw [g2.len, List.length_drop] at this
      have h2 : 2 * 2 ^ h ≤ (m.recs.length - (k + 1) + 1) * 2 ^ h := Nat.mul_le_mul_right _ (by omega)
      rw [Nat.pow_succ]; omega
    · rw [List.cons_append, List.cons_append]
      refine List.Perm.cons _ ?_
      rw [List.append_assoc]
      exact List.Perm.append_left _ (List.perm_append_singleton _ _)

theorem mem_take_kidIx {l : List Str} {s x : Str} (hl : Sorted l) (h : x ∈ l.take (kidIx l s)) : sle x s := by
  unfold kidIx at h
  split at h
  · rename_i hb
    unfold hasB at hb
    obtain ⟨h1, h2⟩ := decide_eq_true_iff.1 hb
    rw [List.take_succ_eq_append_getElem h1] at h
    rcases List.mem_append.1 h with h | h
    · exact sle_of_slt (mem_take_below h)
    · rw [getD_lt h1] at h2
      rw [List.mem_singleton.1 h, h2]; exact sle_refl s
  · exact sle_of_slt (mem_take_below h)
theorem mem_drop_kidIx {l : List Str} {s x : Str} (hl : Sorted l) (h : x ∈ l.drop (kidIx l s)) : slt s x = true := by
  unfold kidIx at h
  split at h
  · rename_i hb
    unfold hasB at hb
    obtain ⟨h1, h2⟩ := decide_eq_true_iff.1 hb
    rw [getD_lt h1] at h2
    have := (sorted_at hl h1).2.2 x h
    rw [h2] at this; exact this
  · rename_i hb
    rcases sle_iff.1 (mem_drop_below hl h) with h1 | rfl
    · exact h1
    · exfalso
      have hm : s ∈ l := List.mem_of_mem_drop h
      exact hb ((hasB_iff hl).2 hm)

theorem Out.bound {nd : Nat → Option Nd} {h id : Nat} {lo : Str} {hi : Option Str} {sep : Str} {right : Nat} {E : List Str} {I : List Nat} {m : Nat} (o : Out nd h id lo hi sep right E I m) : Sorted E ∧ ∀ e ∈ E, inB lo hi e := by
  rcases o with ⟨_, o⟩ | ⟨_, hs, _, _, E1, I1, m1, E2, I2, m2, o1, o2, rfl, rfl, rfl, _⟩
  · exact o.bound
  · obtain ⟨a1, a2⟩ := o1.bound
    obtain ⟨b1, b2⟩ := o2.bound
    refine ⟨sorted_append.2 ⟨a1, b1, fun a ha b hb => slt_of_slt_of_sle ((a2 a ha).2 sep rfl) (b2 b hb).1⟩, fun e he => ?_⟩
    rcases List.mem_append.1 he with he | he
    · exact ⟨(a2 e he).1, fun x hx => slt_trans ((a2 e he).2 sep rfl) (hs.2 x hx)⟩
    · exact ⟨sle_trans (sle_of_slt hs.1) (b2 e he).1, (b2 e he).2⟩

theorem _root_.Tw.Pre.last {P : Nat → Str → Option Str → List Str → List Nat → Nat → Prop} {c : Nat} {lo mid r k E I m} (h : Tw.Pre P c lo mid r k E I m) : Sorted r → ∀ x ∈ r, sle x mid := by
  induction h with
  | nil => intro _ x hx; cases hx
  | @more lo mid s r k ks E1 I1 m1 E2 I2 m2 h g ih =>
    intro hs x hx
    rcases List.mem_cons.1 hx with rfl | hx
    · rcases g.mid with ⟨_, e⟩ | hm
      · rw [e]; exact sle_refl _
      · exact sle_of_slt ((sorted_cons.1 hs).1 _ hm)
    · exact ih (sorted_cons.1 hs).2 x hx
theorem _root_.Tw.Post.first {P : Nat → Str → Option Str → List Str → List Nat → Nat → Prop} {c : Nat} {mid hi r k E I m} (h : Tw.Post P c mid hi r k E I m) (hs : Sorted r) {lo s : Str} : ∀ x ∈ r, inS lo mid s → slt s x = true := by
  intro x hx hin
  cases h with
  | nil => cases hx
  | more g =>
    rcases List.mem_cons.1 hx with rfl | hx
    · exact hin.2 _ rfl
    · exact slt_trans (hin.2 _ rfl) ((sorted_cons.1 hs).1 x hx)

theorem inS_mid {lo : Str} {hi mid2 : Option Str} {mid x : Str} (h1 : sle lo mid) (h2 : ∀ h, hi = some h → ∃ m, mid2 = some m ∧ sle m h) (h : inS mid mid2 x) : inS lo hi x :=
  ⟨slt_of_sle_of_slt h1 h.1, fun y hy => by obtain ⟨m, hm, hl⟩ := h2 y hy; exact slt_of_slt_of_sle (h.2 m hm) hl⟩

theorem weigh_ins {l : List Str} {k : Nat} {x : Str} : weigh (ins l k x) = weigh l + (4 + x.size) := by
  unfold ins; rw [weigh_append, weigh_cons]; have := weigh_take_drop l k; omega

theorem ins_parts {α : Type} {l a b : List α} {k : Nat} {x : α} (h : l = a ++ b) (hk : a.length = k) : ins l k x = a ++ x :: b := by
  subst h; subst hk; unfold ins; rw [List.take_left, List.drop_left]

theorem Gap.ins {lo : Str} {hi : Option Str} {l : List Str} {s x : Str} (hl : Sorted l) (hb : ∀ r ∈ l, inS lo hi r)
    (h1 : ∀ r ∈ l.take (kidIx l s), slt r x = true) (h2 : ∀ r ∈ l.drop (kidIx l s), slt x r = true) : Sorted (Tw.ins l (kidIx l s) x) := by
  have h := hl; rw [← List.take_append_drop (kidIx l s) l] at h
  obtain ⟨a, b, c⟩ := sorted_append.1 h
  unfold Tw.ins
  refine sorted_append.2 ⟨a, sorted_cons.2 ⟨h2, b⟩, fun r hr q hq => ?_⟩
  rcases List.mem_cons.1 hq with rfl | hq
  · exact h1 r hr
  · exact c r hr q hq

set_option maxHeartbeats 1000000 in
/-- AN INSERTION BELOW A PAGE. -/
theorem ins_law {s : Str} (hs1 : 1 ≤ s.size) (hs2 : s.size ≤ 400) : ∀ (h : Nat) {st : St} {id : Nat} {lo : Str} {hi : Option Str} {E : List Str} {I : List Nat} {m : Nat} {Q : Str → Nat → St → Prop},
    Tw.Sub st.node h id lo hi E I m → st.WF → I.Nodup → h + 1 ≤ st.left → inB lo hi s → s ∉ E →
    (∀ sep right st' E' I' m', Out st'.node h id lo hi sep right E' I' m' → (∀ x, x ∈ E' ↔ x = s ∨ x ∈ E) → Chg st I st' I' → m' ≤ m + 1 → st'.used ≤ st.used + (h + 1) → ((∀ n, st.node id = some n → n.leaf = false → n.recs ≠ []) → ∀ n, st'.node id = some n → n.leaf = false → n.recs ≠ []) → Q sep right st') → InsW s h st id Q
  | 0, st, id, lo, hi, E, I, m, Q, ⟨n, hn, hr, hlf, hb, hE, hI, hm⟩, hw, hnd, hl, hin, hnE, HQ => by
    subst hE; subst hI; subst hm
    refine ⟨n, hn, hlf, ?_⟩
    have hkid := hr.shaped.lk hlf
    rw [hkid]
    have hidx : kidIx n.recs s = below n.recs s := by
      have hf : hasB n.recs s = false := by
        cases hh : hasB n.recs s with
        | false => rfl
        | true => exact absurd ((hasB_iff hr.shaped.up).1 hh) hnE
      unfold kidIx; rw [hf]; rfl
    rw [hidx]
    have hsz : n.size ≤ 1024 := hr.fits
    have hdef : n.size = 3 + 4 * n.kids.length + weigh n.recs := rfl
    have hw2 := weigh_ins (l := n.recs) (k := below n.recs s) (x := s)
    have hlen := length_ins (x := s) (below_le n.recs s)
    refine fin_leaf hw (node_isSome hn) ⟨fun _ => rfl, fun e => (by cases e), fun x hx => ?_, sorted_ins hr.shaped.up hnE, fun k hk => (by cases hk)⟩ ?_ (fun x hx => ?_) (by omega) (fun sep right st' I' o c u tp => HQ sep right st' _ I' _ o (fun x => mem_ins) c (by omega) (by omega) (fun _ n hn hl => by rw [tp n hn] at hl; cases hl))
    · rcases mem_ins.1 hx with rfl | hx
      · exact ⟨hs1, hs2⟩
      · exact hr.shaped.one x hx
    · unfold Nd.size; simp only [List.length_nil]; omega
    · rcases mem_ins.1 hx with rfl | hx
      · exact hin
      · exact hb x hx
  | h + 1, st, id, lo, hi, E, I, m, Q, ⟨n, I0, hn, hr, hlf, hb, hk, hI⟩, hw, hnd, hl, hin, hnE, HQ => by
    subst hI
    refine ⟨n, hn, hlf, ?_⟩
    have hik := hr.shaped.ik hlf
    have hkl := kidIx_le n.recs s
    have hka : kidIx n.recs s < n.kids.length := by omega
    have hgetD : n.kids.getD (kidIx n.recs s) 0 = n.kids[kidIx n.recs s] := by rw [List.getD_eq_getElem?_getD, List.getElem?_eq_getElem hka]; rfl
    rw [hgetD]
    have mt := fun x (hx : x ∈ n.recs.take (kidIx n.recs s)) => mem_take_kidIx (s := s) hr.shaped.up hx
    have md := fun x (hx : x ∈ n.recs.drop (kidIx n.recs s)) => mem_drop_kidIx (s := s) hr.shaped.up hx
    have gi := fun x => Gap.ins (x := x) (s := s) hr.shaped.up hb
    have er : n.recs = n.recs.take (kidIx n.recs s) ++ n.recs.drop (kidIx n.recs s) := (List.take_append_drop _ _).symm
    have ek : n.kids = n.kids.take (kidIx n.recs s) ++ n.kids[kidIx n.recs s] :: n.kids.drop (kidIx n.recs s + 1) := by
      rw [← List.drop_eq_getElem_cons hka, List.take_append_drop]
    have lr : (n.recs.take (kidIx n.recs s)).length = kidIx n.recs s := by rw [List.length_take]; omega
    have lk : (n.kids.take (kidIx n.recs s)).length = kidIx n.recs s := by rw [List.length_take]; omega
    generalize kidIx n.recs s = at_ at *
    generalize n.kids[at_] = kid at *
    generalize n.recs.take at_ = r1 at *
    generalize n.recs.drop at_ = r2 at *
    generalize n.kids.take at_ = k1 at *
    generalize n.kids.drop (at_ + 1) = k3 at *
    have hk' := hk
    rw [er, ek] at hk'
    obtain ⟨mid, E1, I1, m1, E2, I2, m2, p1, p2, rfl, rfl, rfl⟩ := Tw.Pre.split (by rw [lk, lr]) hk'
    obtain ⟨mid2, Ek, Ik, mk, Eb, Ib, mb, p3, p4, rfl, rfl, rfl⟩ := Tw.Post.split (r := []) (k := [kid]) rfl p2
    cases p3 with
    | @one _ _ _ _ _ mk p3 =>
    have hbr1 : ∀ x ∈ r1, inS lo hi x := fun x hx => hb x (by rw [er]; exact List.mem_append_left _ hx)
    have hbr2 : ∀ x ∈ r2, inS lo hi x := fun x hx => hb x (by rw [er]; exact List.mem_append_right _ hx)
    have hlomid : sle lo mid ∧ sle mid s := by
      rcases p1.mid with ⟨_, e⟩ | hm
      · rw [e]; exact ⟨sle_refl lo, hin.1⟩
      · exact ⟨sle_of_slt (hbr1 _ hm).1, mt _ hm⟩
    have hmidhi : (∀ y, hi = some y → ∃ z, mid2 = some z ∧ sle z y) ∧ (∀ z, mid2 = some z → slt s z = true) := by
      rcases p4.mid with ⟨_, e⟩ | ⟨z, hz, e⟩
      · rw [e]; exact ⟨fun y hy => ⟨y, hy, sle_refl y⟩, hin.2⟩
      · rw [e]; exact ⟨fun y hy => ⟨z, rfl, sle_of_slt ((hbr2 z hz).2 y hy)⟩, fun z' hz' => by cases hz'; exact md z hz⟩
    have hndk : (id :: I1 ++ Ik ++ Ib).Nodup := by rw [List.cons_append, List.cons_append, List.append_assoc]; exact hnd
    have huse : ∀ i, i ∈ id :: I1 ∨ i ∈ Ib → (st.get i).isSome := fun i hi => by
      have hu := Kids.inUse hk
      rcases hi with hi | hi
      · rcases List.mem_cons.1 hi with rfl | hi
        · exact node_isSome hn
        · exact hu i (List.mem_append_left _ hi)
      · exact hu i (List.mem_append_right _ (List.mem_append_right _ hi))
    have hIk : Ik.Nodup := by simp only [List.nodup_append] at hndk; exact hndk.1.2.1
    refine ins_law hs1 hs2 h p3 hw hIk (by omega) ⟨hlomid.2, hmidhi.2⟩ (fun hx => hnE (List.mem_append_right _ (List.mem_append_left _ hx))) (fun sep right st1 Ek' Ik' mk' o hE' c hmk hus _ => ?_)
    have cw := c.within hndk huse
    have hnid : id ∉ I1 ++ (Ik' ++ Ib) := by
      have := cw.nodup; rw [List.cons_append, List.cons_append, List.append_assoc] at this; exact (List.nodup_cons.1 this).1
    have hfrI : ∀ i, i ∈ id :: I1 ∨ i ∈ Ib → st1.node i = st.node i := fun i hi => by
      refine node_congr (c.frame i (fun x => ?_) (fun x => ?_))
      · simp only [List.nodup_append, List.mem_append] at hndk
        rcases hi with hi | hi
        · exact hndk.1.2.2 i hi i x rfl
        · exact hndk.2.2 i (.inr x) i hi rfl
      · have hh := cw.nodup
        simp only [List.nodup_append, List.mem_append] at hh
        rcases hi with hi | hi
        · exact hh.1.2.2 i hi i x rfl
        · exact hh.2.2 i (.inr x) i hi rfl
    have q1 : Tw.Pre (Tw.Sub st1.node h) (2 ^ h) lo mid r1 k1 E1 I1 m1 := p1.mono fun k lo hi E0 I0 m0 hs g => g.frame fun i hi => hfrI i (.inl (List.mem_cons_of_mem _ (hs i hi)))
    have q4 : Tw.Post (Tw.Sub st1.node h) (2 ^ h) mid2 hi r2 k3 Eb Ib mb := p4.mono fun k lo hi E0 I0 m0 hs g => g.frame fun i hi => hfrI i (.inr (hs i hi))
    have hidn : st1.node id = some n := (hfrI id (.inl (by simp))).trans hn
    have hmem : ∀ x, x ∈ E1 ++ (Ek' ++ Eb) ↔ x = s ∨ x ∈ E1 ++ (Ek ++ Eb) := fun x => by
      simp only [List.mem_append, hE']
      constructor
      · rintro (h | (h | h) | h)
        · exact .inr (.inl h)
        · exact .inl h
        · exact .inr (.inr (.inl h))
        · exact .inr (.inr (.inr h))
      · rintro (h | h | h | h)
        · exact .inr (.inl (.inl h))
        · exact .inl h
        · exact .inr (.inl (.inr h))
        · exact .inr (.inr h)
    rcases o with ⟨rfl, o⟩ | ⟨hr0, hsep, hs3, hs4, Ea, Ia, ma, Ec, Ic, mc, o1, o2, rfl, rfl, rfl, ho1, ho2⟩
    · rw [if_pos rfl]
      refine HQ _ 0 st1 (E1 ++ (Ek' ++ Eb)) (id :: (I1 ++ (Ik' ++ Ib))) (m1 + (max mk' (2 ^ h) + mb)) (.inl ⟨rfl, n, _, hidn, hr, hlf, hb, ?_, rfl⟩) hmem (by
        have := cw; simp only [List.cons_append, List.append_assoc] at this; exact this) (by omega) (by omega) (fun tp n' hn' hl => by rw [hidn] at hn'; cases hn'; exact tp _ hn hl)
      rw [er, ek]
      exact q1.join (Tw.Post.join (Tw.Kids.one o) q4)
    · rw [if_neg hr0]
      have e1 : Tw.ins n.recs at_ sep = r1 ++ ([sep] ++ r2) := ins_parts er lr
      have e2 : Tw.ins n.kids (at_ + 1) right = k1 ++ ([kid, right] ++ k3) := by
        have := ins_parts (l := n.kids) (a := k1 ++ [kid]) (b := k3) (x := right) (k := at_ + 1) (by rw [ek]; simp) (by simp [lk])
        rw [this]; simp
      have hkk : Tw.Kids (Tw.Sub st1.node h) (2 ^ h) lo hi (Tw.ins n.recs at_ sep) (Tw.ins n.kids (at_ + 1) right) (E1 ++ ((Ea ++ Ec) ++ Eb)) (I1 ++ ((Ia ++ Ic) ++ Ib)) (m1 + ((max ma (2 ^ h) + max mc (2 ^ h)) + mb)) := by
        rw [e1, e2]
        exact q1.join (Tw.Post.join (Tw.Kids.more o1 (Tw.Kids.one o2)) q4)
      have hright := St.WF.num c.wf (Sub.inUse o2 right o2.id_mem)
      have hsin : inS lo hi sep := inS_mid hlomid.1 hmidhi.1 hsep
      have hbm : ∀ x ∈ Tw.ins n.recs at_ sep, inS lo hi x := fun x hx => by
        rcases mem_ins.1 hx with rfl | hx
        · exact hsin
        · exact hb x hx
      have hup := gi sep (fun r hr' => by
          rcases p1.mid with ⟨e, _⟩ | hm
          · rw [e] at hr'; cases hr'
          · rcases sle_iff.1 (show sle r mid from by
                have hsr : Sorted (r1 ++ r2) := by rw [← er]; exact hr.shaped.up
                exact p1.last (sorted_append.1 hsr).1 r hr') with h1 | h1
            · exact slt_trans h1 hsep.1
            · rw [h1]; exact hsep.1)
        (fun r hr' => by
          have hsr : Sorted (r1 ++ r2) := by rw [← er]; exact hr.shaped.up
          exact p4.first (sorted_append.1 hsr).2.1 r hr' hsep)
      have hshm : (⟨false, Tw.ins n.recs at_ sep, Tw.ins n.kids (at_ + 1) right⟩ : Nd).Shaped := ⟨fun e => (by cases e), fun _ => (by
          rw [length_ins (by omega), length_ins (by omega)]; omega), fun x hx => (by
          rcases mem_ins.1 hx with rfl | hx
          · exact ⟨hs3, hs4⟩
          · exact hr.shaped.one x hx), hup, fun x hx => (by
          rcases mem_ins.1 hx with rfl | hx
          · exact hright
          · exact hr.shaped.kid x hx)⟩
      have hszm : (⟨false, Tw.ins n.recs at_ sep, Tw.ins n.kids (at_ + 1) right⟩ : Nd).size ≤ 1432 := by
        have hsz : n.size ≤ 1024 := hr.fits
        have hdef : n.size = 3 + 4 * n.kids.length + weigh n.recs := rfl
        unfold Nd.size
        simp only
        rw [length_ins (by omega), weigh_ins]; omega
      have hndm : (id :: (I1 ++ ((Ia ++ Ic) ++ Ib))).Nodup := by
        have := cw.nodup; simp only [List.cons_append, List.append_assoc] at this ⊢; exact this
      have hll : st1.left ≠ 0 := by unfold St.left at hl ⊢; rw [c.quota]; omega
      refine fin_inner c.wf (node_isSome hidn) rfl hshm hszm hkk hbm hndm hll (fun sep' right' st2 I2 o c2 u2 tp => HQ sep' right' st2 _ I2 _ o hmem ?_ ?_ ?_ (fun _ n hn _ => tp n hn)) (by simp only; unfold Tw.ins; simp)
      · refine Chg.trans (J := id :: (I1 ++ ((Ia ++ Ic) ++ Ib))) ?_ c2
        have := cw; simp only [List.cons_append, List.append_assoc] at this ⊢; exact this
      · omega
      · omega
end Go.Proofs.YtanglcdiebkmiaaGreat
