/- A tree: its entries and pages; Insert, Has, Each in these words. -/
import Derived.Test.YtanglcdiebkmiaaGreatIns4
set_option linter.unusedSimpArgs false
set_option linter.unusedVariables false
namespace Go.Proofs.YtanglcdiebkmiaaGreat
open Go.RowKit Tw

/-- A TREE: its root's page, its height (0: a leaf), its entries, its pages, its mass. -/
structure TreeOK (st : St) (root h : Nat) (E : List Str) (I : List Nat) (m : Nat) : Prop where
  sub : Tw.Sub st.node h root ⟨#[]⟩ none E I m
  nodup : I.Nodup
  top : ∀ n, st.node root = some n → n.leaf = false → n.recs ≠ []

theorem Kids.count {nd : Nat → Option Nd} {h : Nat} (H : ∀ {id lo hi E I m}, Tw.Sub nd h id lo hi E I m → h + 1 ≤ I.length ∧ E.length ≤ 1024 * I.length) {lo hi r ks E I m} (hk : Tw.Kids (Tw.Sub nd h) (2 ^ h) lo hi r ks E I m) : h + 1 ≤ I.length ∧ E.length ≤ 1024 * I.length := by
  induction hk with
  | one hs => exact H hs
  | more hs _ ih =>
    have := H hs
    simp only [List.length_append]; omega
theorem Sub.count {nd : Nat → Option Nd} : ∀ {h id lo hi E I m}, Tw.Sub nd h id lo hi E I m → h + 1 ≤ I.length ∧ E.length ≤ 1024 * I.length
  | 0, id, lo, hi, E, I, m, ⟨n, _, hr, _, _, hE, hI, _⟩ => by
    have h1 := length_le_weigh n.recs
    have h2 := hr.fits
    have h3 : n.size = 3 + 4 * n.kids.length + weigh n.recs := rfl
    rw [hI, hE]; simp; omega
  | h + 1, id, lo, hi, E, I, m, ⟨n, I', _, hr, _, _, hk, hI⟩ => by
    have := Kids.count (fun hs => Sub.count hs) hk
    rw [hI]; simp only [List.length_cons]; omega

theorem pages_le {st : St} (hw : st.WF) {I : List Nat} (hn : I.Nodup) (hu : ∀ i ∈ I, (st.get i).isSome) : I.length ≤ 4096 := by
  have := nodup_le (l := I) (m := List.range' 1 4096) hn fun i hi => by
    have := St.WF.num hw (hu i hi); rw [List.mem_range']; exact ⟨i - 1, by omega, by omega⟩
  simpa using this

theorem TreeOK.small {st : St} {root h : Nat} {E : List Str} {I : List Nat} {m : Nat} (t : TreeOK st root h E I m) (hw : st.WF) : h < 4096 ∧ E.length ≤ 4194304 := by
  have h1 := Sub.count t.sub
  have h2 := pages_le hw t.nodup (Sub.inUse t.sub)
  omega
theorem TreeOK.sorted {st : St} {root h : Nat} {E : List Str} {I : List Nat} {m : Nat} (t : TreeOK st root h E I m) : Sorted E := t.sub.bound.1
theorem TreeOK.ways {st : St} {root h : Nat} {E : List Str} {I : List Nat} {m : Nat} (t : TreeOK st root h E I m) (frm : Str) : Ways st frm h root (ge frm E) := Sub.ways t.sub
theorem TreeOK.frame {st st' : St} {root h : Nat} {E : List Str} {I : List Nat} {m : Nat} (t : TreeOK st root h E I m) (H : ∀ i ∈ I, st'.get i = st.get i) : TreeOK st' root h E I m :=
  ⟨t.sub.frame fun i hi => node_congr (H i hi), t.nodup, fun n hn => t.top n (by rw [← hn]; exact (node_congr (H root t.sub.id_mem)).symm)⟩

theorem inB_all (s : Str) : inB ⟨#[]⟩ none s := ⟨by
  unfold sle
  cases h : slt s ⟨#[]⟩ with
  | false => rfl
  | true => have := (slt_iff _ _).1 h; simp at this, fun _ h => by cases h⟩

/-- What a new entry leaves. -/
structure Put (st : St) (root h : Nat) (E : List Str) (I : List Nat) (m : Nat) (s : Str) (st' : St) (root' h' : Nat) (I' : List Nat) (m' : Nat) : Prop where
  ok : TreeOK st' root' h' (ins E (below E s) s) I' m'
  chg : Chg st I st' I'
  mass : m' ≤ m + 1
  used : st'.used ≤ st.used + (h + 2)

theorem rootW {st : St} {root h : Nat} {E : List Str} {I : List Nat} {m : Nat} (t : TreeOK st root h E I m) (hw : st.WF) {s : Str} (h1 : 1 ≤ s.size) (h2 : s.size ≤ 400) (hs : s ∉ E) (hl : h + 2 ≤ st.left) :
    RootW s h st root (fun st' => ∃ I' m', Put st root h E I m s st' root h I' m') (fun r st' => ∃ I' m', Put st root h E I m s st' r (h + 1) I' m') := by
  refine ins_law h1 h2 h t.sub hw t.nodup (by omega) (inB_all s) hs (fun sep right st' E' I' m' o hE' c hm hu tp => ?_)
  have hEe : E' = ins E (below E s) s := sorted_ext o.bound.1 (sorted_ins t.sorted hs) (fun x => by rw [hE', mem_ins])
  subst hEe
  rcases o with ⟨rfl, o⟩ | ⟨hr0, hsep, hs3, hs4, E1, I1, m1, E2, I2, m2, o1, o2, he, rfl, rfl, ho1, ho2⟩
  · show if (0 : Nat) = 0 then _ else _
    rw [if_pos rfl]
    exact ⟨I', m', ⟨o, c.nodup, tp t.top⟩, c, hm, by omega⟩
  · show if right = 0 then _ else _
    rw [if_neg hr0]
    have hll : st'.left ≠ 0 := by unfold St.left at hl ⊢; rw [c.quota]; omega
    have hu1 : ∀ i ∈ I1 ++ I2, (st'.get i).isSome := fun i hi => by
      rcases List.mem_append.1 hi with hi | hi
      · exact Sub.inUse o1 i hi
      · exact Sub.inUse o2 i hi
    have hnum1 := St.WF.num c.wf (Sub.inUse o1 root o1.id_mem)
    have hnum2 := St.WF.num c.wf (Sub.inUse o2 right o2.id_mem)
    have hR : (⟨false, [sep], [root, right]⟩ : Nd).Right := ⟨⟨fun e => (by cases e), fun _ => rfl, fun x hx => (by rw [List.mem_singleton.1 hx]; exact ⟨hs3, hs4⟩), List.pairwise_singleton _ _, fun k hk => (by
        rcases List.mem_cons.1 hk with rfl | hk
        · exact hnum1
        · rw [List.mem_singleton.1 hk]; exact hnum2)⟩, by unfold Nd.size; simp; omega⟩
    refine ⟨hll, hR, ?_⟩
    have hs := St.new_spec c.wf
    have hg : (st'.new.2.get st'.new.1).isSome := by rw [hs.2.2.1, if_pos rfl]; rfl
    have cc := (c.new hll hu1).put (id := st'.new.1) (p := .node ⟨false, [sep], [root, right]⟩) (by simp) hg hR
    have hf : st'.new.1 ∉ I1 ++ I2 := fun hm => by have := hu1 _ hm; rw [hs.2.1] at this; cases this
    have hfr : ∀ i ∈ I1 ++ I2, (st'.new.2.put st'.new.1 (.node ⟨false, [sep], [root, right]⟩)).node i = st'.node i := fun i hi => by
      have hne : i ≠ st'.new.1 := fun e => hf (e ▸ hi)
      refine node_congr ?_
      rw [St.get_put hg, if_neg hne, hs.2.2.1, if_neg hne]
    have hnn : (st'.new.2.put st'.new.1 (.node ⟨false, [sep], [root, right]⟩)).node st'.new.1 = some ⟨false, [sep], [root, right]⟩ := by rw [St.node_put hg, if_pos rfl]
    have p : (I1 ++ I2 ++ [st'.new.1]).Perm (st'.new.1 :: (I1 ++ I2)) := List.perm_append_singleton _ _
    have hss : ∀ x ∈ [sep], inS ⟨#[]⟩ none x := fun x hx => by rw [List.mem_singleton.1 hx]; exact hsep
    refine ⟨st'.new.1 :: (I1 ++ I2), max m1 (2 ^ h) + max m2 (2 ^ h), ⟨⟨_, I1 ++ I2, hnn, hR, rfl, hss, ?_, rfl⟩, p.nodup_iff.1 cc.nodup, fun n hn _ => ?_⟩, cc.perm (List.Perm.refl _) p, by omega, by rw [St.used_put, St.used_new c.wf]; omega⟩
    · rw [he]
      exact Tw.Kids.more (o1.frame fun i hi => hfr i (List.mem_append_left _ hi)) (Tw.Kids.one (o2.frame fun i hi => hfr i (List.mem_append_right _ hi)))
    · rw [hnn] at hn; cases hn; simp

/-- What a call that puts an entry leaves in memory. -/
def PutPost (T A : Nat) (F : Nat → Prop) (st : St) (root h : Nat) (E : List Str) (I : List Nat) (m : Nat) (s : Str) (w : World) (e : Ending) (w' : World) : Prop :=
  e = .returned (.int .i64 0) ∧ ∃ st' F' root' h' I' m', Arena w' A st' F' ∧ Ext (fun x => F x ∨ x = T) w w' ∧ Grow F F' w ∧ TreeAt w' T A root' (h' + 1) (E.length + 1) ∧ Put st root h E I m s st' root' h' I' m'

theorem Insert_ok {T A root h : Nat} {F : Nat → Prop} {st : St} {s : Str} {E : List Str} {I : List Nat} {m : Nat} (w : World) (hT : TreeAt w T A root (h + 1) E.length) (hA : Arena w A st F) (hTF : ¬ F T) (t : TreeOK st root h E I m)
    (h1 : 1 ≤ s.size) (h2 : s.size ≤ 400) (hs : s ∉ E) (hl : h + 2 ≤ st.left) :
    Calls Tryz.prog 21 #[.pointer (some ⟨T, 0, none⟩), .string s] w (PutPost T A F st root h E I m s w) := by
  have hsm := t.small hA.wf
  have hi : headIs (ge s E) s = false := by
    cases hh : headIs (ge s E) s with
    | false => rfl
    | true => exact absurd ((headIs_ge t.sorted).1 hh) hs
  refine (Insert_new w hT hA hTF h1 h2 (t.ways s) hi (by omega) (by omega) hl (rootW t hA.wf h1 h2 hs hl)).mono ?_
  rintro e w' ⟨rfl, st', F', root', h', hA', hX, hG, hT', hQ⟩
  refine ⟨rfl, ?_⟩
  rcases hQ with ⟨rfl, rfl, I', m', p⟩ | ⟨rfl, I', m', p⟩
  · exact ⟨st', F', _, h, I', m', hA', hX, hG, hT', p⟩
  · exact ⟨st', F', _, h + 1, I', m', hA', hX, hG, hT', p⟩

theorem Insert_ok_there {T A root h : Nat} {F : Nat → Prop} {st : St} {s : Str} {E : List Str} {I : List Nat} {m : Nat} (w : World) (hT : TreeAt w T A root (h + 1) E.length) (hA : Arena w A st F) (t : TreeOK st root h E I m)
    (hs : s ∈ E) : Calls Tryz.prog 21 #[.pointer (some ⟨T, 0, none⟩), .string s] w (Gives (.int .i64 3) w) := by
  have hz := t.sub.sizes s hs
  exact Insert_there w hT hA hz.1 hz.2 (t.ways s) ((headIs_ge t.sorted).2 hs)

theorem Insert_ok_quota {T A root h : Nat} {F : Nat → Prop} {st : St} {s : Str} {E : List Str} {I : List Nat} {m : Nat} (w : World) (hT : TreeAt w T A root (h + 1) E.length) (hA : Arena w A st F) (t : TreeOK st root h E I m)
    (h1 : 1 ≤ s.size) (h2 : s.size ≤ 400) (hs : s ∉ E) (hl : st.left < h + 2) : Calls Tryz.prog 21 #[.pointer (some ⟨T, 0, none⟩), .string s] w (Gives (.int .i64 9) w) := by
  have hsm := t.small hA.wf
  have hi : headIs (ge s E) s = false := by
    cases hh : headIs (ge s E) s with
    | false => rfl
    | true => exact absurd ((headIs_ge t.sorted).1 hh) hs
  exact Insert_quota w hT hA h1 h2 (t.ways s) hi (by omega) hl
end Go.Proofs.YtanglcdiebkmiaaGreat
