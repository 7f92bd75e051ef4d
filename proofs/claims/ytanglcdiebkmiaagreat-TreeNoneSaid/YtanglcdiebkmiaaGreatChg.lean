/- Plain: how a part of the pages may turn. -/
import Derived.Test.YtanglcdiebkmiaaGreatFinW
set_option linter.unusedSimpArgs false
set_option linter.unusedVariables false
namespace Go.Proofs.YtanglcdiebkmiaaGreat
open Tw

/-- From st to st' a tree's pages I have become I'; all other pages are as they were. -/
structure Chg (st : St) (I : List Nat) (st' : St) (I' : List Nat) : Prop where
  wf : st'.WF
  quota : st'.quota = st.quota
  nodup : I'.Nodup
  old : ∀ i ∈ I', i ∈ I ∨ st.get i = none
  gone : ∀ i ∈ I, i ∉ I' → st'.get i = none
  frame : ∀ i, i ∉ I → i ∉ I' → st'.get i = st.get i
  used : st'.used + I.length = st.used + I'.length

theorem Chg.refl {st : St} (h : st.WF) {I : List Nat} (hn : I.Nodup) : Chg st I st I :=
  ⟨h, rfl, hn, fun i hi => .inl hi, fun i hi hn => absurd hi hn, fun _ _ _ => rfl, rfl⟩

theorem Chg.trans {a b c : St} {I J K : List Nat} (h : Chg a I b J) (g : Chg b J c K) : Chg a I c K where
  wf := g.wf
  quota := g.quota.trans h.quota
  nodup := g.nodup
  old := fun i hi => by
    rcases g.old i hi with h1 | h1
    · exact h.old i h1
    · by_cases hI : i ∈ I
      · exact .inl hI
      · by_cases hJ : i ∈ J
        · exact (h.old i hJ)
        · exact .inr (by rw [← h.frame i hI hJ]; exact h1)
  gone := fun i hi hn => by
    by_cases hJ : i ∈ J
    · exact g.gone i hJ hn
    · rw [g.frame i hJ hn]; exact h.gone i hi hJ
  frame := fun i hI hK => by
    by_cases hJ : i ∈ J
    · rw [g.gone i hJ hK]
      rcases h.old i hJ with h1 | h1
      · exact absurd h1 hI
      · exact h1.symm
    · rw [g.frame i hJ hK, h.frame i hI hJ]
  used := by have := h.used; have := g.used; omega

theorem Chg.perm {st st' : St} {I I' I1 I1' : List Nat} (h : Chg st I st' I') (p : I.Perm I1) (p' : I'.Perm I1') : Chg st I1 st' I1' where
  wf := h.wf
  quota := h.quota
  nodup := p'.nodup_iff.1 h.nodup
  old := fun i hi => (h.old i (p'.mem_iff.2 hi)).imp p.mem_iff.1 id
  gone := fun i hi hn => h.gone i (p.mem_iff.2 hi) (fun x => hn (p'.mem_iff.1 x))
  frame := fun i h1 h2 => h.frame i (fun x => h1 (p.mem_iff.1 x)) (fun x => h2 (p'.mem_iff.1 x))
  used := by have := h.used; rw [p.length_eq, p'.length_eq] at this; exact this

/-- A part of a tree turns: the whole does. -/
theorem Chg.within {st st' : St} {A K K' B : List Nat} (h : Chg st K st' K') (hn : (A ++ K ++ B).Nodup) (hu : ∀ i, i ∈ A ∨ i ∈ B → (st.get i).isSome) : Chg st (A ++ K ++ B) st' (A ++ K' ++ B) where
  wf := h.wf
  quota := h.quota
  nodup := by
    have hKA : ∀ i ∈ K', i ∉ A ∧ i ∉ B := fun i hi => by
      have hh := h.old i hi
      simp only [List.nodup_append, List.mem_append] at hn
      refine ⟨fun ha => ?_, fun hb => ?_⟩
      · rcases hh with hh | hh
        · exact hn.1.2.2 i ha i hh rfl
        · have := hu i (.inl ha); rw [hh] at this; cases this
      · rcases hh with hh | hh
        · exact hn.2.2 i (.inr hh) i hb rfl
        · have := hu i (.inr hb); rw [hh] at this; cases this
    simp only [List.nodup_append, List.mem_append] at hn ⊢
    refine ⟨⟨hn.1.1, h.nodup, fun a ha b hb e => ?_⟩, hn.2.1, fun a ha b hb e => ?_⟩
    · subst e; exact (hKA a hb).1 ha
    · subst e
      rcases ha with ha | ha
      · exact hn.2.2 a (.inl ha) a hb rfl
      · exact (hKA a ha).2 hb
  old := fun i hi => by
    simp only [List.mem_append] at hi ⊢
    rcases hi with (hi | hi) | hi
    · exact .inl (.inl (.inl hi))
    · exact (h.old i hi).imp (fun x => .inl (.inr x)) id
    · exact .inl (.inr hi)
  gone := fun i hi hx => by
    simp only [List.mem_append, not_or] at hi hx
    rcases hi with (hi | hi) | hi
    · exact absurd hi hx.1.1
    · exact h.gone i hi hx.1.2
    · exact absurd hi hx.2
  frame := fun i h1 h2 => by
    simp only [List.mem_append, not_or] at h1 h2
    exact h.frame i h1.1.2 h2.1.2
  used := by have := h.used; simp only [List.length_append]; omega

theorem St.used_put (st : St) (id : Nat) (p : Pg) : (st.put id p).used = st.used := by unfold St.used St.put; simp
theorem St.left_put (st : St) (id : Nat) (p : Pg) : (st.put id p).left = st.left := by unfold St.left; rw [St.used_put]; rfl

theorem Chg.put {st st' : St} {I I' : List Nat} (h : Chg st I st' I') {id : Nat} {p : Pg} (hi : id ∈ I') (hs : (st'.get id).isSome) (hp : p.OK) : Chg st I (st'.put id p) I' where
  wf := h.wf.put hs hp
  quota := h.quota
  nodup := h.nodup
  old := h.old
  gone := fun i h1 h2 => by rw [St.get_put hs, if_neg (show i ≠ id from by rintro rfl; exact h2 hi)]; exact h.gone i h1 h2
  frame := fun i h1 h2 => by rw [St.get_put hs, if_neg (show i ≠ id from by rintro rfl; exact h2 hi)]; exact h.frame i h1 h2
  used := by rw [St.used_put]; exact h.used

theorem St.used_new {st : St} (h : st.WF) : st.new.2.used = st.used + 1 := by
  have hle := h.freeLe
  unfold St.used St.new
  cases hf : st.free.getLast? with
  | none => have := List.getLast?_eq_none_iff.1 hf; simp [this]
  | some n =>
    have hn : st.free ≠ [] := by intro e; rw [e] at hf; cases hf
    have := List.length_pos_iff.2 hn
    simp; omega

theorem Chg.new {st st' : St} {I I' : List Nat} (h : Chg st I st' I') (hl : st'.left ≠ 0) (hu : ∀ i ∈ I', (st'.get i).isSome) : Chg st I st'.new.2 (I' ++ [st'.new.1]) := by
  have hs := St.new_spec h.wf
  have hf : st'.new.1 ∉ I' := fun hm => by have := hu _ hm; rw [hs.2.1] at this; cases this
  exact {
    wf := h.wf.new hl
    quota := hs.2.2.2.2.trans h.quota
    nodup := by
      refine List.nodup_append.2 ⟨h.nodup, by simp, fun a ha b hb e => ?_⟩
      have hb' : b = st'.new.1 := by simpa using hb
      subst e; subst hb'; exact hf ha
    old := fun i hi => by
      rcases List.mem_append.1 hi with hi | hi
      · exact h.old i hi
      · have hi' : i = st'.new.1 := by simpa using hi
        subst hi'
        by_cases hI : st'.new.1 ∈ I
        · exact .inl hI
        · exact .inr (by rw [← h.frame _ hI hf]; exact hs.2.1)
    gone := fun i h1 h2 => by
      simp only [List.mem_append, List.mem_singleton, not_or] at h2
      rw [hs.2.2.1, if_neg h2.2]; exact h.gone i h1 h2.1
    frame := fun i h1 h2 => by
      simp only [List.mem_append, List.mem_singleton, not_or] at h2
      rw [hs.2.2.1, if_neg h2.2]; exact h.frame i h1 h2.1
    used := by rw [St.used_new h.wf]; have := h.used; simp; omega }

/-- The number of a page in use is right. -/
theorem St.WF.num {st : St} (h : st.WF) {id : Nat} (hi : (st.get id).isSome) : 1 ≤ id ∧ id ≤ 4096 := by
  obtain ⟨p, hp⟩ := Option.isSome_iff_exists.1 hi
  have := St.get_some hp
  have := h.len
  omega

theorem St.node_get {st : St} {id : Nat} {n : Nd} (h : st.get id = some (.node n)) : st.node id = some n := by unfold St.node; rw [h]
theorem node_isSome {st : St} {id : Nat} {n : Nd} (h : st.node id = some n) : (st.get id).isSome := by rw [St.node_some h]; rfl
theorem St.node_put {st : St} {id i : Nat} {n : Nd} (h : (st.get id).isSome) : (st.put id (.node n)).node i = if i = id then some n else st.node i := by
  unfold St.node
  rw [St.get_put h]
  by_cases hi : i = id
  · rw [if_pos hi, if_pos hi]
  · rw [if_neg hi, if_neg hi]
theorem node_congr {st st' : St} {i : Nat} (h : st'.get i = st.get i) : st'.node i = st.node i := by unfold St.node; rw [h]

/-- A tree's pages are in use. -/
theorem Sub.inUse {st : St} : ∀ {h id lo hi E I m}, Tw.Sub st.node h id lo hi E I m → ∀ i ∈ I, (st.get i).isSome
  | 0, id, lo, hi, E, I, m, ⟨n, hn, _, _, _, _, hI, _⟩ => fun i hi => by
    rw [hI] at hi; have : i = id := by simpa using hi
    subst this; exact node_isSome hn
  | h + 1, id, lo, hi, E, I, m, ⟨n, I', hn, _, _, _, hk, hI⟩ => fun i hi => by
    have key : ∀ {lo hi r ks E I m}, Tw.Kids (Tw.Sub st.node h) (2 ^ h) lo hi r ks E I m → ∀ i ∈ I, (st.get i).isSome := by
      intro lo hi r ks E I m hk
      induction hk with
      | one hs => exact Sub.inUse hs
      | more hs _ ih =>
        intro i hi
        rcases List.mem_append.1 hi with hi | hi
        · exact Sub.inUse hs i hi
        · exact ih i hi
    rw [hI] at hi
    rcases List.mem_cons.1 hi with rfl | hi
    · exact node_isSome hn
    · exact key hk i hi

theorem Kids.inUse {st : St} {h : Nat} {lo hi r ks E I m} (hk : Tw.Kids (Tw.Sub st.node h) (2 ^ h) lo hi r ks E I m) : ∀ i ∈ I, (st.get i).isSome := by
  induction hk with
  | one hs => exact Sub.inUse hs
  | more hs _ ih =>
    intro i hi
    rcases List.mem_append.1 hi with hi | hi
    · exact Sub.inUse hs i hi
    · exact ih i hi
end Go.Proofs.YtanglcdiebkmiaaGreat
