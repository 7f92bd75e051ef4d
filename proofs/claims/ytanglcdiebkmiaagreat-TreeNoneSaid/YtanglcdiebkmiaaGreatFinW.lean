/- Plain: what is laid at the end of an insertion fits: a node that is too great has a split whose parts are right. -/
import Derived.Test.YtanglcdiebkmiaaGreatWays
set_option linter.unusedSimpArgs false
set_option linter.unusedVariables false
namespace Go.Proofs.YtanglcdiebkmiaaGreat
open Tw

theorem weigh_take_drop (l : List Str) (k : Nat) : weigh (l.take k) + weigh (l.drop k) = weigh l := by
  rw [← weigh_append, List.take_append_drop]

theorem weigh_drop_succ {l : List Str} {k : Nat} (h : k < l.length) : weigh (l.drop k) = 4 + l[k].size + weigh (l.drop (k + 1)) := by
  rw [List.drop_eq_getElem_cons h, weigh_cons]

/-- The left side's weight. -/
def lside (n : Nd) (i : Nat) : Nat := weigh (n.recs.take i) + i * eachOf n
def rside (n : Nd) (i : Nat) : Nat := weigh (n.recs.drop i) + (n.recs.length - i) * eachOf n

theorem lside_succ {n : Nd} {i : Nat} (hi : i < n.recs.length) (h1 : ∀ s ∈ n.recs, s.size ≤ 400) : lside n (i + 1) ≤ lside n i + 404 + eachOf n := by
  unfold lside
  have := weigh_take_succ n.recs i hi
  have h2 := h1 _ (List.getElem_mem hi)
  rw [this, Nat.add_mul]; omega

theorem lr_total {n : Nd} {i : Nat} (hi : i ≤ n.recs.length) : lside n i + rside n i = weigh n.recs + n.recs.length * eachOf n := by
  unfold lside rside
  have := weigh_take_drop n.recs i
  have h2 : i * eachOf n + (n.recs.length - i) * eachOf n = n.recs.length * eachOf n := by rw [← Nat.add_mul]; congr 1; omega
  omega

theorem eachOf_le (n : Nd) : eachOf n ≤ 4 := by unfold eachOf; split <;> omega
theorem skipOf_le (n : Nd) : skipOf n ≤ 1 := by unfold skipOf; split <;> omega

/-- The first place from which on what is right of it is light. -/
theorem first_light {n : Nd} (h1 : ∀ s ∈ n.recs, s.size ≤ 400) (hT : 1017 < weigh n.recs + n.recs.length * eachOf n) (hM : weigh n.recs + n.recs.length * eachOf n ≤ 1430) :
    ∃ j, j < n.recs.length ∧ lside n j < 413 ∧ lside n (j + 1) ≤ 820 ∧ rside n (j + 1) ≤ 1017 := by
  have key : ∀ d j, n.recs.length - j = d → j ≤ n.recs.length → lside n j < weigh n.recs + n.recs.length * eachOf n - 1017 →
      ∃ j, j < n.recs.length ∧ lside n j < 413 ∧ lside n (j + 1) ≤ 820 ∧ rside n (j + 1) ≤ 1017 := by
    intro d
    induction d with
    | zero =>
      intro j hd hj hl
      have : j = n.recs.length := by omega
      subst this
      have := lr_total (n := n) (Nat.le_refl _)
      have h0 : rside n n.recs.length = 0 := by unfold rside; simp
      omega
    | succ d ih =>
      intro j hd hj hl
      have hjl : j < n.recs.length := by omega
      have hs := lside_succ hjl h1
      have he := eachOf_le n
      by_cases hc : lside n (j + 1) < weigh n.recs + n.recs.length * eachOf n - 1017
      · exact ih (j + 1) (by omega) (by omega) hc
      · have := lr_total (n := n) (i := j + 1) (by omega)
        exact ⟨j, hjl, by omega, by omega, by omega⟩
  exact key _ 0 rfl (Nat.zero_le _) (by unfold lside; simp; omega)

theorem side_eq {n : Nd} {i : Nat} : side n i = max (lside n i) (rside n (i + skipOf n)) := by
  unfold side lside rside; rw [Nat.sub_sub]

theorem good_split {n : Nd} (h1 : ∀ s ∈ n.recs, s.size ≤ 400) (hT : 1017 < weigh n.recs + n.recs.length * eachOf n) (hM : weigh n.recs + n.recs.length * eachOf n ≤ 1430) :
    ∃ k, 1 ≤ k ∧ k + skipOf n < n.recs.length ∧ side n k ≤ 1017 := by
  obtain ⟨j, hj, ha, hb, hc⟩ := first_light h1 hT hM
  have he := eachOf_le n
  have hk := skipOf_le n
  -- the end is heavy
  have hlen : ∀ i, i ≤ n.recs.length → lside n i ≤ 1017 → i < n.recs.length := fun i hi hl => by
    rcases Nat.lt_or_ge i n.recs.length with h | h
    · exact h
    · have : i = n.recs.length := by omega
      subst this
      have := lr_total (n := n) (Nat.le_refl _)
      have h0 : rside n n.recs.length = 0 := by unfold rside; simp
      omega
  have hj1 := hlen (j + 1) (by omega) (by omega)
  have mono : ∀ i, i < n.recs.length → rside n (i + 1) ≤ rside n i := fun i hi => by
    have a := lr_total (n := n) (i := i) (by omega)
    have b := lr_total (n := n) (i := i + 1) (by omega)
    have : lside n i ≤ lside n (i + 1) := by
      unfold lside; rw [weigh_take_succ n.recs i hi, Nat.add_mul]; omega
    omega
  rcases Nat.lt_or_ge (skipOf n) 1 with h0 | h0
  · have hs : skipOf n = 0 := by omega
    refine ⟨j + 1, by omega, by omega, ?_⟩
    rw [side_eq, hs]; exact Nat.max_le.2 ⟨by omega, hc⟩
  · have hs : skipOf n = 1 := by omega
    rcases Nat.lt_or_ge 0 j with hj0 | hj0
    · refine ⟨j, hj0, by omega, ?_⟩
      rw [side_eq, hs]; exact Nat.max_le.2 ⟨by omega, hc⟩
    · have : j = 0 := by omega
      subst this
      have z0 : lside n 0 = 0 := by unfold lside; simp
      have z1 : lside n 1 ≤ lside n 0 + 404 + eachOf n := lside_succ (n := n) (i := 0) (by omega) h1
      have z2 : lside n 2 ≤ lside n 1 + 404 + eachOf n := lside_succ (n := n) (i := 1) (by omega) h1
      have hj2 := hlen 2 (by omega) (by omega)
      refine ⟨1, by omega, by omega, ?_⟩
      rw [side_eq, hs]
      refine Nat.max_le.2 ⟨by omega, ?_⟩
      have := mono 1 (by omega)
      exact Nat.le_trans this hc

theorem part_shaped {n : Nd} (h : n.Shaped) {f t : Nat} (hf : f ≤ t) (ht : t ≤ n.recs.length) : (part n f t).Shaped where
  lk := fun hl => by unfold part at hl ⊢; simp at hl; simp [hl]
  ik := fun hl => by
    unfold part at hl ⊢
    simp only at hl
    have := h.ik hl
    simp only [hl]
    simp; omega
  one := fun s hs => h.one s (List.mem_of_mem_take (List.mem_of_mem_drop hs))
  up := List.Pairwise.sublist ((List.drop_sublist _ _).trans (List.take_sublist _ _)) h.up
  kid := fun k hk => by
    unfold part at hk
    simp only at hk
    split at hk
    · cases hk
    · exact h.kid k (List.mem_of_mem_take (List.mem_of_mem_drop hk))

theorem eachOf_leaf {n : Nd} (h : n.leaf = true) : eachOf n = 0 ∧ skipOf n = 0 := by unfold eachOf skipOf; simp [h]
theorem eachOf_inner {n : Nd} (h : n.leaf = false) : eachOf n = 4 ∧ skipOf n = 1 := by unfold eachOf skipOf; simp [h]

theorem part_size {n : Nd} (h : n.Shaped) {f t : Nat} (hf : f ≤ t) (ht : t ≤ n.recs.length) : (part n f t).size ≤ 7 + weigh ((n.recs.take t).drop f) + (t - f) * eachOf n ∧ (n.leaf = true → (part n f t).size ≤ 3 + weigh ((n.recs.take t).drop f)) := by
  unfold Nd.size part
  cases hl : n.leaf with
  | true => simp; omega
  | false =>
    have := h.ik hl
    rw [(eachOf_inner hl).1]
    simp; omega

theorem part_fits {n : Nd} (h : n.Shaped) {k : Nat} (hk : k + skipOf n < n.recs.length) (hs : side n k ≤ 1017) : (part n 0 k).size ≤ 1024 ∧ (part n (k + skipOf n) n.recs.length).size ≤ 1024 := by
  rw [side_eq] at hs
  have h1 := Nat.le_trans (Nat.le_max_left _ _) hs
  have h2 := Nat.le_trans (Nat.le_max_right _ _) hs
  have a := (part_size h (f := 0) (t := k) (by omega) (by omega)).1
  have b := (part_size h (f := k + skipOf n) (t := n.recs.length) (by omega) (by omega)).1
  unfold lside at h1
  unfold rside at h2
  rw [List.take_length] at b
  simp only [List.drop_zero, Nat.sub_zero] at a
  omega

/-- THE END OF AN INSERTION. -/
theorem finW_of {st : St} {id : Nat} {m : Nd} {Q : Str → Nat → St → Prop} (hid : (st.get id).isSome) (hsh : m.Shaped) (hsz : m.size ≤ 1432) (hleft : st.left ≠ 0)
    (hQ1 : m.size ≤ 1024 → Q ⟨#[]⟩ 0 (st.put id (.node m)))
    (hQ2 : ¬ m.size ≤ 1024 → ∀ k, 1 ≤ k → k + skipOf m < m.recs.length → (part m 0 k).Right → (part m (k + skipOf m) m.recs.length).Right →
      Q (m.recs.getD k ByteArray.empty) (st.put id (.node (part m 0 k))).new.1 ((st.put id (.node (part m 0 k))).new.2.put (st.put id (.node (part m 0 k))).new.1 (.node (part m (k + skipOf m) m.recs.length)))) :
    FinW st id m Q := by
  refine ⟨hsh, by omega, hid, hQ1, fun hbig => ?_⟩
  have hone : ∀ s ∈ m.recs, s.size ≤ 400 := fun s hs => (hsh.one s hs).2
  have hdef : m.size = 3 + 4 * m.kids.length + weigh m.recs := rfl
  have hT : 1017 < weigh m.recs + m.recs.length * eachOf m ∧ weigh m.recs + m.recs.length * eachOf m ≤ 1430 := by
    cases hl : m.leaf with
    | true => have := hsh.lk hl; rw [this] at hdef; rw [(eachOf_leaf hl).1]; simp at hdef; omega
    | false => have := hsh.ik hl; rw [(eachOf_inner hl).1]; omega
  obtain ⟨k0, g1, g2, g3⟩ := good_split hone hT.1 hT.2
  have hlen2 : 2 + skipOf m ≤ m.recs.length := by omega
  refine ⟨hlen2, fun k hb => ?_⟩
  obtain ⟨b1, b2, b3⟩ := hb
  have hs : side m k ≤ 1017 := Nat.le_trans (b3 k0 g1 g2) g3
  obtain ⟨f1, f2⟩ := part_fits hsh b2 hs
  have r1 : (part m 0 k).Right := ⟨part_shaped hsh (by omega) (by omega), f1⟩
  have r2 : (part m (k + skipOf m) m.recs.length).Right := ⟨part_shaped hsh (by omega) (Nat.le_refl _), f2⟩
  refine ⟨r1, r2, ?_, hQ2 hbig k b1 b2 r1 r2⟩
  have : (st.put id (.node (part m 0 k))).left = st.left := by unfold St.left St.used St.put; simp
  rw [this]; exact hleft
end Go.Proofs.YtanglcdiebkmiaaGreat
