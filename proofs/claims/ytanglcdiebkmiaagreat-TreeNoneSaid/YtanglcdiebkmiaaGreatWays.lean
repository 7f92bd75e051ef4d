/- Plain: what Each tells of a tree: its entries from the bound on. -/
import Derived.Test.YtanglcdiebkmiaaGreatEach2
set_option linter.unusedSimpArgs false
set_option linter.unusedVariables false
namespace Go.Proofs.YtanglcdiebkmiaaGreat
open Tw

/-- The entries from frm on. -/
def ge (frm : Str) (E : List Str) : List Str := E.filter (fun e => !(slt e frm))

theorem ge_append (frm : Str) (a b : List Str) : ge frm (a ++ b) = ge frm a ++ ge frm b := by unfold ge; rw [List.filter_append]
theorem ge_nil_of {frm : Str} {E : List Str} (h : ∀ e ∈ E, slt e frm = true) : ge frm E = [] := by
  unfold ge; rw [List.filter_eq_nil_iff]; intro e he; simp [h e he]
theorem ge_all_of {frm : Str} {E : List Str} (h : ∀ e ∈ E, sle frm e) : ge frm E = E := by
  unfold ge; rw [List.filter_eq_self]; intro e he; have := h e he; unfold sle at this; simp [this]
theorem drop_below_ge {frm : Str} {E : List Str} (hE : Sorted E) : E.drop (below E frm) = ge frm E := by
  conv => rhs; rw [← List.take_append_drop (below E frm) E]
  rw [ge_append, ge_nil_of (fun e he => mem_take_below he), List.nil_append, ge_all_of (fun e he => mem_drop_below hE he)]

theorem below_cons_lt {s frm : Str} {r : List Str} (h : slt s frm = true) : below (s :: r) frm = below r frm + 1 := by
  unfold below; rw [List.takeWhile_cons, if_pos h]; rfl
theorem below_cons_ge {s frm : Str} {r : List Str} (h : slt s frm = false) : below (s :: r) frm = 0 := by
  unfold below; rw [List.takeWhile_cons, if_neg (by simp [h])]; rfl

theorem kidIx_lt {s frm : Str} {r : List Str} (h : slt s frm = true) : kidIx (s :: r) frm = kidIx r frm + 1 := by
  unfold kidIx hasB
  rw [below_cons_lt h]
  simp only [List.length_cons, List.getD_cons_succ, Nat.add_lt_add_iff_right]
  omega
theorem kidIx_eq {s : Str} {r : List Str} (hs : Sorted (s :: r)) : kidIx (s :: r) s = kidIx r s + 1 := by
  have h1 : below (s :: r) s = 0 := below_cons_ge (slt_irrefl s)
  have h2 : below r s = 0 := by
    cases r with
    | nil => rfl
    | cons a r => exact below_cons_ge (slt_asymm ((sorted_cons.1 hs).1 a (by simp)))
  unfold kidIx hasB
  rw [h1, h2]
  cases r with
  | nil => simp
  | cons a r =>
    have : a ≠ s := by rintro rfl; have := (sorted_cons.1 hs).1 a (by simp); rw [slt_irrefl] at this; cases this
    simp [this]
theorem kidIx_gt {s frm : Str} {r : List Str} (h : slt frm s = true) : kidIx (s :: r) frm = 0 := by
  unfold kidIx hasB
  rw [below_cons_ge (slt_asymm h)]
  have : s ≠ frm := by rintro rfl; rw [slt_irrefl] at h; cases h
  simp [this]

theorem all_ways {st : St} {frm : Str} {h : Nat} (H : ∀ {k lo hi E I m}, Tw.Sub st.node h k lo hi E I m → Ways st frm h k (ge frm E)) {c : Nat} {lo hi r ks E I m} (hk : Tw.Kids (Tw.Sub st.node h) c lo hi r ks E I m) :
    ∃ Es : List (List Str), Es.length = ks.length ∧ (∀ i (hi : i < ks.length), Ways st frm h ks[i] (Es.getD i [])) ∧ ge frm E = Es.flatten := by
  induction hk with
  | @one lo hi k E I m hs => exact ⟨[ge frm E], rfl, fun i hi => (by have h0 : i = 0 := (by simpa using hi); subst h0; exact H hs), by simp⟩
  | @more lo hi s r k ks E1 I1 m1 E2 I2 m2 hs _ ih =>
    obtain ⟨Es, h1, h2, h3⟩ := ih
    refine ⟨ge frm E1 :: Es, by simp [h1], fun i hi => ?_, by rw [ge_append, h3]; rfl⟩
    cases i with
    | zero => exact H hs
    | succ i => simpa using h2 i (by simpa using hi)

theorem kids_ways {st : St} {frm : Str} {h : Nat} (H : ∀ {k lo hi E I m}, Tw.Sub st.node h k lo hi E I m → Ways st frm h k (ge frm E)) {c : Nat} {lo hi r ks E I m} (hk : Tw.Kids (Tw.Sub st.node h) c lo hi r ks E I m) (hg : Gap lo hi r) :
    ∃ Es : List (List Str), Es.length = (ks.drop (kidIx r frm)).length ∧ (∀ i (hi : i < (ks.drop (kidIx r frm)).length), Ways st frm h (ks.drop (kidIx r frm))[i] (Es.getD i [])) ∧ ge frm E = Es.flatten := by
  induction hk with
  | @one lo hi k E I m hs =>
    obtain ⟨Es, h1, h2, h3⟩ := all_ways H (c := c) (Tw.Kids.one (P := Tw.Sub st.node h) hs)
    exact ⟨Es, h1, h2, h3⟩
  | @more lo hi s r k ks E1 I1 m1 E2 I2 m2 hs hk ih =>
    rcases slt_tri s frm with hlt | rfl | hgt
    · rw [kidIx_lt hlt]
      obtain ⟨Es, h1, h2, h3⟩ := ih hg.tail
      refine ⟨Es, h1, fun i hi => h2 i hi, ?_⟩
      rw [ge_append, h3, ge_nil_of (fun e he => slt_trans ((hs.bound.2 e he).2 s rfl) hlt)]; rfl
    · rw [kidIx_eq hg.1]
      obtain ⟨Es, h1, h2, h3⟩ := ih hg.tail
      refine ⟨Es, h1, fun i hi => h2 i hi, ?_⟩
      rw [ge_append, h3, ge_nil_of (fun e he => (hs.bound.2 e he).2 s rfl)]; rfl
    · rw [kidIx_gt hgt]
      exact all_ways H (Tw.Kids.more hs hk)
theorem Sub.ways {st : St} {frm : Str} : ∀ {h id lo hi E I m}, Tw.Sub st.node h id lo hi E I m → Ways st frm h id (ge frm E)
  | 0, id, lo, hi, E, I, m, ⟨n, hn, hr, hl, hb, hE, hI, hm⟩ => ⟨n, hn, hl, by rw [hE, drop_below_ge hr.shaped.up]⟩
  | h + 1, id, lo, hi, E, I, m, ⟨n, I', hn, hr, hl, hb, hk, hI⟩ => by
    obtain ⟨Es, h1, h2, h3⟩ := kids_ways (frm := frm) (fun hs => Sub.ways hs) hk ⟨hr.shaped.up, hb⟩
    exact ⟨n, hn, hl, Es, h1, h2, h3⟩

theorem ge_empty (E : List Str) : ge ⟨#[]⟩ E = E := ge_all_of fun e _ => by
  unfold sle
  cases h : slt e ⟨#[]⟩ with
  | false => rfl
  | true => have := (slt_iff _ _).1 h; simp at this

/-- All entries from frm on, up to a bound: what is told. -/
theorem tell_all (til : Str) (ht : til.toList = []) : ∀ (E l : List Str), tellAll (fun _ _ => true) til E l = (l ++ E, true)
  | [], l => by simp [tellAll]
  | s :: E, l => by rw [tellAll, past_nil ht]; simp [tell_all til ht E]

/-- Is an entry the first from itself on? -/
theorem headIs_ge {E : List Str} {s : Str} (hE : Sorted E) : headIs (ge s E) s = true ↔ s ∈ E := by
  constructor
  · intro h
    cases hg : ge s E with
    | nil => rw [hg] at h; cases h
    | cons x r =>
      rw [hg] at h
      have hx : x = s := by
        have := (beq_iff_eq.1 h); rw [Lib.toList_data, Lib.toList_data] at this; exact str_ext this
      subst hx
      have : x ∈ ge x E := by rw [hg]; simp
      exact (List.mem_filter.1 this).1
  · intro h
    have hm : s ∈ ge s E := List.mem_filter.2 ⟨h, by simp [slt_irrefl]⟩
    have hs : Sorted (ge s E) := List.Pairwise.filter _ hE
    cases hg : ge s E with
    | nil => rw [hg] at hm; cases hm
    | cons x r =>
      rw [hg] at hm hs
      rcases List.mem_cons.1 hm with rfl | hr
      · exact beq_self_eq_true _
      · have h1 := (sorted_cons.1 hs).1 s hr
        have h2 : x ∈ ge s E := by rw [hg]; simp
        have h3 := (List.mem_filter.1 h2).2
        rw [h1] at h3; cases h3
end Go.Proofs.YtanglcdiebkmiaaGreat
