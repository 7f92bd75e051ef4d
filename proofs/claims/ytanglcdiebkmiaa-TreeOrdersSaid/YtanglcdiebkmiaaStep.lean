/- Insert, whatever the text: one contract. Two trees in one arena. -/
import Derived.Test.YtanglcdiebkmiaaAwake
set_option linter.unusedSimpArgs false
set_option linter.unusedVariables false
namespace Go.Proofs.Ytanglcdiebkmiaa
open Go.RowKit Tw

theorem Kids.massT {st : St} {h : Nat} {lo hi r ks E I m} (hk : Tw.Kids (Tw.Sub st.node h) (2 ^ h) lo hi r ks E I m) : (r.length + 1) * 2 ^ h ≤ m := by
  have := hk.mass; rw [hk.len] at this; exact this

/-- A tree's height is small against its mass. -/
theorem TreeOK.mass {st : St} {root h : Nat} {E : List Str} {I : List Nat} {m : Nat} (t : TreeOK st root h E I m) : h = 0 ∨ 2 ^ h ≤ m := by
  cases h with
  | zero => exact .inl rfl
  | succ h =>
    obtain ⟨n, I', hn, hr, hl, hb, hk, hI⟩ := t.sub
    have h1 := t.top n hn hl
    have h2 := List.length_pos_iff.2 h1
    have h3 := Kids.massT hk
    have h4 : 2 * 2 ^ h ≤ (n.recs.length + 1) * 2 ^ h := Nat.mul_le_mul_right _ (by omega)
    exact .inr (by rw [Nat.pow_succ]; omega)

theorem TreeOK.low {st : St} {root h : Nat} {E : List Str} {I : List Nat} {m : Nat} (t : TreeOK st root h E I m) (hm : m ≤ 127) : h ≤ 6 := by
  rcases t.mass with h0 | h1
  · omega
  · rcases Nat.lt_or_ge h 7 with h2 | h2
    · omega
    · have : 2 ^ 7 ≤ 2 ^ h := Nat.pow_le_pow_right (by omega) h2
      omega

/-- May a text be an entry? -/
def Fit (s : Str) : Prop := 1 ≤ s.size ∧ s.size ≤ 400

/-- What an insertion of whatever text leaves, where there is room. -/
def AnyPost (T A : Nat) (F : Nat → Prop) (st : St) (E : List Str) (I : List Nat) (m : Nat) (h : Nat) (s : Str) (w : World) (e : Ending) (w' : World) : Prop :=
  ∃ (code : Int) (st' : St) (F' : Nat → Prop) (root' h' : Nat) (E' : List Str) (I' : List Nat) (m' : Nat), e = .returned (.int .i64 code) ∧ Arena w' A st' F' ∧ Ext (fun x => F x ∨ x = T) w w' ∧ Grow F F' w ∧ TreeAt w' T A root' (h' + 1) E'.length ∧
    TreeOK st' root' h' E' I' m' ∧ Chg st I st' I' ∧ (∀ x, x ∈ E' ↔ (x = s ∧ Fit s) ∨ x ∈ E) ∧ m' ≤ m + 1 ∧ st'.used ≤ st.used + (h + 2)

theorem Insert_any {T A root h : Nat} {F : Nat → Prop} {st : St} {s : Str} {E : List Str} {I : List Nat} {m : Nat} (w : World) (hT : TreeAt w T A root (h + 1) E.length) (hA : Arena w A st F) (hTF : ¬ F T) (t : TreeOK st root h E I m)
    (hl : h + 2 ≤ st.left) (hs : s.size ≤ maxLen) :
    Calls Try.prog 15 #[.pointer (some ⟨T, 0, none⟩), .string s] w (AnyPost T A F st E I m h s w) := by
  have hw := hA.wf
  by_cases hf : Fit s
  · by_cases hm : s ∈ E
    · refine (Insert_ok_there w hT hA t hm).mono fun e w' ⟨he, hx⟩ => ⟨3, st, F, root, h, E, I, m, he, hA.extNo hx, hx.ofNo, Grow.refl _ _, hx.heapNo hT, t, Chg.refl hw t.nodup, fun x => ⟨.inr, fun h => h.elim (fun h => h.1 ▸ hm) id⟩, by omega, by omega⟩
    · refine (Insert_ok w hT hA hTF t hf.1 hf.2 hm hl).mono fun e w' ⟨he, st', F', root', h', I', m', hA', hX, hG, hT', p⟩ => ?_
      have hlen : (ins E (below E s) s).length = E.length + 1 := length_ins (below_le _ _)
      exact ⟨0, st', F', root', h', ins E (below E s) s, I', m', he, hA', hX, hG, by rw [hlen]; exact hT', p.ok, p.chg, fun x => by rw [mem_ins]; exact ⟨fun h => h.imp (fun h => ⟨h, hf⟩) id, fun h => h.imp (fun h => h.1) id⟩, p.mass, p.used⟩
  · have hbad : s.size < 1 ∨ 400 < s.size := by unfold Fit at hf; omega
    refine (Insert_arg w hT hbad hs).mono fun e w' ⟨he, hx⟩ => ⟨15, st, F, root, h, E, I, m, he, hA.extNo hx, hx.ofNo, Grow.refl _ _, hx.heapNo hT, t, Chg.refl hw t.nodup, fun x => ⟨.inr, fun h => h.elim (fun h => absurd h.2 hf) id⟩, by omega, by omega⟩

theorem Chg.apart {st st' : St} {I I' K : List Nat} (c : Chg st I st' I') (hd : ∀ i ∈ K, i ∉ I) (hu : ∀ i ∈ K, (st.get i).isSome) : (∀ i ∈ K, i ∉ I') ∧ ∀ i ∈ K, st'.get i = st.get i := by
  have h1 : ∀ i ∈ K, i ∉ I' := fun i hi hm => by
    rcases c.old i hm with h | h
    · exact hd i hi h
    · have := hu i hi; rw [h] at this; cases this
  exact ⟨h1, fun i hi => c.frame i (hd i hi) (h1 i hi)⟩
end Go.Proofs.Ytanglcdiebkmiaa
