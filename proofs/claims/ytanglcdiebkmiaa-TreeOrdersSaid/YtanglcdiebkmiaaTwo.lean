/- Two trees in one arena into which texts are put. -/
import Derived.Test.YtanglcdiebkmiaaSame
set_option linter.unusedSimpArgs false
set_option linter.unusedVariables false
namespace Go.Proofs.Ytanglcdiebkmiaa
open Go.RowKit Tw

/-- Two trees T, U in one arena, made since w0: into T were put the texts D1, into U those of D2. -/
def TwoT (w0 : World) (A T U : Nat) (D1 D2 : List Str) (F : Nat → Prop) (w : World) : Prop :=
  ∃ st r1 h1 E1 I1 m1 r2 h2 E2 I2 m2, Since w0 w A st F ∧ w0.heap.size ≤ T ∧ w0.heap.size ≤ U ∧ ¬ F T ∧ ¬ F U ∧ T ≠ U ∧ TreeAt w T A r1 (h1 + 1) (List.length E1) ∧ TreeAt w U A r2 (h2 + 1) (List.length E2) ∧
    TreeOK st r1 h1 E1 I1 m1 ∧ TreeOK st r2 h2 E2 I2 m2 ∧ (∀ i ∈ I2, i ∉ I1) ∧ (∀ x, x ∈ E1 ↔ Fit x ∧ x ∈ D1) ∧ (∀ x, x ∈ E2 ↔ Fit x ∧ x ∈ D2) ∧ m1 ≤ D1.length ∧ m2 ≤ D2.length ∧ st.used ≤ 2 + 8 * (D1.length + D2.length) ∧ st.quota = 4000

theorem TwoT.symm {w0 w : World} {A T U : Nat} {D1 D2 : List Str} {F : Nat → Prop} (h : TwoT w0 A T U D1 D2 F w) : TwoT w0 A U T D2 D1 F w := by
  obtain ⟨st, r1, h1, E1, I1, m1, r2, h2, E2, I2, m2, a1, a2, a3, a4, a5, a6, a7, a8, a9, b1, b2, b3, b4, b5, b6, b7, b8⟩ := h
  exact ⟨st, r2, h2, E2, I2, m2, r1, h1, E1, I1, m1, a1, a3, a2, a5, a4, a6.symm, a8, a7, b1, a9, fun i hi hm => b2 i hm hi, b4, b3, b6, b5, by omega, b8⟩

theorem TwoT.more {w0 w w' : World} {A T U : Nat} {D1 D2 : List Str} {F : Nat → Prop} (h : TwoT w0 A T U D1 D2 F w) (hx : Ext No w w') : TwoT w0 A T U D1 D2 F w' := by
  obtain ⟨st, r1, h1, E1, I1, m1, r2, h2, E2, I2, m2, a1, a2, a3, a4, a5, a6, a7, a8, r⟩ := h
  exact ⟨st, r1, h1, E1, I1, m1, r2, h2, E2, I2, m2, a1.more hx, a2, a3, a4, a5, a6, hx.heapNo a7, hx.heapNo a8, r⟩
/-- Another block is written. -/
theorem TwoT.other {w0 w w' : World} {A T U : Nat} {D1 D2 : List Str} {F G : Nat → Prop} (h : TwoT w0 A T U D1 D2 F w) (hx : Ext G w w') (hG : ∀ k, G k → w0.heap.size ≤ k ∧ ¬ F k ∧ k ≠ T ∧ k ≠ U) : TwoT w0 A T U D1 D2 F w' := by
  obtain ⟨st, r1, h1, E1, I1, m1, r2, h2, E2, I2, m2, a1, a2, a3, a4, a5, a6, a7, a8, r⟩ := h
  exact ⟨st, r1, h1, E1, I1, m1, r2, h2, E2, I2, m2, ⟨a1.hA.ext hx (fun k f g => (hG k g).2.1 f), a1.hx.trans' hx (fun x hx g => by have := (hG x g).1; omega), a1.hF⟩, a2, a3, a4, a5, a6, hx.heap a7 (fun g => (hG _ g).2.2.1 rfl), hx.heap a8 (fun g => (hG _ g).2.2.2 rfl), r⟩

def TwoPost (w0 : World) (A T U : Nat) (D1 D2 : List Str) (F : Nat → Prop) (X : Nat) (w : World) (e : Ending) (w' : World) : Prop :=
  ∃ (code : Int) (F' : Nat → Prop), e = .returned (.int .i64 code) ∧ TwoT w0 A T U D1 D2 F' w' ∧ Ext (fun x => F x ∨ x = X) w w' ∧ Grow F F' w

theorem TwoT.put {w0 w : World} {A T U : Nat} {D1 D2 : List Str} {F : Nat → Prop} (h : TwoT w0 A T U D1 D2 F w) (l1 : D1.length < 120) (l2 : D2.length ≤ 120) {s : Str} (hs : s.size ≤ maxLen) :
    Calls Try.prog 15 #[.pointer (some ⟨T, 0, none⟩), .string s] w (TwoPost w0 A T U (D1 ++ [s]) D2 F T w) := by
  obtain ⟨st, r1, h1, E1, I1, m1, r2, h2, E2, I2, m2, a1, a2, a3, a4, a5, a6, a7, a8, a9, b1, b2, b3, b4, b5, b6, b7, b8⟩ := h
  have hlow := a9.low (by omega)
  have hl : h1 + 2 ≤ st.left := by unfold St.left; omega
  refine (Insert_any w a7 a1.hA a4 a9 hl hs).mono ?_
  rintro e w' ⟨code, st', F', root', h', E', I', m', rfl, hA', hX, hG, hT', ok, c, hE', hm', hu'⟩
  have ap := c.apart b2 (Sub.inUse b1.sub)
  have hU1 : ¬ (F U ∨ U = T) := fun f => f.elim a5 (fun f => a6 f.symm)
  refine ⟨code, F', rfl, ⟨st', root', h', E', I', m', r2, h2, E2, I2, m2, a1.step a2 hA' hX hG, a2, a3, Grow.not hG a4 (lt_of_heap a7), Grow.not hG a5 (lt_of_heap a8), a6, hT', hX.heap a8 hU1, ok, b1.frame ap.2, ap.1, fun x => ?_, b4, ?_, b6, ?_, c.quota.trans b8⟩, hX, hG⟩
  · rw [hE', b3, List.mem_append, List.mem_singleton]
    constructor
    · rintro (⟨rfl, h⟩ | ⟨h, k⟩)
      · exact ⟨h, .inr rfl⟩
      · exact ⟨h, .inl k⟩
    · rintro ⟨h, k | rfl⟩
      · exact .inr ⟨h, k⟩
      · exact .inl ⟨rfl, h⟩
  · rw [List.length_append, List.length_singleton]; omega
  · rw [List.length_append, List.length_singleton]; omega

theorem TwoT.putU {w0 w : World} {A T U : Nat} {D1 D2 : List Str} {F : Nat → Prop} (h : TwoT w0 A T U D1 D2 F w) (l1 : D1.length ≤ 120) (l2 : D2.length < 120) {s : Str} (hs : s.size ≤ maxLen) :
    Calls Try.prog 15 #[.pointer (some ⟨U, 0, none⟩), .string s] w (TwoPost w0 A T U D1 (D2 ++ [s]) F U w) :=
  (h.symm.put l2 l1 hs).mono fun e w' ⟨code, F', he, ht, hx, hg⟩ => ⟨code, F', he, ht.symm, hx, hg⟩

/-- Both were just made. -/
theorem TwoT.start {w0 w1 w2 w3 : World} {A T U root1 root2 : Nat} {F1 F2 F3 : Nat → Prop} {st2 st3 : St} (s1 : Since w0 w1 A (St.empty 4000) F1) (f1 : Fresh (St.empty 4000) st2 root1) (hA2 : Arena w2 A st2 F2) (x2 : Ext F1 w1 w2) (g2 : Grow F1 F2 w1) (t2 : ¬ F2 T) (hT : TreeAt w2 T A root1 1 0) (l2 : w1.heap.size ≤ T)
    (f2 : Fresh st2 st3 root2) (hA3 : Arena w3 A st3 F3) (x3 : Ext F2 w2 w3) (g3 : Grow F2 F3 w2) (t3 : ¬ F3 U) (hU : TreeAt w3 U A root2 1 0) (l3 : w2.heap.size ≤ U) : TwoT w0 A T U [] [] F3 w3 := by
  have s2 := s1.stepA hA2 x2 g2
  have s3 := s2.stepA hA3 x3 g3
  have hTl := lt_of_heap hT
  have u1 := f1.chg.used
  have u2 := f2.chg.used
  have q1 := f1.chg.quota
  have q2 := f2.chg.quota
  have hroot : ∀ i ∈ [root1], i ∉ [root2] := fun i hi hm => by
    rw [List.mem_singleton.1 hi] at hm
    rcases f2.chg.old root1 hm with h | h
    · cases h
    · have := Sub.inUse f1.ok.sub root1 (by simp); rw [h] at this; cases this
  refine ⟨st3, root1, 0, [], [root1], 0, root2, 0, [], [root2], 0, s3, Nat.le_trans s1.hx.size l2, Nat.le_trans s2.hx.size l3, Grow.not g3 t2 hTl, t3, by omega, x3.heap hT t2, hU, f1.ok.frame (fun i hi => f2.chg.frame i (by simp) (hroot i hi)), f2.ok, fun i hi hm => hroot i hm hi, by simp, by simp, by simp, by simp, ?_, ?_⟩
  · simp only [List.length_nil, List.length_singleton] at *
    have : (St.empty 4000).used = 0 := rfl
    omega
  · rw [q2, q1]; rfl

/-- The same texts were put into both, in whatever order: the same entries are there. -/
theorem TwoT.same {w0 w : World} {A T U : Nat} {D1 D2 : List Str} {F : Nat → Prop} (h : TwoT w0 A T U D1 D2 F w) (hp : ∀ x, x ∈ D1 ↔ x ∈ D2) :
    ∃ st r1 h1 r2 h2 E I1 I2 m1 m2, Since w0 w A st F ∧ TreeAt w T A r1 (h1 + 1) (List.length E) ∧ TreeAt w U A r2 (h2 + 1) (List.length E) ∧ TreeOK st r1 h1 E I1 m1 ∧ TreeOK st r2 h2 E I2 m2 := by
  obtain ⟨st, r1, h1, E1, I1, m1, r2, h2, E2, I2, m2, a1, a2, a3, a4, a5, a6, a7, a8, a9, b1, b2, b3, b4, b5, b6, b7, b8⟩ := h
  have he : E1 = E2 := sorted_ext a9.sorted b1.sorted fun x => by rw [b3, b4, hp]
  subst he
  exact ⟨st, r1, h1, r2, h2, E1, I1, I2, m1, m2, a1, a7, a8, a9, b1⟩
end Go.Proofs.Ytanglcdiebkmiaa
