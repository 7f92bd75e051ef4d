/- Plain words on a tree's nodes: sizes, the shape of a tree below a page, segments of an inner node's kids. -/
import Derived.Test.YtanglcdiebkmiaaGreatBt0
set_option linter.unusedSimpArgs false
set_option linter.unusedVariables false
namespace Tw
open Go

structure Nd where
  leaf : Bool
  recs : List Str
  kids : List Nat

def weigh (l : List Str) : Nat := (l.map (fun s => 4 + s.size)).sum
def Nd.size (n : Nd) : Nat := 3 + 4 * n.kids.length + weigh n.recs

@[simp] theorem weigh_nil : weigh [] = 0 := rfl
@[simp] theorem weigh_cons (s : Str) (l : List Str) : weigh (s :: l) = 4 + s.size + weigh l := rfl
@[simp] theorem weigh_append (l m : List Str) : weigh (l ++ m) = weigh l + weigh m := by simp [weigh]

structure Nd.Shaped (n : Nd) : Prop where
  lk : n.leaf = true → n.kids = []
  ik : n.leaf = false → n.kids.length = n.recs.length + 1
  one : ∀ s ∈ n.recs, 1 ≤ s.size ∧ s.size ≤ 400
  up : Sorted n.recs
  kid : ∀ k ∈ n.kids, 1 ≤ k ∧ k ≤ 4096

structure Nd.Right (n : Nd) : Prop where
  shaped : n.Shaped
  fits : n.size ≤ 1024

/-- s lies from lo on, below hi. -/
def inB (lo : Str) (hi : Option Str) (s : Str) : Prop := sle lo s ∧ ∀ h, hi = some h → slt s h = true
/-- s lies above lo, below hi. -/
def inS (lo : Str) (hi : Option Str) (s : Str) : Prop := slt lo s = true ∧ ∀ h, hi = some h → slt s h = true

theorem inS.inB {lo : Str} {hi : Option Str} {s : Str} (h : inS lo hi s) : inB lo hi s := ⟨sle_of_slt h.1, h.2⟩

section
variable (P : Nat → Str → Option Str → List Str → List Nat → Nat → Prop) (c : Nat)

/-- The kids of an inner node, with the entries between them. -/
inductive Kids : Str → Option Str → List Str → List Nat → List Str → List Nat → Nat → Prop
  | one {lo hi k E I m} (h : P k lo hi E I m) : Kids lo hi [] [k] E I (max m c)
  | more {lo hi s r k ks E1 I1 m1 E2 I2 m2} (h : P k lo (some s) E1 I1 m1) (g : Kids s hi r ks E2 I2 m2) :
      Kids lo hi (s :: r) (k :: ks) (E1 ++ E2) (I1 ++ I2) (max m1 c + m2)

/-- Kids ahead of others. -/
inductive Pre : Str → Str → List Str → List Nat → List Str → List Nat → Nat → Prop
  | nil {lo} : Pre lo lo [] [] [] [] 0
  | more {lo mid s r k ks E1 I1 m1 E2 I2 m2} (h : P k lo (some s) E1 I1 m1) (g : Pre s mid r ks E2 I2 m2) :
      Pre lo mid (s :: r) (k :: ks) (E1 ++ E2) (I1 ++ I2) (max m1 c + m2)

/-- Kids behind others. -/
inductive Post : Option Str → Option Str → List Str → List Nat → List Str → List Nat → Nat → Prop
  | nil {hi} : Post hi hi [] [] [] [] 0
  | more {hi s r ks E I m} (g : Kids P c s hi r ks E I m) : Post (some s) hi (s :: r) ks E I m

variable {P c}

theorem Kids.len {lo hi r ks E I m} (h : Kids P c lo hi r ks E I m) : ks.length = r.length + 1 := by
  induction h with
  | one _ => rfl
  | more _ _ ih => simp [ih]

theorem Pre.len {lo mid r ks E I m} (h : Pre P c lo mid r ks E I m) : ks.length = r.length := by
  induction h with
  | nil => rfl
  | more _ _ ih => simp [ih]

theorem Post.len {mid hi r ks E I m} (h : Post P c mid hi r ks E I m) : ks.length = r.length := by
  cases h with
  | nil => rfl
  | more g => simp [g.len]

theorem Pre.join {lo mid r1 k1 E1 I1 m1} (h : Pre P c lo mid r1 k1 E1 I1 m1) : ∀ {hi r k E I m}, Kids P c mid hi r k E I m →
    Kids P c lo hi (r1 ++ r) (k1 ++ k) (E1 ++ E) (I1 ++ I) (m1 + m) := by
  induction h with
  | nil => intro _ _ _ _ _ _ h; simpa using h
  | more h _ ih => intro _ _ _ _ _ _ g; simpa [List.append_assoc, Nat.add_assoc] using Kids.more h (ih g)

theorem Pre.split : ∀ {r1 k1 lo hi r k E I m}, k1.length = r1.length → Kids P c lo hi (r1 ++ r) (k1 ++ k) E I m →
    ∃ mid E1 I1 m1 E2 I2 m2, Pre P c lo mid r1 k1 E1 I1 m1 ∧ Kids P c mid hi r k E2 I2 m2 ∧ E = E1 ++ E2 ∧ I = I1 ++ I2 ∧ m = m1 + m2
  | [], [], lo, hi, r, k, E, I, m, _, h => ⟨lo, [], [], 0, E, I, m, .nil, h, rfl, rfl, by simp⟩
  | s :: r1, x :: k1, lo, hi, r, k, E, I, m, hl, h => by
    cases h with
    | more h g =>
      obtain ⟨mid, E1, I1, m1, E2, I2, m2, hp, hk, rfl, rfl, rfl⟩ := Pre.split (by simpa using hl) g
      exact ⟨mid, _, _, _, E2, I2, m2, .more h hp, hk, by simp, by simp, by omega⟩

theorem Post.join {lo mid r k E I m} (h : Kids P c lo mid r k E I m) : ∀ {hi r2 k2 E2 I2 m2}, Post P c mid hi r2 k2 E2 I2 m2 →
    Kids P c lo hi (r ++ r2) (k ++ k2) (E ++ E2) (I ++ I2) (m + m2) := by
  induction h with
  | one h =>
    intro _ _ _ _ _ _ g
    cases g with
    | nil => simpa using Kids.one h
    | more g => exact Kids.more h g
  | more h _ ih => intro _ _ _ _ _ _ g; simpa [List.append_assoc, Nat.add_assoc] using Kids.more h (ih g)

theorem Post.split : ∀ {r k lo hi r2 k2 E I m}, k.length = r.length + 1 → Kids P c lo hi (r ++ r2) (k ++ k2) E I m →
    ∃ mid E1 I1 m1 E2 I2 m2, Kids P c lo mid r k E1 I1 m1 ∧ Post P c mid hi r2 k2 E2 I2 m2 ∧ E = E1 ++ E2 ∧ I = I1 ++ I2 ∧ m = m1 + m2
  | [], [x], lo, hi, r2, k2, E, I, m, _, h => by
    cases r2 with
    | nil =>
      cases h with
      | one h => exact ⟨hi, _, _, _, [], [], 0, .one h, .nil, by simp, by simp, by simp⟩
    | cons s r2 =>
      cases h with
      | more h g => exact ⟨some s, _, _, _, _, _, _, .one h, .more g, rfl, rfl, rfl⟩
  | s :: r, x :: k, lo, hi, r2, k2, E, I, m, hl, h => by
    cases h with
    | more h g =>
      obtain ⟨mid, E1, I1, m1, E2, I2, m2, hp, hk, rfl, rfl, rfl⟩ := Post.split (by simpa using hl) g
      exact ⟨mid, _, _, _, E2, I2, m2, .more h hp, hk, by simp, by simp, by omega⟩

/-- The bound behind kids that stand ahead: the last entry, or the first bound. -/
theorem Pre.mid {lo mid r k E I m} (h : Pre P c lo mid r k E I m) : (r = [] ∧ mid = lo) ∨ mid ∈ r := by
  induction h with
  | nil => exact .inl ⟨rfl, rfl⟩
  | more _ g ih =>
    rcases ih with ⟨rfl, rfl⟩ | h
    · exact .inr (by simp)
    · exact .inr (List.mem_cons_of_mem _ h)

theorem Post.mid {mid hi r k E I m} (h : Post P c mid hi r k E I m) : (r = [] ∧ mid = hi) ∨ ∃ s, s ∈ r ∧ mid = some s := by
  cases h with
  | nil => exact .inl ⟨rfl, rfl⟩
  | more _ => exact .inr ⟨_, by simp, rfl⟩

theorem Kids.mono {P' : Nat → Str → Option Str → List Str → List Nat → Nat → Prop} {lo hi r ks E I m} (h : Kids P c lo hi r ks E I m) :
    (∀ k lo hi E0 I0 m0, (∀ i ∈ I0, i ∈ I) → P k lo hi E0 I0 m0 → P' k lo hi E0 I0 m0) → Kids P' c lo hi r ks E I m := by
  induction h with
  | one h => intro H; exact .one (H _ _ _ _ _ _ (fun _ h => h) h)
  | more h _ ih =>
    intro H
    exact .more (H _ _ _ _ _ _ (fun _ h => List.mem_append_left _ h) h) (ih fun k lo hi E0 I0 m0 hs => H k lo hi E0 I0 m0 fun i hi => List.mem_append_right _ (hs i hi))

theorem Pre.mono {P' : Nat → Str → Option Str → List Str → List Nat → Nat → Prop} {lo mid r ks E I m} (h : Pre P c lo mid r ks E I m) :
    (∀ k lo hi E0 I0 m0, (∀ i ∈ I0, i ∈ I) → P k lo hi E0 I0 m0 → P' k lo hi E0 I0 m0) → Pre P' c lo mid r ks E I m := by
  induction h with
  | nil => intro _; exact .nil
  | more h _ ih =>
    intro H
    exact .more (H _ _ _ _ _ _ (fun _ h => List.mem_append_left _ h) h) (ih fun k lo hi E0 I0 m0 hs => H k lo hi E0 I0 m0 fun i hi => List.mem_append_right _ (hs i hi))

theorem Post.mono {P' : Nat → Str → Option Str → List Str → List Nat → Nat → Prop} {mid hi r ks E I m} (h : Post P c mid hi r ks E I m)
    (H : ∀ k lo hi E0 I0 m0, (∀ i ∈ I0, i ∈ I) → P k lo hi E0 I0 m0 → P' k lo hi E0 I0 m0) : Post P' c mid hi r ks E I m := by
  cases h with
  | nil => exact .nil
  | more g => exact .more (g.mono H)

/-- An inner node's entries: rising, above lo, below hi. -/
def Gap (lo : Str) (hi : Option Str) (r : List Str) : Prop := Sorted r ∧ ∀ s ∈ r, inS lo hi s

theorem Gap.tail {lo hi s r} (h : Gap lo hi (s :: r)) : Gap s hi r :=
  ⟨(sorted_cons.1 h.1).2, fun x hx => ⟨(sorted_cons.1 h.1).1 x hx, (h.2 x (List.mem_cons_of_mem _ hx)).2⟩⟩

/-- What is below the kids is rising and in the bounds. -/
theorem Kids.bound {lo hi r ks E I m} (h : Kids P c lo hi r ks E I m) (hP : ∀ k lo hi E I m, P k lo hi E I m → Sorted E ∧ ∀ e ∈ E, inB lo hi e) :
    Gap lo hi r → Sorted E ∧ ∀ e ∈ E, inB lo hi e := by
  induction h with
  | one h => intro _; exact hP _ _ _ _ _ _ h
  | @more lo hi s r k ks E1 I1 m1 E2 I2 m2 h _ ih =>
    intro hg
    obtain ⟨a1, a2⟩ := hP _ _ _ _ _ _ h
    obtain ⟨b1, b2⟩ := ih hg.tail
    have hs := hg.2 s (by simp)
    refine ⟨sorted_append.2 ⟨a1, b1, fun a ha b hb => slt_of_slt_of_sle ((a2 a ha).2 s rfl) (b2 b hb).1⟩, fun e he => ?_⟩
    rcases List.mem_append.1 he with he | he
    · exact ⟨(a2 e he).1, fun x hx => slt_trans ((a2 e he).2 s rfl) (hs.2 x hx)⟩
    · exact ⟨sle_trans (sle_of_slt hs.1) (b2 e he).1, (b2 e he).2⟩

theorem Kids.mass {lo hi r ks E I m} (h : Kids P c lo hi r ks E I m) : ks.length * c ≤ m := by
  induction h with
  | one h => simp; omega
  | @more lo hi s r k ks E1 I1 m1 E2 I2 m2 h _ ih => simp only [List.length_cons, Nat.add_mul, Nat.one_mul]; omega

theorem Kids.ids {lo hi r ks E I m} (h : Kids P c lo hi r ks E I m) (hP : ∀ k lo hi E I m, P k lo hi E I m → k ∈ I) : ∀ k ∈ ks, k ∈ I := by
  induction h with
  | one h => intro k hk; simp at hk; subst hk; exact hP _ _ _ _ _ _ h
  | more h _ ih =>
    intro k hk
    rcases List.mem_cons.1 hk with rfl | hk
    · exact List.mem_append_left _ (hP _ _ _ _ _ _ h)
    · exact List.mem_append_right _ (ih k hk)
end

/-- THE TREE BELOW A PAGE: its height (0: a leaf), the page, the bounds, the entries, the pages, the mass. 'nd': which node a page holds. -/
def Sub (nd : Nat → Option Nd) : Nat → Nat → Str → Option Str → List Str → List Nat → Nat → Prop
  | 0, id, lo, hi, E, I, m => ∃ n, nd id = some n ∧ n.Right ∧ n.leaf = true ∧ (∀ s ∈ n.recs, inB lo hi s) ∧ E = n.recs ∧ I = [id] ∧ m = n.recs.length
  | h + 1, id, lo, hi, E, I, m => ∃ n I', nd id = some n ∧ n.Right ∧ n.leaf = false ∧ (∀ s ∈ n.recs, inS lo hi s) ∧ Kids (Sub nd h) (2 ^ h) lo hi n.recs n.kids E I' m ∧ I = id :: I'

theorem Sub.id_mem {nd : Nat → Option Nd} : ∀ {h id lo hi E I m}, Sub nd h id lo hi E I m → id ∈ I
  | 0, _, _, _, _, _, _, ⟨_, _, _, _, _, _, hI, _⟩ => by rw [hI]; simp
  | _ + 1, _, _, _, _, _, _, ⟨_, _, _, _, _, _, _, hI⟩ => by rw [hI]; simp

theorem Sub.bound {nd : Nat → Option Nd} : ∀ {h id lo hi E I m}, Sub nd h id lo hi E I m → Sorted E ∧ ∀ e ∈ E, inB lo hi e
  | 0, _, _, _, _, _, _, ⟨_, _, hr, _, hb, hE, _, _⟩ => by rw [hE]; exact ⟨hr.shaped.up, hb⟩
  | h + 1, _, _, _, _, _, _, ⟨_, _, _, hr, _, hb, hk, _⟩ => hk.bound (fun _ _ _ _ _ _ h => Sub.bound h) ⟨hr.shaped.up, hb⟩

/-- Only the tree's own pages matter. -/
theorem Sub.frame {nd nd' : Nat → Option Nd} : ∀ {h id lo hi E I m}, Sub nd h id lo hi E I m → (∀ i ∈ I, nd' i = nd i) → Sub nd' h id lo hi E I m
  | 0, id, _, _, _, _, _, ⟨n, hn, hr, hl, hb, hE, hI, hm⟩, H => ⟨n, by rw [H id (by rw [hI]; simp)]; exact hn, hr, hl, hb, hE, hI, hm⟩
  | h + 1, id, _, _, _, _, _, ⟨n, I', hn, hr, hl, hb, hk, hI⟩, H =>
    ⟨n, I', by rw [H id (by rw [hI]; simp)]; exact hn, hr, hl, hb, hk.mono fun _ _ _ _ _ _ hs g => g.frame fun i hi => H i (by rw [hI]; exact List.mem_cons_of_mem _ (hs i hi)), hI⟩

/-- What an entry's length is. -/
theorem Sub.sizes {nd : Nat → Option Nd} : ∀ {h id lo hi E I m}, Sub nd h id lo hi E I m → ∀ e ∈ E, 1 ≤ e.size ∧ e.size ≤ 400
  | 0, _, _, _, _, _, _, ⟨_, _, hr, _, _, hE, _, _⟩ => by rw [hE]; exact hr.shaped.one
  | h + 1, _, _, _, _, _, _, ⟨_, _, _, _, _, _, hk, _⟩ => by
    have key : ∀ {lo hi r ks E I m}, Kids (Sub nd h) (2 ^ h) lo hi r ks E I m → ∀ e ∈ E, 1 ≤ e.size ∧ e.size ≤ 400 := by
      intro lo hi r ks E I m hk
      induction hk with
      | one h => exact Sub.sizes h
      | more h _ ih =>
        intro e he
        rcases List.mem_append.1 he with he | he
        · exact Sub.sizes h e he
        · exact ih e he
    exact key hk

/-- Two rising lists with the same entries are one. -/
theorem sorted_ext : ∀ {l m : List Str}, Sorted l → Sorted m → (∀ x, x ∈ l ↔ x ∈ m) → l = m
  | [], [], _, _, _ => rfl
  | [], b :: m, _, _, h => by have := (h b).2 (by simp); simp at this
  | a :: l, [], _, _, h => by have := (h a).1 (by simp); simp at this
  | a :: l, b :: m, hl, hm, h => by
    have hab : a = b := by
      rcases List.mem_cons.1 ((h a).1 (by simp)) with e | e
      · exact e
      · rcases List.mem_cons.1 ((h b).2 (by simp)) with e' | e'
        · exact e'.symm
        · have h1 := (sorted_cons.1 hm).1 a e
          have h2 := (sorted_cons.1 hl).1 b e'
          have := slt_asymm h1; rw [h2] at this; cases this
    subst hab
    congr 1
    refine sorted_ext (sorted_cons.1 hl).2 (sorted_cons.1 hm).2 fun x => ⟨fun hx => ?_, fun hx => ?_⟩
    · rcases List.mem_cons.1 ((h x).1 (List.mem_cons_of_mem _ hx)) with rfl | e
      · have := (sorted_cons.1 hl).1 x hx; rw [slt_irrefl] at this; cases this
      · exact e
    · rcases List.mem_cons.1 ((h x).2 (List.mem_cons_of_mem _ hx)) with rfl | e
      · have := (sorted_cons.1 hm).1 x hx; rw [slt_irrefl] at this; cases this
      · exact e

end Tw
