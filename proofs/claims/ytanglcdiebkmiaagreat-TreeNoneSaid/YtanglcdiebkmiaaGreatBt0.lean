/- Plain words on byte strings, their order, and a tree's node. -/
import GoSem.Op.String
import Derived.Lib.Strings
set_option linter.unusedSimpArgs false
set_option linter.unusedVariables false
namespace Tw
open Go
abbrev Str := ByteArray

theorem bytesLess_iff : ∀ (x y : List UInt8), Op.bytesLess x y = decide (x < y)
  | [], [] => by simp [Op.bytesLess]
  | _ :: _, [] => by simp [Op.bytesLess]
  | [], _ :: _ => by simp [Op.bytesLess]
  | a :: x, b :: y => by
    rw [Op.bytesLess, bytesLess_iff x y]
    simp only [List.cons_lt_cons_iff]
    by_cases h1 : a < b <;> by_cases h2 : a = b <;> by_cases h3 : x < y <;> simp [h1, h2, h3]

/-- The order of byte strings, as the model decides it. -/
def slt (a b : Str) : Bool := Op.bytesLess a.toList b.toList

theorem slt_iff (a b : Str) : slt a b = true ↔ a.data.toList < b.data.toList := by
  unfold slt; rw [bytesLess_iff, Lib.toList_data, Lib.toList_data]; simp

theorem slt_irrefl (a : Str) : slt a a = false := by
  cases h : slt a a with
  | false => rfl
  | true => exact absurd ((slt_iff a a).1 h) (List.lt_irrefl _)

theorem slt_trans {a b c : Str} (h : slt a b = true) (k : slt b c = true) : slt a c = true :=
  (slt_iff a c).2 (List.lt_trans ((slt_iff a b).1 h) ((slt_iff b c).1 k))

theorem str_ext {a b : Str} (h : a.data.toList = b.data.toList) : a = b := by
  cases a; cases b; congr; exact Array.ext' h

theorem slt_tri (a b : Str) : slt a b = true ∨ a = b ∨ slt b a = true := by
  by_cases h : a.data.toList < b.data.toList
  · exact .inl ((slt_iff a b).2 h)
  · by_cases k : b.data.toList < a.data.toList
    · exact .inr (.inr ((slt_iff b a).2 k))
    · exact .inr (.inl (str_ext (List.le_antisymm (List.not_lt.1 k) (List.not_lt.1 h))))

theorem slt_asymm {a b : Str} (h : slt a b = true) : slt b a = false := by
  cases k : slt b a with
  | false => rfl
  | true => have := slt_trans h k; rw [slt_irrefl] at this; cases this

/-- a ≤ b -/
def sle (a b : Str) : Prop := slt b a = false

theorem sle_refl (a : Str) : sle a a := slt_irrefl a
theorem sle_iff {a b : Str} : sle a b ↔ slt a b = true ∨ a = b := by
  unfold sle
  constructor
  · intro h
    rcases slt_tri a b with k | k | k
    · exact .inl k
    · exact .inr k
    · rw [h] at k; cases k
  · rintro (h | rfl)
    · exact slt_asymm h
    · exact slt_irrefl _
theorem sle_of_slt {a b : Str} (h : slt a b = true) : sle a b := sle_iff.2 (.inl h)
theorem slt_of_slt_of_sle {a b c : Str} (h : slt a b = true) (k : sle b c) : slt a c = true := by
  rcases sle_iff.1 k with k | rfl
  · exact slt_trans h k
  · exact h
theorem slt_of_sle_of_slt {a b c : Str} (h : sle a b) (k : slt b c = true) : slt a c = true := by
  rcases sle_iff.1 h with h | rfl
  · exact slt_trans h k
  · exact k
theorem sle_trans {a b c : Str} (h : sle a b) (k : sle b c) : sle a c := by
  rcases sle_iff.1 h with h | rfl
  · exact sle_of_slt (slt_of_slt_of_sle h k)
  · exact k
theorem sle_total (a b : Str) : sle a b ∨ slt b a = true := by
  cases h : slt b a with
  | false => exact .inl h
  | true => exact .inr rfl

/-- Rising, no two alike. -/
def Sorted (l : List Str) : Prop := l.Pairwise (fun a b => slt a b = true)

theorem Sorted.nil : Sorted [] := List.Pairwise.nil
theorem sorted_cons {a : Str} {l : List Str} : Sorted (a :: l) ↔ (∀ b ∈ l, slt a b = true) ∧ Sorted l := List.pairwise_cons
theorem sorted_append {l m : List Str} : Sorted (l ++ m) ↔ Sorted l ∧ Sorted m ∧ ∀ a ∈ l, ∀ b ∈ m, slt a b = true := List.pairwise_append

/-- How many entries (of a rising list) are below s. -/
def below (l : List Str) (s : Str) : Nat := (l.takeWhile (fun r => slt r s)).length
def there (l : List Str) (s : Str) : Bool := l.contains s

theorem below_le (l : List Str) (s : Str) : below l s ≤ l.length := by
  unfold below; exact (List.takeWhile_sublist _).length_le

theorem take_below (l : List Str) (s : Str) : l.take (below l s) = l.takeWhile (fun r => slt r s) := by
  unfold below
  induction l with
  | nil => rfl
  | cons a l ih =>
    by_cases h : slt a s = true
    · simp [List.takeWhile_cons, h, ih]
    · simp [List.takeWhile_cons, h]

theorem drop_below (l : List Str) (s : Str) : l.drop (below l s) = l.dropWhile (fun r => slt r s) := by
  unfold below
  induction l with
  | nil => rfl
  | cons a l ih =>
    by_cases h : slt a s = true
    · simp [List.takeWhile_cons, List.dropWhile_cons, h, ih]
    · simp [List.takeWhile_cons, List.dropWhile_cons, h]

theorem mem_take_below {l : List Str} {s r : Str} (h : r ∈ l.take (below l s)) : slt r s = true := by
  rw [take_below] at h
  have := List.all_takeWhile (p := fun r => slt r s) (l := l)
  exact (List.all_eq_true.1 this) r h

theorem mem_drop_below {l : List Str} {s r : Str} (hl : Sorted l) (h : r ∈ l.drop (below l s)) : sle s r := by
  rw [drop_below] at h
  induction l with
  | nil => simp at h
  | cons a l ih =>
    by_cases ha : slt a s = true
    · rw [List.dropWhile_cons, if_pos ha] at h; exact ih (sorted_cons.1 hl).2 h
    · rw [List.dropWhile_cons, if_neg ha] at h
      have ha' : sle s a := by simpa [sle] using ha
      rcases List.mem_cons.1 h with rfl | h
      · exact ha'
      · exact sle_trans ha' (sle_of_slt ((sorted_cons.1 hl).1 r h))

theorem getElem_below_lt {l : List Str} {s : Str} {t : Nat} (ht : t < below l s) (h : t < l.length) : slt l[t] s = true :=
  mem_take_below (l := l) (s := s) (by rw [List.mem_take_iff_getElem]; exact ⟨t, by omega, rfl⟩)

theorem getElem_below_ge {l : List Str} {s : Str} {t : Nat} (hl : Sorted l) (ht : below l s ≤ t) (h : t < l.length) : slt l[t] s = false :=
  mem_drop_below hl (by rw [List.mem_drop_iff_getElem]; exact ⟨t - below l s, by omega, by congr 1; omega⟩)

/-- Of a rising list s is an entry just where the entry at its place is s. -/
theorem mem_iff_below {l : List Str} {s : Str} (hl : Sorted l) : s ∈ l ↔ ∃ h : below l s < l.length, l[below l s] = s := by
  constructor
  · intro hs
    obtain ⟨i, hi, rfl⟩ := List.mem_iff_getElem.1 hs
    have h1 : below l l[i] ≤ i := by
      rcases Nat.lt_or_ge i (below l l[i]) with h | h
      · have := getElem_below_lt h hi; rw [slt_irrefl] at this; cases this
      · exact h
    refine ⟨by omega, ?_⟩
    rcases Nat.lt_or_ge (below l l[i]) i with h | h
    · have h2 := getElem_below_ge hl (Nat.le_refl (below l l[i])) (by omega)
      have h3 : slt l[below l l[i]] l[i] = true := (List.pairwise_iff_getElem.1 hl) _ _ _ _ h
      rw [h2] at h3; cases h3
    · congr 1; omega
  · rintro ⟨h, e⟩; rw [← e]; exact List.getElem_mem h

/-- Insertion at a place. -/
def ins {α : Type} (l : List α) (k : Nat) (x : α) : List α := l.take k ++ x :: l.drop k
def del {α : Type} (l : List α) (k : Nat) : List α := l.take k ++ l.drop (k + 1)

theorem length_ins {α : Type} {l : List α} {k : Nat} {x : α} (h : k ≤ l.length) : (ins l k x).length = l.length + 1 := by
  unfold ins; simp; omega
theorem length_del {α : Type} {l : List α} {k : Nat} (h : k < l.length) : (del l k).length = l.length - 1 := by
  unfold del; simp; omega
theorem mem_ins {α : Type} {l : List α} {k : Nat} {x y : α} : y ∈ ins l k x ↔ y = x ∨ y ∈ l := by
  unfold ins
  constructor
  · intro h
    rcases List.mem_append.1 h with h | h
    · exact .inr (List.mem_of_mem_take h)
    · rcases List.mem_cons.1 h with h | h
      · exact .inl h
      · exact .inr (List.mem_of_mem_drop h)
  · rintro (rfl | h)
    · simp
    · rw [← List.take_append_drop k l] at h
      rcases List.mem_append.1 h with h | h
      · exact List.mem_append.2 (.inl h)
      · exact List.mem_append.2 (.inr (List.mem_cons_of_mem _ h))

theorem sorted_ins {l : List Str} {s : Str} (hl : Sorted l) (hs : s ∉ l) : Sorted (ins l (below l s) s) := by
  unfold ins
  have h := hl; rw [← List.take_append_drop (below l s) l] at h
  obtain ⟨h1, h2, h3⟩ := sorted_append.1 h
  refine sorted_append.2 ⟨h1, sorted_cons.2 ⟨fun b hb => ?_, h2⟩, fun a ha b hb => ?_⟩
  · rcases sle_iff.1 (mem_drop_below hl hb) with k | rfl
    · exact k
    · exact absurd (List.mem_of_mem_drop hb) hs
  · rcases List.mem_cons.1 hb with rfl | hb
    · exact mem_take_below ha
    · exact h3 a ha b hb

theorem sorted_del {l : List Str} {k : Nat} (hl : Sorted l) : Sorted (del l k) := by
  unfold del
  refine List.Pairwise.sublist ?_ hl
  conv => rhs; rw [← List.take_append_drop k l]
  refine List.Sublist.append (List.Sublist.refl _) ?_
  rw [← List.drop_drop]
  exact List.drop_sublist _ _

end Tw
