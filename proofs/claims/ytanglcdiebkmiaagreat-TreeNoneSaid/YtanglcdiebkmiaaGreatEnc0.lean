/- Plain words: a page while it is written. -/
import Derived.Test.YtanglcdiebkmiaaGreatOut
set_option linter.unusedSimpArgs false
set_option linter.unusedVariables false
namespace Tw
open Go

def lens (l : List Str) : Nat := (l.map (·.size)).sum
@[simp] theorem lens_nil : lens [] = 0 := rfl
@[simp] theorem lens_cons (s : Str) (l : List Str) : lens (s :: l) = s.size + lens l := rfl
@[simp] theorem lens_append (l m : List Str) : lens (l ++ m) = lens l + lens m := by simp [lens]
theorem weigh_lens (l : List Str) : weigh l = 4 * l.length + lens l := by
  induction l with
  | nil => rfl
  | cons s l ih => simp [ih]; omega
theorem lens_take_succ (l : List Str) (k : Nat) (h : k < l.length) : lens (l.take (k + 1)) = lens (l.take k) + l[k].size := by
  rw [List.take_succ_eq_append_getElem h, lens_append]; simp
theorem lens_take_le (l : List Str) (k : Nat) : lens (l.take k) ≤ lens l := by
  conv => rhs; rw [← List.take_append_drop k l, lens_append]
  omega

theorem slots_snoc (s : Str) : ∀ (l : List Str) (e : Nat), slots e (l ++ [s]) = slots e l ++ (be2 (e - lens l - s.size) ++ be2 s.size)
  | [], e => by simp [slots]
  | a :: l, e => by simp [slots, slots_snoc s l, List.append_assoc, Nat.sub_sub, Nat.add_assoc, Nat.add_comm, Nat.add_left_comm]
theorem tails_snoc (s : Str) : ∀ (l : List Str), tails (l ++ [s]) = s.data.toList ++ tails l
  | [] => by simp [tails]
  | a :: l => by simp [tails, tails_snoc s l]
theorem length_tails' (l : List Str) : (tails l).length = lens l := by
  have := length_tails l; have := weigh_lens l; omega

/-- The page's beginning. -/
def hdr (n : Nd) : List UInt8 := (if n.leaf then 1 else 2) :: be2 n.recs.length
@[simp] theorem length_hdr (n : Nd) : (hdr n).length = 3 := rfl

/-- With k kids laid. -/
def encK (n : Nd) (k : Nat) : List UInt8 := hdr n ++ (n.kids.take k).flatMap be4 ++ List.replicate (1021 - 4 * k) 0
/-- With all kids and k entries laid. -/
def encR (n : Nd) (k : Nat) : List UInt8 :=
  hdr n ++ n.kids.flatMap be4 ++ slots 1024 (n.recs.take k) ++ List.replicate (1021 - 4 * n.kids.length - weigh (n.recs.take k)) 0 ++ tails (n.recs.take k)

theorem encK_zero (n : Nd) : encK n 0 = hdr n ++ List.replicate 1021 0 := by
  unfold encK; rw [List.take_zero, List.flatMap_nil, List.append_nil]
theorem encR_zero (n : Nd) : encR n 0 = encK n n.kids.length := by
  unfold encR encK; rw [List.take_zero, List.take_length]; simp only [slots, tails, weigh_nil, Nat.sub_zero, List.append_nil]
theorem encR_all (n : Nd) : encR n n.recs.length = enc n := by
  have : n.size = 3 + 4 * n.kids.length + weigh n.recs := rfl
  simp only [encR, enc, hdr, List.take_length, List.cons_append]
  rw [show 1021 - 4 * n.kids.length - weigh n.recs = 1024 - n.size by omega]

theorem lay_app (A B bs : List UInt8) : Go.Proofs.YtanglcdiebkmiaaGreat.lay (A ++ B) A.length bs = A ++ bs ++ B.drop bs.length := by
  unfold Go.Proofs.YtanglcdiebkmiaaGreat.lay
  rw [List.take_left, ← List.drop_drop, List.drop_left]

theorem lay_at {A B bs : List UInt8} {k : Nat} (h : A.length = k) : Go.Proofs.YtanglcdiebkmiaaGreat.lay (A ++ B) k bs = A ++ bs ++ B.drop bs.length := by subst h; exact lay_app A B bs

theorem encK_succ {n : Nd} {k : Nat} (h : k < n.kids.length) (hs : n.size ≤ 1024) : Go.Proofs.YtanglcdiebkmiaaGreat.lay (encK n k) (3 + 4 * k) (be4 n.kids[k]) = encK n (k + 1) := by
  have hz : n.size = 3 + 4 * n.kids.length + weigh n.recs := rfl
  unfold encK
  rw [lay_at (by simp only [List.length_append, length_hdr, length_flat4, List.length_take]; omega), List.take_succ_eq_append_getElem h, List.flatMap_append, length_be4, List.drop_replicate]
  simp only [List.flatMap_cons, List.flatMap_nil, List.append_nil, List.append_assoc]
  rw [show 1021 - 4 * k - 4 = 1021 - 4 * (k + 1) by omega]

/-- An entry's bytes go to the end, its slot behind the slots. -/
theorem encR_copy {n : Nd} {k : Nat} (h : k < n.recs.length) (hs : n.size ≤ 1024) :
    (encR n k).take (1024 - lens (n.recs.take k) - n.recs[k].size) ++ n.recs[k].data.toList ++ (encR n k).drop (1024 - lens (n.recs.take k) - n.recs[k].size + n.recs[k].size) =
    hdr n ++ n.kids.flatMap be4 ++ slots 1024 (n.recs.take k) ++ List.replicate (1021 - 4 * n.kids.length - weigh (n.recs.take k) - n.recs[k].size) 0 ++ (n.recs[k].data.toList ++ tails (n.recs.take k)) := by
  have hz : n.size = 3 + 4 * n.kids.length + weigh n.recs := rfl
  have h1 := weigh_lens (n.recs.take k)
  have h2 := lens_take_succ n.recs k h
  have h3 := lens_take_le n.recs (k + 1)
  have h4 := weigh_lens n.recs
  have hk : (n.recs.take k).length = k := by simp; omega
  have hsz : n.recs[k].data.toList.length = n.recs[k].size := rfl
  rw [hk] at h1
  unfold encR
  generalize hP : hdr n ++ n.kids.flatMap be4 ++ slots 1024 (n.recs.take k) = P
  have hPl : P.length = 3 + 4 * n.kids.length + 4 * k := by rw [← hP]; simp only [List.length_append, length_hdr, length_flat4, length_slots, hk]
  have hT := length_tails' (n.recs.take k)
  generalize tails (n.recs.take k) = T at hT
  generalize n.recs[k] = s at h2 hsz
  rw [show 1021 - 4 * n.kids.length - weigh (n.recs.take k) = (1021 - 4 * n.kids.length - weigh (n.recs.take k) - s.size) + s.size by omega, ← List.replicate_append_replicate]
  generalize hm : 1021 - 4 * n.kids.length - weigh (n.recs.take k) - s.size = m
  have e1 : 1024 - lens (n.recs.take k) - s.size = (P ++ List.replicate m 0).length := by rw [List.length_append, hPl, List.length_replicate]; omega
  rw [show m + s.size - s.size = m by omega]
  have e2 : P ++ (List.replicate m (0 : UInt8) ++ List.replicate s.size 0) ++ T = (P ++ List.replicate m 0) ++ (List.replicate s.size 0 ++ T) := by simp only [List.append_assoc]
  rw [e1, e2, List.take_left, ← List.drop_drop, List.drop_left, List.drop_append, List.drop_of_length_le (by simp)]
  simp [List.append_assoc]

theorem encR_slot {n : Nd} {k : Nat} (h : k < n.recs.length) (hs : n.size ≤ 1024) :
    Go.Proofs.YtanglcdiebkmiaaGreat.lay (hdr n ++ n.kids.flatMap be4 ++ slots 1024 (n.recs.take k) ++ List.replicate (1021 - 4 * n.kids.length - weigh (n.recs.take k) - n.recs[k].size) 0 ++ (n.recs[k].data.toList ++ tails (n.recs.take k)))
      (3 + 4 * n.kids.length + 4 * k) (be2 (1024 - lens (n.recs.take k) - n.recs[k].size) ++ be2 n.recs[k].size) = encR n (k + 1) := by
  have hz : n.size = 3 + 4 * n.kids.length + weigh n.recs := rfl
  have h1 := weigh_lens (n.recs.take k)
  have h2 := lens_take_succ n.recs k h
  have h3 := lens_take_le n.recs (k + 1)
  have h4 := weigh_lens n.recs
  have h5 := weigh_lens (n.recs.take (k + 1))
  have hk : (n.recs.take k).length = k := by simp; omega
  have hk1 : (n.recs.take (k + 1)).length = k + 1 := by simp; omega
  rw [hk] at h1
  rw [hk1] at h5
  unfold encR
  rw [List.append_assoc (hdr n ++ n.kids.flatMap be4 ++ slots 1024 (n.recs.take k)), lay_at (by simp only [List.length_append, length_hdr, length_flat4, length_slots, hk])]
  rw [List.take_succ_eq_append_getElem h, slots_snoc, tails_snoc]
  rw [List.take_succ_eq_append_getElem h] at h5
  rw [h5]
  rw [List.drop_append, List.drop_replicate]
  simp only [List.length_append, length_be2, List.length_replicate]
  rw [show 2 + 2 - (1021 - 4 * n.kids.length - weigh (n.recs.take k) - n.recs[k].size) = 0 by have := n.recs[k].size; omega, List.drop_zero]
  rw [show lens (List.take k n.recs ++ [n.recs[k]]) = lens (List.take k n.recs) + n.recs[k].size by rw [lens_append]; rfl]
  rw [show 1021 - 4 * n.kids.length - weigh (n.recs.take k) - n.recs[k].size - (2 + 2) = 1021 - 4 * n.kids.length - (4 * (k + 1) + (lens (List.take k n.recs) + n.recs[k].size)) by omega]
  simp [List.append_assoc]
end Tw
