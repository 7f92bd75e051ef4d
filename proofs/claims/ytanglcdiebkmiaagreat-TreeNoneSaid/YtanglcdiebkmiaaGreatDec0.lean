/- Plain words: what is read of a node's page. -/
import Derived.Test.YtanglcdiebkmiaaGreatIn
set_option linter.unusedSimpArgs false
set_option linter.unusedVariables false
namespace Tw
open Go Go.Proofs.YtanglcdiebkmiaaGreat

theorem num2_app (A B : List UInt8) {x k : Nat} (hk : A.length = k) (hx : x < 65536) : num2 (A ++ (be2 x ++ B)) k = x := by
  subst hk
  unfold num2 be2
  simp only [List.getD_eq_getElem?_getD]
  have e0 : (A ++ ([UInt8.ofNat (x / 256), UInt8.ofNat x] ++ B))[A.length]? = some (UInt8.ofNat (x / 256)) := by simp
  have e1 : (A ++ ([UInt8.ofNat (x / 256), UInt8.ofNat x] ++ B))[A.length + 1]? = some (UInt8.ofNat x) := by
    rw [List.getElem?_append_right (by omega)]; simp
  rw [e0, e1]
  simp
  omega

theorem num2_mod (A B : List UInt8) {x k : Nat} (hk : A.length = k) : num2 (A ++ (be2 x ++ B)) k = x % 65536 := by
  have : be2 x = be2 (x % 65536) := by
    unfold be2
    congr 1
    · apply UInt8.toNat_inj.1; simp; omega
    · congr 1; apply UInt8.toNat_inj.1; simp
  rw [this]; exact num2_app A B hk (by omega)

theorem num4_app (A B : List UInt8) {x k : Nat} (hk : A.length = k) (hx : x < 4294967296) : num4 (A ++ (be4 x ++ B)) k = x := by
  unfold num4 be4
  rw [List.append_assoc, num2_app A _ hk (by omega)]
  rw [← List.append_assoc A, num2_mod (A ++ be2 (x / 65536)) B (by simp [hk])]
  omega

theorem slots_split : ∀ (l m : List Str) (e : Nat), slots e (l ++ m) = slots e l ++ slots (e - lens l) m
  | [], m, e => by simp [slots]
  | a :: l, m, e => by simp [slots, slots_split l m, List.append_assoc, Nat.sub_sub]
theorem tails_split : ∀ (l m : List Str), tails (l ++ m) = tails m ++ tails l
  | [], m => by simp [tails]
  | a :: l, m => by simp [tails, tails_split l m, List.append_assoc]

theorem enc_hdr (n : Nd) : enc n = hdr n ++ n.kids.flatMap be4 ++ slots 1024 n.recs ++ List.replicate (1024 - n.size) 0 ++ tails n.recs := by
  simp [enc, hdr]

theorem enc_first (n : Nd) : (enc n)[0]? = some (if n.leaf then 1 else 2) := by simp [enc]

theorem enc_count {n : Nd} (h : n.recs.length < 65536) : num2 (enc n) 1 = n.recs.length := by
  have : enc n = [if n.leaf then 1 else 2] ++ (be2 n.recs.length ++ (n.kids.flatMap be4 ++ slots 1024 n.recs ++ List.replicate (1024 - n.size) 0 ++ tails n.recs)) := by simp [enc]
  rw [this]; exact num2_app _ _ rfl h

theorem enc_kid {n : Nd} {k : Nat} (h : k < n.kids.length) (hx : n.kids[k] < 4294967296) : num4 (enc n) (3 + 4 * k) = n.kids[k] := by
  have e : n.kids = n.kids.take k ++ n.kids[k] :: n.kids.drop (k + 1) := by rw [List.getElem_cons_drop h, List.take_append_drop]
  have : enc n = (hdr n ++ (n.kids.take k).flatMap be4) ++ (be4 n.kids[k] ++ ((n.kids.drop (k + 1)).flatMap be4 ++ slots 1024 n.recs ++ List.replicate (1024 - n.size) 0 ++ tails n.recs)) := by
    have eK : n.kids.flatMap be4 = (n.kids.take k).flatMap be4 ++ (be4 n.kids[k] ++ (n.kids.drop (k + 1)).flatMap be4) := by
      conv => lhs; rw [e]
      rw [List.flatMap_append, List.flatMap_cons]
    rw [enc_hdr, eK]
    simp [List.append_assoc]
  rw [this]; exact num4_app _ _ (by simp only [List.length_append, length_hdr, length_flat4, List.length_take]; omega) hx

theorem enc_slot {n : Nd} {k : Nat} (h : k < n.recs.length) (hs : n.size ≤ 1024) :
    num2 (enc n) (3 + 4 * n.kids.length + 4 * k) = 1024 - lens (n.recs.take k) - n.recs[k].size ∧ num2 (enc n) (3 + 4 * n.kids.length + 4 * k + 2) = n.recs[k].size := by
  have hz : n.size = 3 + 4 * n.kids.length + weigh n.recs := rfl
  have h2 := lens_take_succ n.recs k h
  have h3 := lens_take_le n.recs (k + 1)
  have h4 := weigh_lens n.recs
  have e : n.recs = n.recs.take k ++ n.recs[k] :: n.recs.drop (k + 1) := by rw [List.getElem_cons_drop h, List.take_append_drop]
  have e1 : slots 1024 n.recs = slots 1024 (n.recs.take k) ++ (be2 (1024 - lens (n.recs.take k) - n.recs[k].size) ++ (be2 n.recs[k].size ++ slots (1024 - lens (n.recs.take k) - n.recs[k].size) (n.recs.drop (k + 1)))) := by
    conv => lhs; rw [e]
    rw [slots_split]; simp [slots]
  have e2 : enc n = (hdr n ++ n.kids.flatMap be4 ++ slots 1024 (n.recs.take k)) ++ (be2 (1024 - lens (n.recs.take k) - n.recs[k].size) ++ (be2 n.recs[k].size ++ (slots (1024 - lens (n.recs.take k) - n.recs[k].size) (n.recs.drop (k + 1)) ++ List.replicate (1024 - n.size) 0 ++ tails n.recs))) := by
    rw [enc_hdr, e1]; simp [List.append_assoc]
  have hl : (hdr n ++ n.kids.flatMap be4 ++ slots 1024 (n.recs.take k)).length = 3 + 4 * n.kids.length + 4 * k := by
    simp only [List.length_append, length_hdr, length_flat4, length_slots, List.length_take]; omega
  rw [e2]
  refine ⟨num2_app _ _ hl (by omega), ?_⟩
  rw [← List.append_assoc _ (be2 _)]
  exact num2_app _ _ (by rw [List.length_append, hl, length_be2]) (by omega)

theorem enc_rec {n : Nd} {k : Nat} (h : k < n.recs.length) (hs : n.size ≤ 1024) :
    ((enc n).drop (1024 - lens (n.recs.take k) - n.recs[k].size)).take n.recs[k].size = n.recs[k].data.toList := by
  have hz : n.size = 3 + 4 * n.kids.length + weigh n.recs := rfl
  have h2 := lens_take_succ n.recs k h
  have h3 := lens_take_le n.recs (k + 1)
  have h4 := weigh_lens n.recs
  have e : n.recs = n.recs.take k ++ n.recs[k] :: n.recs.drop (k + 1) := by rw [List.getElem_cons_drop h, List.take_append_drop]
  have e1 : tails n.recs = tails (n.recs.drop (k + 1)) ++ (n.recs[k].data.toList ++ tails (n.recs.take k)) := by
    conv => lhs; rw [e]
    rw [tails_split]; simp [tails]
  have hlen := length_enc hs
  have e2 : enc n = (hdr n ++ n.kids.flatMap be4 ++ slots 1024 n.recs ++ List.replicate (1024 - n.size) 0 ++ tails (n.recs.drop (k + 1))) ++ (n.recs[k].data.toList ++ tails (n.recs.take k)) := by
    rw [enc_hdr, e1]; simp [List.append_assoc]
  have ht := length_tails' (n.recs.take k)
  have hsz : n.recs[k].data.toList.length = n.recs[k].size := rfl
  have hA : (hdr n ++ n.kids.flatMap be4 ++ slots 1024 n.recs ++ List.replicate (1024 - n.size) 0 ++ tails (n.recs.drop (k + 1))).length = 1024 - lens (n.recs.take k) - n.recs[k].size := by
    rw [e2, List.length_append] at hlen
    have h9 : (n.recs[k].data.toList ++ tails (n.recs.take k)).length = n.recs[k].size + lens (n.recs.take k) := by rw [List.length_append, ht, hsz]
    omega
  rw [e2, ← hA, List.drop_left, ← hsz, List.take_left]

end Tw
