import Derived.Test.YtanglcdiebkmiaaGreatDecode
import Derived.Test.YtanglcdiebkmiaaGreatShelf
set_option linter.unusedSimpArgs false
set_option linter.unusedVariables false
namespace Go.Proofs.YtanglcdiebkmiaaGreat
open Go.RowKit Tw

/-- Is s an entry (of a rising list)? -/
def hasB (l : List Str) (s : Str) : Bool := decide (below l s < l.length ∧ l.getD (below l s) ByteArray.empty = s)

theorem hasB_iff {l : List Str} {s : Str} (hl : Sorted l) : hasB l s = true ↔ s ∈ l := by
  unfold hasB
  rw [decide_eq_true_iff, mem_iff_below hl]
  constructor
  · rintro ⟨h, e⟩; exact ⟨h, by rwa [List.getD_eq_getElem?_getD, List.getElem?_eq_getElem h] at e⟩
  · rintro ⟨h, e⟩; exact ⟨h, by rwa [List.getD_eq_getElem?_getD, List.getElem?_eq_getElem h]⟩

theorem bsGo_congr (f g : Nat → Bool) (N : Nat) (h : ∀ t, t < N → f t = g t) : ∀ (fuel lo hi : Nat), hi ≤ N → Lib.bsGo f fuel lo hi = Lib.bsGo g fuel lo hi
  | 0, _, _, _ => rfl
  | n + 1, lo, hi, hN => by
    unfold Lib.bsGo
    by_cases hl : lo < hi
    · rw [if_pos hl, if_pos hl, h _ (by omega), bsGo_congr f g N h n _ hi hN, bsGo_congr f g N h n lo _ (by omega)]
    · rw [if_neg hl, if_neg hl]

theorem getD_lt {l : List Str} {t : Nat} (h : t < l.length) : l.getD t ByteArray.empty = l[t] := by
  rw [List.getD_eq_getElem?_getD, List.getElem?_eq_getElem h]; rfl

theorem Bin_ok {a : Option Addr} {c : Nat} {l : List Str} {s : Str} (w : World) (h : RowAt w a (l.map .string)) (hs : Sorted l) (hn : l.length ≤ 1000000) :
    Calls Tryz.prog 106 #[.slice a l.length c, .string s] w fun e w' => e = .returned (.tuple #[.int .i64 (below l s), .bool (hasB l s)]) ∧ ∃ q, w' = w.drewN q := by
  rcases h with h0 | ⟨b, off, rfl, hc⟩
  · have hl : l = [] := by simpa using h0
    subst hl
    exact (Any2.slices_BinarySearch_string_empty Tryz.laysBinS a c s w).mono fun e w' ⟨he, hw⟩ => ⟨by rw [he]; rfl, 0, hw⟩
  · have := Any2.slices_BinarySearch_string Tryz.laysBinS b off l.length c (fun j => l.getD j ByteArray.empty) s w (by omega) (fun j hj => hc j _ (by
      rw [List.getElem?_map, List.getElem?_eq_getElem hj, getD_lt hj]; rfl))
    have hb : Lib.bsGo (fun t => decide (t < below l s)) l.length 0 l.length = below l s :=
      Lib.bsGo_spec _ (below l s) (fun t ht => by simpa using ht) (fun t ht => by simpa using ht) _ _ _ (by omega) (Nat.zero_le _) (below_le l s)
    have hb2 : Lib.bsGo (fun t => Op.bytesLess (l.getD t ByteArray.empty).toList s.toList) l.length 0 l.length = below l s := by
      rw [← hb]
      refine bsGo_congr _ _ (l.length) (fun t ht => ?_) _ _ _ (Nat.le_refl _)
      show slt (l.getD t ByteArray.empty) s = _
      rw [getD_lt ht]
      rcases Nat.lt_or_ge t (below l s) with h | h
      · rw [getElem_below_lt h ht]; simp [h]
      · rw [getElem_below_ge hs h ht]; simp [h]
    rw [hb2] at this
    exact this.mono fun e w' ⟨he, hw⟩ => ⟨by rw [he]; rfl, hw⟩

set_option maxHeartbeats 400000 in
theorem Find_ok {ra ka : Option Addr} {rc kc : Nat} {n : Nd} {s : Str} (w : World) (h : NodeIn w ra ka n) (hs : Sorted n.recs) (hn : n.recs.length ≤ 1000000) :
    Calls Tryz.prog 75 #[nodeVal n ra rc ka kc, .string s] w (Gives (.tuple #[.int .i64 (below n.recs s), .bool (hasB n.recs s)]) w) := by
  have hB := fun w' (he : Ext No w w') => Bin_ok (c := rc) (s := s) w' (h.recs.extNo he) hs hn
  have HB := Lib.hid hB
  clear hB h hs
  unfold nodeVal
  go_enter Tryz.func75, Tryz.ntmps75
  go_wp2_with (fail)
  refine (HB.out _ ((Ext.refl No w).alloc _)).mono ?_
  rintro e w1 ⟨rfl, q, rfl⟩
  go_wp2_with (fail)
  go_ret2
  exact ⟨rfl, ((Ext.refl No w).alloc _).drewN q⟩

/-- Below which kid an entry stands. -/
def kidIx (l : List Str) (s : Str) : Nat := below l s + if hasB l s then 1 else 0

set_option maxHeartbeats 400000 in
theorem Kid_ok {ra ka : Option Addr} {rc kc : Nat} {n : Nd} {s : Str} (w : World) (h : NodeIn w ra ka n) (hs : Sorted n.recs) (hn : n.recs.length ≤ 1000000) :
    Calls Tryz.prog 70 #[nodeVal n ra rc ka kc, .string s] w (Gives (.int .i64 (kidIx n.recs s)) w) := by
  have hF := fun w' (he : Ext No w w') => Find_ok (rc := rc) (kc := kc) (s := s) w' (h.extNo he) hs hn
  have hle := below_le n.recs s
  have HF := Lib.hid hF
  clear hF h hs
  unfold kidIx
  unfold nodeVal at *
  generalize below n.recs s = k at *
  cases hb : hasB n.recs s
  · rw [hb] at HF
    have HB := Lib.hid hb
    clear hb
    go_enter Tryz.func70, Tryz.ntmps70
    go_wp2_with (fail)
    refine (HF.out _ ((Ext.refl No w).alloc _)).mono ?_
    rintro e w1 ⟨rfl, he⟩
    have HE := Lib.hid (((Ext.refl No w).alloc _).trans' he fun _ _ f => f)
    clear he
    go_wp2_with (fail)
    go_ret
    exact ⟨rfl, HE.out⟩
  · rw [hb] at HF
    have HB := Lib.hid hb
    clear hb
    go_enter Tryz.func70, Tryz.ntmps70
    go_wp2_with (fail)
    refine (HF.out _ ((Ext.refl No w).alloc _)).mono ?_
    rintro e w1 ⟨rfl, he⟩
    have HE := Lib.hid (((Ext.refl No w).alloc _).trans' he fun _ _ f => f)
    clear he
    go_wp2_with (fail)
    go_ret
    exact ⟨ret_i64 (by simp), HE.out⟩
end Go.Proofs.YtanglcdiebkmiaaGreat
