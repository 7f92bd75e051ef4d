import Derived.Test.YtanglcdiebkmiaaGreatFault
import Derived.Test.YtanglcdiebkmiaaGreatEncode
import Derived.Laws.BitsAllLaws
set_option linter.unusedSimpArgs false
set_option linter.unusedVariables false
namespace Go.Proofs.YtanglcdiebkmiaaGreat
open Go.RowKit Tw

/-- The reader: its struct is block o; the bytes l lie from ⟨b, off⟩ on. -/
structure InAt (w : World) (o b off c : Nat) (l : List UInt8) (at_ : Nat) : Prop where
  st : w.heap[o]? = some (.cells #[.slice (some ⟨b, off, none⟩) 1024 c, .int .i64 at_] 172 (0, 0))
  row : ∀ (i : Nat) (h : i < l.length), w.cell? ⟨b, off + i, none⟩ = some (u8 l[i])
  len : l.length = 1024
  ne : b ≠ o

/-- Two bytes' number. -/
def num2 (l : List UInt8) (k : Nat) : Nat := (l.getD k 0).toNat * 256 + (l.getD (k + 1) 0).toNat
theorem num2_eq {l : List UInt8} {k : Nat} (h : k + 1 < l.length) : num2 l k = l[k].toNat * 256 + l[k + 1].toNat := by
  unfold num2; rw [List.getD_eq_getElem?_getD, List.getD_eq_getElem?_getD, List.getElem?_eq_getElem h, List.getElem?_eq_getElem (by omega)]; rfl
theorem num2_lt (l : List UInt8) (k : Nat) : num2 l k < 65536 := by
  unfold num2; have := (l.getD k 0).toNat_lt; have := (l.getD (k + 1) 0).toNat_lt; omega

theorem or_i64 (a b k : Nat) (hb : b < 2 ^ k) (ha : a * 2 ^ k + b < 9223372036854775808) : bits .or .i64 ((a : Int) * ((2 ^ k : Nat) : Int)) (b : Int) = ((a * 2 ^ k + b : Nat) : Int) := by
  have e : a * 2 ^ k ||| b = a * 2 ^ k + b := by rw [← Nat.shiftLeft_eq, Nat.shiftLeft_add_eq_or_of_lt hb]
  have e1 : (a : Int) * ((2 ^ k : Nat) : Int) = ((a * 2 ^ k : Nat) : Int) := by push_cast; rfl
  rw [e1, ← e]
  show IntKind.i64.wrap ((BitVec.ofInt 64 ((a * 2 ^ k : Nat) : Int) ||| BitVec.ofInt 64 (b : Int)).toNat : Int) = _
  rw [BitVec.toNat_or, ofInt_u64 _ (by omega), ofInt_u64 b (by omega), e, IntKind.wrap_i64]
  omega

theorem inTwo_post {o b off c at_ : Nat} {l : List UInt8} {w w' : World} (h : InAt w o b off c l at_) {nq m : Nat}
    (he : Ext (Only o) w w') (hst : w'.heap[o]? = some (.cells #[.slice (some ⟨b, off, none⟩) 1024 c, .int .i64 ((at_ : Int) + 2)] 172 (0, 0))) : InAt w' o b off c l (at_ + 2) ∧ Ext (Only o) w w' :=
  ⟨⟨by rw [hst]; rfl, fun i hi => he.cellSome (h.row i hi) h.ne, h.len, h.ne⟩, he⟩

set_option maxHeartbeats 2000000 in
theorem inTwo_ok {o b off c at_ : Nat} {l : List UInt8} (w : World) (h : InAt w o b off c l at_) (ha : at_ + 2 ≤ 1024) :
    Calls Tryz.prog 128 #[.pointer (some ⟨o, 0, none⟩)] w fun e w' => e = .returned (.int .i64 (num2 l at_)) ∧ InAt w' o b off c l (at_ + 2) ∧ Ext (Only o) w w' := by
  have c0 : w.cell? ⟨o, 0, none⟩ = some (.slice (some ⟨b, off, none⟩) 1024 c) := by rw [cell_at h.st]; rfl
  have c1 : w.cell? ⟨o, 1, none⟩ = some (.int .i64 at_) := by rw [cell_at h.st]; rfl
  have z1 := frozen_at h.st 1
  have hl := h.len
  have b0 := h.row at_ (by omega)
  have b1 := h.row (at_ + 1) (by omega)
  unfold u8 at b0 b1
  have hne := h.ne
  have hnum : num2 l at_ = (l[at_]'(by omega)).toNat * 256 + (l[at_ + 1]'(by omega)).toNat := num2_eq (by omega)
  have HV := Lib.hid hnum
  clear hnum
  generalize l[at_]'(by omega) = v0 at b0 HV
  generalize l[at_ + 1]'(by omega) = v1 at b1 HV
  have hv0 := v0.toNat_lt
  have hv1 := v1.toNat_lt
  have hw1 : IntKind.i64.wrap ((1024 : Int) - (at_ : Int)) = 1024 - (at_ : Int) := IntWalk.i64_in _ (by omega)
  have hw2 : IntKind.i64.wrap ((at_ : Int) + 2) = (at_ : Int) + 2 := IntWalk.i64_in _ (by omega)
  have hb : decide ((1024 : Int) - (at_ : Int) < 2) = false := by simp; omega
  have hx : ((at_ : Int) + 2 - 2) = (at_ : Int) := by omega
  have hy : ((at_ : Int) + 2 - 1) = (at_ : Int) + 1 := by omega
  have hy0 : ((at_ : Int) + 1).toNat = at_ + 1 := by omega
  have hy1 : (0 : Int) ≤ (at_ : Int) + 1 := by omega
  have hy2 : (at_ : Int) + 1 < 1024 := by omega
  have hy3 : (at_ : Int) < 1024 := by omega
  have H := Lib.hid h
  clear h hl
  go_enter Tryz.func128, Tryz.ntmps128
  go_wp2
  go_quiet (fail)
  go_wp2
  have e5 : Ext (Only o) w ((w.drewN nq).setCell ⟨o, 1, none⟩ (.int .i64 ((at_ : Int) + 2))) := ((Ext.refl (Only o) w).drewN nq).setCell (p := ⟨o, 1, none⟩) (.inl rfl) _
  have d0 : ((w.drewN nq).setCell ⟨o, 1, none⟩ (.int .i64 ((at_ : Int) + 2))).cell? ⟨o, 0, none⟩ = some (.slice (some ⟨b, off, none⟩) 1024 c) := by go_simp
  have d1 : ((w.drewN nq).setCell ⟨o, 1, none⟩ (.int .i64 ((at_ : Int) + 2))).cell? ⟨o, 1, none⟩ = some (.int .i64 ((at_ : Int) + 2)) := by go_simp
  have b0' := e5.cellSome b0 hne
  have b1' := e5.cellSome b1 hne
  have E5 := Lib.hid e5
  have hs5 : ((w.drewN nq).setCell ⟨o, 1, none⟩ (.int .i64 ((at_ : Int) + 2))).heap[o]? = some (.cells #[.slice (some ⟨b, off, none⟩) 1024 c, .int .i64 ((at_ : Int) + 2)] 172 (0, 0)) := by
    rw [heap_setCell_at (w := w.drewN nq) H.out.st]; simp
  have HS5 := Lib.hid hs5
  clear hs5
  clear e5 b0 b1 c0 c1
  generalize (w.drewN nq).setCell ⟨o, 1, none⟩ (.int .i64 ((at_ : Int) + 2)) = W5 at *
  have hs0 : IntKind.i64.wrap ((at_ : Int) + 2 - 2) = (at_ : Int) := by rw [hx]; exact IntWalk.i64_in _ (by omega)
  have hs1 : IntKind.i64.wrap ((at_ : Int) + 2 - 1) = (at_ : Int) + 1 := by rw [hy]; exact IntWalk.i64_in _ (by omega)
  go_quiet (fail)
  go_wp2
  go_ret
  have hor := or_i64 v0.toNat v1.toNat 8 (by omega) (by omega)
  simp only [show (2 : Nat) ^ 8 = 256 from rfl] at hor
  refine ⟨?_, inTwo_post (nq := 0) (m := 0) H.out (E5.out.drewN nq) HS5.out⟩
  refine (ret_i64 hor).trans ?_
  rw [HV.out]

def num4 (l : List UInt8) (k : Nat) : Nat := num2 l k * 65536 + num2 l (k + 2)

set_option maxHeartbeats 1000000 in
theorem inFour_ok {o b off c at_ : Nat} {l : List UInt8} (w : World) (h : InAt w o b off c l at_) (ha : at_ + 4 ≤ 1024) :
    Calls Tryz.prog 129 #[.pointer (some ⟨o, 0, none⟩)] w fun e w' => e = .returned (.int .i64 (num4 l at_)) ∧ InAt w' o b off c l (at_ + 4) ∧ Ext (Only o) w w' := by
  have h1 := inTwo_ok w h (by omega)
  have H1 := Lib.hid h1
  clear h1 h
  go_enter Tryz.func129, Tryz.ntmps129
  go_wp2_with (fail)
  refine H1.out.mono ?_
  rintro e w1 ⟨rfl, h2, he⟩
  have H2 := Lib.hid (inTwo_ok w1 h2 (by omega))
  have HE := Lib.hid he
  clear h2 he
  have hx := num2_lt l at_
  have hy := num2_lt l (at_ + 2)
  have hor := or_i64 (num2 l at_) (num2 l (at_ + 2)) 16 (by omega) (by omega)
  simp only [show (2 : Nat) ^ 16 = 65536 from rfl] at hor
  have hdef : num4 l at_ = num2 l at_ * 65536 + num2 l (at_ + 2) := rfl
  rw [← hdef] at hor
  have HOR := Lib.hid hor
  clear hor hdef
  go_wp2_with (fail)
  refine H2.out.mono ?_
  rintro e w2 ⟨rfl, h3, he3⟩
  have H3 := Lib.hid h3
  have HE3 := Lib.hid (HE.out.trans he3)
  clear h3 he3
  go_wp2_with (fail)
  go_ret
  exact ⟨ret_i64 HOR.out, H3.out, HE3.out⟩
end Go.Proofs.YtanglcdiebkmiaaGreat
