/- The references' Same on texts. -/
import Derived.Test.YtanglcdiebkmiaaStep
set_option linter.unusedSimpArgs false
set_option linter.unusedVariables false
namespace Go.Proofs.Ytanglcdiebkmiaa
open Go.RowKit Tw

set_option maxHeartbeats 400000 in
theorem Same_eq {a b : Option Addr} {c d : Nat} {l : List Str} (w : World) (ha : RowAt w a (l.map .string)) (hb : RowAt w b (l.map .string)) (hn : l.length ≤ 1000000000) :
    Calls Try.prog 13 #[.slice a l.length c, .slice b l.length d] w (Gives (.bool true) w) := by
  have hne : ((l.length : Int) != (l.length : Int)) = false := by simp
  have HA := Lib.hid ha
  have HB := Lib.hid hb
  clear ha hb
  go_enter Try.func13, Try.ntmps13
  go_wp2_with (fail)
  go_loopw [5] (fun i wr => ∃ k : Nat, i = .int .i64 k ∧ k ≤ l.length ∧ Hid (Ext No w wr)) (fun i _ => l.length - (intOf i).toNat)
  case atStart => exact ⟨0, rfl, Nat.zero_le _, Ext.refl _ _⟩
  case round =>
    obtain ⟨k, rfl, hk, hq⟩ := hrel
    by_cases hlt : k < l.length
    · have hx := hq.out
      obtain ⟨ba, oa, rfl, hca⟩ := (HA.out.extNo hx).cell (i := k) (by rw [List.length_map]; exact hlt)
      obtain ⟨bb, ob, rfl, hcb⟩ := (HB.out.extNo hx).cell (i := k) (by rw [List.length_map]; exact hlt)
      rw [List.getElem_map] at hca hcb
      clear hx
      generalize l[k] = s at *
      have s1 : IntKind.i64.wrap ((k : Int) + 1) = (k : Int) + 1 := IntWalk.i64_in _ (by omega)
      have b1 : (s.toList != s.toList) = false := by simp
      have q1 : (0 : Int) ≤ (k : Int) := by omega
      have q2 : (k : Int) < (l.length : Int) := by omega
      go_wp2_with (fail)
      go_quiet (fail)
      go_wp2_with (fail)
      go_roundw
      case rel => exact ⟨k + 1, by go_num, by omega, hq.out.drewN _⟩
      case measure => simp [intOf]; omega
    · have hk' : k = l.length := by omega
      have HK := Lib.hid hk'
      clear hk'
      go_wp2_with (fail)
      go_ret
      exact ⟨rfl, hq.out⟩
end Go.Proofs.Ytanglcdiebkmiaa
