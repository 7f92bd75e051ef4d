import Derived.Test.YtanglcdiebkmiaaGreatArena2
set_option linter.unusedSimpArgs false
set_option linter.unusedVariables false
namespace Go.Proofs.YtanglcdiebkmiaaGreat
open Go.RowKit Tw

theorem weigh_take_succ (l : List Str) (k : Nat) (h : k < l.length) : weigh (l.take (k + 1)) = weigh (l.take k) + (4 + l[k].size) := by
  rw [List.take_succ_eq_append_getElem h, weigh_append]; rfl
theorem weigh_take_le (l : List Str) (k : Nat) : weigh (l.take k) ≤ weigh l := by
  conv => rhs; rw [← List.take_append_drop k l, weigh_append]
  omega

set_option maxHeartbeats 400000 in
theorem weigh_ok {a : Option Addr} {c : Nat} {l : List Str} (w : World) (h : RowAt w a (l.map .string)) (hw : weigh l ≤ 1000000) (hn : l.length ≤ 1000000) :
    Calls Tryz.prog 104 #[.slice a l.length c] w fun e w' => e = .returned (.int .i64 (weigh l)) ∧ w' = w := by
  go_enter Tryz.func104, Tryz.ntmps104
  go_wp2
  go_loop [3, 8] (fun n i => ∃ k : Nat, k ≤ l.length ∧ i = .int .i64 k ∧ n = .int .i64 (weigh (l.take k))) (fun _ i => l.length - (intOf i).toNat)
  case atStart => exact ⟨0, Nat.zero_le _, rfl, rfl⟩
  case round =>
    obtain ⟨k, hk, rfl, rfl⟩ := hrel
    by_cases hlt : k < l.length
    · obtain ⟨b, off, rfl, hc⟩ := h.cell (i := k) (by simpa using hlt)
      rw [List.getElem_map] at hc
      have h1 := weigh_take_succ l k hlt
      have h2 := weigh_take_le l (k + 1)
      have H1 := Lib.hid h1
      have hs : l[k].size ≤ 1000000 := by omega
      generalize l[k] = s at hc H1 hs
      have hwk : weigh (l.take k) ≤ 1000000 := by have := H1.out; omega
      clear h1 h2 h
      go_wp2
      go_round
      case rel => exact ⟨k + 1, by omega, by go_num, by rw [H1.out]; go_num⟩
      case measure => simp [intOf]; omega
    · go_wp2
      go_ret
      exact ⟨ret_i64 (by rw [List.take_of_length_le (by omega)]), rfl⟩
end Go.Proofs.YtanglcdiebkmiaaGreat
