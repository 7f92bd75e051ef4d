/- slices.Clone at bytes, strings, ints. -/
import Derived.Test.YtanglcdiebkmiaaGreatAlloc
set_option linter.unusedSimpArgs false
set_option linter.unusedVariables false
namespace Go.Proofs.YtanglcdiebkmiaaGreat
open Go.RowKit Tw

theorem info_u8 : (Tryz.prog.info? 5).map (fun i => (i.zero, i.size, i.bytes)) = some (some (.int .u8 0), 1, 1) := by kernel_rfl
theorem info_str : (Tryz.prog.info? 9).map (fun i => (i.zero, i.size, i.bytes)) = some (some (.string ⟨#[]⟩), 1, 16) := by kernel_rfl
theorem info_int : (Tryz.prog.info? 3).map (fun i => (i.zero, i.size, i.bytes)) = some (some (.int .i64 0), 1, 8) := by kernel_rfl

/-- A call that hands back a row of its own. -/
def Owned (T : TypeId) (xs : List Value) (w : World) (e : Ending) (w' : World) : Prop :=
  ∃ v, e = .returned v ∧ w'.ownsRow w.heap.size T 1 v xs.length xs ∧ Ext No w w'

theorem rowAt_add {w : World} {b off : Nat} {xs : List Value} (h : RowAt w (some ⟨b, off, none⟩) xs) : ∀ j u, xs[j]? = some u → w.cell? ((⟨b, off, none⟩ : Addr).add j) = some u := by
  intro j u hj
  rcases h with rfl | ⟨b', off', hb, hc⟩
  · simp at hj
  · cases hb
    rw [Addr.add_lit]; exact hc j u hj


set_option maxHeartbeats 400000 in
theorem CloneB {b off c : Nat} {xs : List Value} (w : World) (h : RowAt w (some ⟨b, off, none⟩) xs) (h1 : ∀ u ∈ xs, u.oneCell' = true) (hn : xs.length * 1 ≤ 140737488355328) :
    Calls Tryz.prog 64 #[.slice (some ⟨b, off, none⟩) xs.length c] w (Owned 5 xs w) := by
  have hnil := fun (w : World) (n c : Nat) => Lib.run_eql_slice_nil (P := Tryz.prog) w 83 5 (some ⟨b, off, none⟩) n c 0 0 Tryz.underlying83
  have H := Lib.hid h
  have H1 := Lib.hid h1
  clear h h1
  obtain ⟨i0, hi, hz0, hz1, hz2⟩ := info_parts info_u8
  go_enter Tryz.func64, Tryz.ntmps64
  go_wp2_with (at_builtin; refine wpList_append_own _ rfl _ _ 83 rfl w.heap.size 5 i0 (.int .u8 0) 1 1 Tryz.underlying83 hi hz0 hz1 hz2 rfl (by decide) _ 0 [] rfl (World.ownsRow_made _ _ _ (by simp) (by decide) (by simp)) ⟨b, off, none⟩ xs.length c xs rfl (by simp) ?c1 ?c2 ?c3 ?c4 ?c5 ?_)
  case c1 => exact rowAt_add (H.out.extNo ((Ext.refl _ _).alloc _))
  case c2 => exact H1.out
  case c3 => unfold maxLen; omega
  case c4 => omega
  case c5 => simp
  intro v' w1 hown hg _
  have HX := Lib.hid (((Ext.refl No w).alloc _).grownBy hg fun k hk => by simp [Value.ownBlock] at hk; exact .inr (by omega))
  have HO := Lib.hid hown
  clear hown hg
  go_wp2
  go_ret
  exact ⟨v', rfl, HO.out, HX.out⟩

set_option maxHeartbeats 400000 in
theorem CloneB_nil (w : World) : Calls Tryz.prog 64 #[.slice none 0 0] w (Owned 5 [] w) := by
  have hnil := fun (w : World) (n c : Nat) => Lib.run_eql_slice_nil (P := Tryz.prog) w 83 5 none n c 0 0 Tryz.underlying83
  go_enter Tryz.func64, Tryz.ntmps64
  go_wp2
  go_ret
  exact ⟨_, rfl, World.ownsRow_nil _ _ _ _, Ext.refl _ _⟩

/-- Of whatever row: nil, or one that can be read. -/
theorem CloneB_any {a : Option Addr} {c : Nat} {xs : List Value} (w : World) (h : RowAt w a xs) (h0 : a = none → xs = [] ∧ c = 0) (hs : ∀ p, a = some p → p.spot = none) (h1 : ∀ u ∈ xs, u.oneCell' = true) (hn : xs.length * 1 ≤ 140737488355328) :
    Calls Tryz.prog 64 #[.slice a xs.length c] w (Owned 5 xs w) := by
  cases a with
  | none => obtain ⟨rfl, rfl⟩ := h0 rfl; exact CloneB_nil w
  | some p =>
    obtain ⟨b, off, spot⟩ := p
    have := hs _ rfl
    simp only at this; subst this
    exact CloneB w h h1 hn

set_option maxHeartbeats 400000 in
theorem CloneS {b off c : Nat} {xs : List Value} (w : World) (h : RowAt w (some ⟨b, off, none⟩) xs) (h1 : ∀ u ∈ xs, u.oneCell' = true) (hn : xs.length * 16 ≤ 140737488355328) :
    Calls Tryz.prog 124 #[.slice (some ⟨b, off, none⟩) xs.length c] w (Owned 9 xs w) := by
  have hnil := fun (w : World) (n c : Nat) => Lib.run_eql_slice_nil (P := Tryz.prog) w 33 9 (some ⟨b, off, none⟩) n c 0 0 Tryz.underlying33
  have H := Lib.hid h
  have H1 := Lib.hid h1
  clear h h1
  obtain ⟨i0, hi, hz0, hz1, hz2⟩ := info_parts info_str
  go_enter Tryz.func124, Tryz.ntmps124
  go_wp2_with (at_builtin; refine wpList_append_own _ rfl _ _ 33 rfl w.heap.size 9 i0 (.string ⟨#[]⟩) 1 16 Tryz.underlying33 hi hz0 hz1 hz2 rfl (by decide) _ 0 [] rfl (World.ownsRow_made _ _ _ (by simp) (by decide) (by simp)) ⟨b, off, none⟩ xs.length c xs rfl (by simp) ?c1 ?c2 ?c3 ?c4 ?c5 ?_)
  case c1 => exact rowAt_add (H.out.extNo ((Ext.refl _ _).alloc _))
  case c2 => exact H1.out
  case c3 => unfold maxLen; omega
  case c4 => omega
  case c5 => simp
  intro v' w1 hown hg _
  have HX := Lib.hid (((Ext.refl No w).alloc _).grownBy hg fun k hk => by simp [Value.ownBlock] at hk; exact .inr (by omega))
  have HO := Lib.hid hown
  clear hown hg
  go_wp2
  go_ret
  exact ⟨v', rfl, HO.out, HX.out⟩

set_option maxHeartbeats 400000 in
theorem CloneS_nil (w : World) : Calls Tryz.prog 124 #[.slice none 0 0] w (Owned 9 [] w) := by
  have hnil := fun (w : World) (n c : Nat) => Lib.run_eql_slice_nil (P := Tryz.prog) w 33 9 none n c 0 0 Tryz.underlying33
  go_enter Tryz.func124, Tryz.ntmps124
  go_wp2
  go_ret
  exact ⟨_, rfl, World.ownsRow_nil _ _ _ _, Ext.refl _ _⟩

/-- Of whatever row: nil, or one that can be read. -/
theorem CloneS_any {a : Option Addr} {c : Nat} {xs : List Value} (w : World) (h : RowAt w a xs) (h0 : a = none → xs = [] ∧ c = 0) (hs : ∀ p, a = some p → p.spot = none) (h1 : ∀ u ∈ xs, u.oneCell' = true) (hn : xs.length * 16 ≤ 140737488355328) :
    Calls Tryz.prog 124 #[.slice a xs.length c] w (Owned 9 xs w) := by
  cases a with
  | none => obtain ⟨rfl, rfl⟩ := h0 rfl; exact CloneS_nil w
  | some p =>
    obtain ⟨b, off, spot⟩ := p
    have := hs _ rfl
    simp only at this; subst this
    exact CloneS w h h1 hn

set_option maxHeartbeats 400000 in
theorem CloneI {b off c : Nat} {xs : List Value} (w : World) (h : RowAt w (some ⟨b, off, none⟩) xs) (h1 : ∀ u ∈ xs, u.oneCell' = true) (hn : xs.length * 8 ≤ 140737488355328) :
    Calls Tryz.prog 83 #[.slice (some ⟨b, off, none⟩) xs.length c] w (Owned 3 xs w) := by
  have hnil := fun (w : World) (n c : Nat) => Lib.run_eql_slice_nil (P := Tryz.prog) w 41 3 (some ⟨b, off, none⟩) n c 0 0 Tryz.underlying41
  have H := Lib.hid h
  have H1 := Lib.hid h1
  clear h h1
  obtain ⟨i0, hi, hz0, hz1, hz2⟩ := info_parts info_int
  go_enter Tryz.func83, Tryz.ntmps83
  go_wp2_with (at_builtin; refine wpList_append_own _ rfl _ _ 41 rfl w.heap.size 3 i0 (.int .i64 0) 1 8 Tryz.underlying41 hi hz0 hz1 hz2 rfl (by decide) _ 0 [] rfl (World.ownsRow_made _ _ _ (by simp) (by decide) (by simp)) ⟨b, off, none⟩ xs.length c xs rfl (by simp) ?c1 ?c2 ?c3 ?c4 ?c5 ?_)
  case c1 => exact rowAt_add (H.out.extNo ((Ext.refl _ _).alloc _))
  case c2 => exact H1.out
  case c3 => unfold maxLen; omega
  case c4 => omega
  case c5 => simp
  intro v' w1 hown hg _
  have HX := Lib.hid (((Ext.refl No w).alloc _).grownBy hg fun k hk => by simp [Value.ownBlock] at hk; exact .inr (by omega))
  have HO := Lib.hid hown
  clear hown hg
  go_wp2
  go_ret
  exact ⟨v', rfl, HO.out, HX.out⟩

set_option maxHeartbeats 400000 in
theorem CloneI_nil (w : World) : Calls Tryz.prog 83 #[.slice none 0 0] w (Owned 3 [] w) := by
  have hnil := fun (w : World) (n c : Nat) => Lib.run_eql_slice_nil (P := Tryz.prog) w 41 3 none n c 0 0 Tryz.underlying41
  go_enter Tryz.func83, Tryz.ntmps83
  go_wp2
  go_ret
  exact ⟨_, rfl, World.ownsRow_nil _ _ _ _, Ext.refl _ _⟩

/-- Of whatever row: nil, or one that can be read. -/
theorem CloneI_any {a : Option Addr} {c : Nat} {xs : List Value} (w : World) (h : RowAt w a xs) (h0 : a = none → xs = [] ∧ c = 0) (hs : ∀ p, a = some p → p.spot = none) (h1 : ∀ u ∈ xs, u.oneCell' = true) (hn : xs.length * 8 ≤ 140737488355328) :
    Calls Tryz.prog 83 #[.slice a xs.length c] w (Owned 3 xs w) := by
  cases a with
  | none => obtain ⟨rfl, rfl⟩ := h0 rfl; exact CloneI_nil w
  | some p =>
    obtain ⟨b, off, spot⟩ := p
    have := hs _ rfl
    simp only at this; subst this
    exact CloneI w h h1 hn
end Go.Proofs.YtanglcdiebkmiaaGreat
