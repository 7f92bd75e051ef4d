/- The arena's functions. -/
import Derived.Test.YtanglcdiebkmiaaGreatProg
import Derived.WalkKit
import Derived.LoopTactic
import Derived.Outline
import Derived.WalkSpells
import Derived.WalkLawsBesides
import Derived.BigQuiet
import Derived.Deep.QuietTactic
import Derived.Deep.RegionHeld3
import Derived.Lib.Hide
import Derived.IntWalk
import Derived.Test.YtanglcdiebkmiaaGreatSt
set_option linter.unusedSimpArgs false
set_option linter.unusedVariables false
namespace Go.Proofs.YtanglcdiebkmiaaGreat
open Go.RowKit Tw

theorem ret_i64 {a b : Int} (h : a = b) : Ending.returned (.int .i64 a) = .returned (.int .i64 b) := by rw [h]

/-- What the struct's three cells hold. -/
theorem ArenaAt_cells {w : World} {A : Nat} {st : St} {F : Nat → Prop} {pa fa : Option Addr} {pc fc : Nat} {ptrs : List Value} (h : ArenaAt w A st F pa pc fa fc ptrs) :
    w.cell? ⟨A, 0, none⟩ = some (.slice pa st.pages.length pc) ∧ w.cell? ⟨A, 1, none⟩ = some (.slice fa st.free.length fc) ∧ w.cell? ⟨A, 2, none⟩ = some (.int .i64 st.quota) ∧
    w.frozen? ⟨A, 0, none⟩ = false ∧ w.frozen? ⟨A, 1, none⟩ = false ∧ w.frozen? ⟨A, 2, none⟩ = false := by
  refine ⟨?_, ?_, ?_, frozen_at h.blk 0, frozen_at h.blk 1, frozen_at h.blk 2⟩ <;> rw [cell_at h.blk] <;> rfl

set_option maxHeartbeats 400000 in
/-- A page in use: nothing is wrong with its number. -/
theorem is_ok {A id : Nat} {st : St} {F : Nat → Prop} {p : Pg} (w : World) (h : Arena w A st F) (hp : st.get id = some p) :
    Calls Tryz.prog 63 #[.pointer (some ⟨A, 0, none⟩), .int .i64 id] w fun e w' => e = .returned (.int .i64 0) ∧ w = w' := by
  obtain ⟨pa, pc, fa, fc, ptrs, h⟩ := h
  obtain ⟨h1, h2, h3⟩ := St.get_some hp
  have hlen := h.wf.len
  obtain ⟨g, hg1, hg2, _⟩ := h.ptrs.2 (id - 1) (some p) h3
  obtain ⟨b, off, rfl, hc⟩ := (RowAt.ofOwns h.pages).cell (i := id - 1) (by rw [h.ptrs.1]; omega)
  have hcell : w.cell? ⟨b, off + (id - 1), none⟩ = some (.pointer (some ⟨g, 0, none⟩)) := by
    rw [hc]; congr 1; exact (List.getElem?_eq_some_iff.1 hg1).2
  obtain ⟨c0, _⟩ := ArenaAt_cells h
  have hb1 : (0 : Int) ≤ (id : Int) - 1 := by omega
  have hb2 : ((id : Int) - 1).toNat = id - 1 := by omega
  have hb3 : (id : Int) - 1 < st.pages.length := by omega
  clear hc hg1 hg2 h h3
  go_enter Tryz.func63, Tryz.ntmps63
  go_wp2
  go_ret
  exact ⟨rfl, rfl⟩

theorem Arena_free_le {w : World} {A : Nat} {st : St} {F : Nat → Prop} (h : Arena w A st F) : st.free.length ≤ st.pages.length := h.wf.freeLe

set_option maxHeartbeats 400000 in
theorem Used_ok {A : Nat} {st : St} {F : Nat → Prop} (w : World) (h : Arena w A st F) :
    Calls Tryz.prog 13 #[.pointer (some ⟨A, 0, none⟩)] w fun e w' => e = .returned (.int .i64 st.used) ∧ ∃ m, w' = w.drewN m := by
  have hle := Arena_free_le h
  have hl4 := h.wf.len
  have hu : ((st.pages.length : Int) - (st.free.length : Int)) = (st.used : Int) := by unfold St.used; omega
  obtain ⟨pa, pc, fa, fc, ptrs, h⟩ := h
  obtain ⟨c0, c1, _⟩ := ArenaAt_cells h
  have hw := IntWalk.i64_in ((st.pages.length : Int) - (st.free.length : Int)) (by omega)
  clear h
  go_enter Tryz.func13, Tryz.ntmps13
  go_wp2
  go_quiet (fail)
  go_wp2
  go_ret
  exact ⟨by simp [*], _, rfl⟩

theorem drewN_ext (w : World) (n : Nat) : Ext No w (w.drewN n) := (Ext.refl _ _).drewN n

set_option maxHeartbeats 400000 in
theorem Left_ok {A : Nat} {st : St} {F : Nat → Prop} (w : World) (h : Arena w A st F) :
    Calls Tryz.prog 40 #[.pointer (some ⟨A, 0, none⟩)] w fun e w' => e = .returned (.int .i64 st.left) ∧ ∃ m, w' = w.drewN m := by
  have hU := fun n => Used_ok _ (h.extNo (drewN_ext w n))
  have hle : st.used ≤ 4096 := by have := h.wf.len; unfold St.used; omega
  have hq := h.wf.quota
  obtain ⟨pa, pc, fa, fc, ptrs, h⟩ := h
  obtain ⟨_, _, c2, _⟩ := ArenaAt_cells h
  have hw := IntWalk.i64_in ((st.quota : Int) - (st.used : Int)) (by omega)
  clear h
  have HU := Lib.hid hU
  clear hU
  go_enter Tryz.func40, Tryz.ntmps40
  go_wp2
  go_quiet ((go_at_call 13; exact Calls.quiet_of (HU.out _)))
  go_wp2
  all_goals
    go_ret
    refine ⟨?_, _, rfl⟩
    simp only [Array.getD_eq_getD_getElem?, List.getElem?_toArray, List.getElem?_cons_succ, List.getElem?_cons_zero, Option.getD_some]
    refine ret_i64 ?_
    unfold St.left; omega
end Go.Proofs.YtanglcdiebkmiaaGreat
