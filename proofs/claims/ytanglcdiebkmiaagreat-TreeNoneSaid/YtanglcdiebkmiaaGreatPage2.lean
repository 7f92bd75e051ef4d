import Derived.Test.YtanglcdiebkmiaaGreatPage1
set_option linter.unusedSimpArgs false
set_option linter.unusedVariables false
namespace Go.Proofs.YtanglcdiebkmiaaGreat
open Go.RowKit Tw

/-- How a search by a function ends. -/
def Found (J Stop : Nat → World → Prop) (n : Nat) (mk : Option Nat → Value) (e : Ending) (w' : World) : Prop :=
  (∃ k, k < n ∧ e = .returned (mk (some k)) ∧ Stop k w') ∨ (e = .returned (mk none) ∧ J n w')

def AskPost (J Stop : Nat → World → Prop) (k : Nat) (e : Ending) (w' : World) : Prop :=
  ∃ b, e = .returned (.bool b) ∧ (b = true → Stop k w') ∧ (b = false → J (k + 1) w')

/-- slices.IndexFunc at []int: whatever the function does. -/
theorem IndexFunc_ok {a : Option Addr} {c g : Nat} {xs : List Nat} (first caps : Array Value) (w : World) (J Stop : Nat → World → Prop)
    (hg : ∀ args w, (callFunc g args).run Tryz.prog w = .ok (.enter g args) w)
    (hx : xs.length ≤ 1000000) (hrow : ∀ k w, J k w → RowAt w a (xs.map i64))
    (hf : ∀ (k : Nat) (hk : k < xs.length) w, J k w → Calls Tryz.prog g (first.push (i64 xs[k]) ++ caps) w (AskPost J Stop k)) (h0 : J 0 w) :
    Calls Tryz.prog 130 #[.slice a xs.length c, .func (.func g) first caps] w (Found J Stop xs.length fun o => match o with | some k => .int .i64 k | none => .int .i64 (-1)) := by
  go_enter Tryz.func130, Tryz.ntmps130
  go_wp2
  go_loopw [8] (fun i wr => ∃ k : Nat, k ≤ xs.length ∧ i = .int .i64 k ∧ Hid (J k wr)) (fun i _ => xs.length - (intOf i).toNat)
  case atStart => exact ⟨0, Nat.zero_le _, rfl, h0⟩
  case round =>
    obtain ⟨k, hk, rfl, hJ⟩ := hrel
    by_cases hlt : k < xs.length
    · obtain ⟨b, off, rfl, hc⟩ := (hrow k _ hJ).cell (i := k) (by simpa using hlt)
      rw [List.getElem_map] at hc
      have HC := Lib.hid (hf k hlt _ hJ)
      clear hf hrow
      unfold i64 at hc HC
      generalize xs[k] = x at hc HC
      go_wp2_with (fail)
      refine HC.out.mono ?_; rintro e w' ⟨b', rfl, hb1, hb2⟩
      cases b'
      · have HB2 := Lib.hid (hb2 rfl)
        clear hb1 hb2
        go_wp2_with (fail)
        go_roundw
        case rel => exact ⟨k + 1, by omega, by go_num, HB2.out⟩
        case measure => simp [intOf]; omega
      · have HB1 := Lib.hid (hb1 rfl)
        clear hb1 hb2
        go_wp2_with (fail)
        go_ret
        exact .inl ⟨k, hlt, rfl, HB1.out⟩
    · have hk' : k = xs.length := by omega
      have HK := Lib.hid hk'
      clear hk'
      go_wp2_with (fail)
      go_ret
      exact .inr ⟨rfl, HK.out ▸ hJ⟩

/-- slices.ContainsFunc at []int. -/
theorem ContainsFunc_ok {a : Option Addr} {c g : Nat} {xs : List Nat} (first caps : Array Value) (w : World) (J Stop : Nat → World → Prop)
    (hg : ∀ args w, (callFunc g args).run Tryz.prog w = .ok (.enter g args) w)
    (hx : xs.length ≤ 1000000) (hrow : ∀ k w, J k w → RowAt w a (xs.map i64))
    (hf : ∀ (k : Nat) (hk : k < xs.length) w, J k w → Calls Tryz.prog g (first.push (i64 xs[k]) ++ caps) w (AskPost J Stop k)) (h0 : J 0 w) :
    Calls Tryz.prog 111 #[.slice a xs.length c, .func (.func g) first caps] w (Found J Stop xs.length fun o => .bool o.isSome) := by
  have hI := IndexFunc_ok (c := c) first caps w J Stop hg hx hrow hf h0
  have HI := Lib.hid hI
  clear hI hg hf hrow h0
  go_enter Tryz.func111, Tryz.ntmps111
  go_wp2_with (fail)
  refine HI.out.mono ?_
  rintro e w' (⟨k, hk, rfl, hs⟩ | ⟨rfl, hs⟩)
  · have hk0 : (0 : Int) ≤ (k : Int) := by omega
    have HS := Lib.hid hs
    clear hs
    go_wp2_with (fail)
    go_ret
    exact .inl ⟨k, hk, by simp, HS.out⟩
  · have HS := Lib.hid hs
    clear hs
    go_wp2_with (fail)
    go_ret
    exact .inr ⟨by simp, HS.out⟩

theorem shaped1_ok (k : Nat) (w : World) (h1 : 1 ≤ k) (h2 : k ≤ 4096) :
    Calls Tryz.prog 123 #[.int .i64 k] w fun e w' => e = .returned (.bool false) ∧ w' = w := by
  have hb1 : decide ((k : Int) < 1) = false := by simp; omega
  have hb2 : decide ((4096 : Int) < (k : Int)) = false := by simp; omega
  go_enter Tryz.func123, Tryz.ntmps123
  go_wp2
  go_ret
  exact ⟨by simp [*], rfl⟩

/-- An argument that is a node. -/
structure NodeIn (w : World) (ra ka : Option Addr) (n : Nd) : Prop where
  recs : RowAt w ra (n.recs.map .string)
  kids : RowAt w ka (n.kids.map i64)

def nodeVal (n : Nd) (ra : Option Addr) (rc : Nat) (ka : Option Addr) (kc : Nat) : Value := .agg #[.bool n.leaf, .slice ra n.recs.length rc, .slice ka n.kids.length kc]

theorem NodeIn.ext {F : Nat → Prop} {w w' : World} {ra ka : Option Addr} {n : Nd} (h : NodeIn w ra ka n) (he : Ext F w w') (hr : ∀ k, Blk ra k → ¬ F k) (hk : ∀ k, Blk ka k → ¬ F k) : NodeIn w' ra ka n :=
  ⟨h.recs.ext he hr, h.kids.ext he hk⟩
theorem NodeIn.extNo {w w' : World} {ra ka : Option Addr} {n : Nd} (h : NodeIn w ra ka n) (he : Ext No w w') : NodeIn w' ra ka n := h.ext he (fun _ _ f => f) fun _ _ f => f

/-- A result, the world as it was but for new blocks. -/
def Gives (v : Value) (w : World) (e : Ending) (w' : World) : Prop := e = .returned v ∧ Ext No w w'

theorem length_le_weigh (l : List Str) : l.length ≤ weigh l := by
  induction l with
  | nil => simp
  | cons a l ih => simp; omega

set_option maxHeartbeats 400000 in
theorem Size_ok {ra ka : Option Addr} {rc kc : Nat} {n : Nd} (w : World) (h : NodeIn w ra ka n) (hs : n.size ≤ 1000000) :
    Calls Tryz.prog 77 #[nodeVal n ra rc ka kc] w (Gives (.int .i64 n.size) w) := by
  have hsz : n.size = 3 + 4 * n.kids.length + weigh n.recs := rfl
  have hw := fun w' he => weigh_ok (c := rc) w' (h.recs.extNo (w := w) (w' := w') he) (by omega) (by have := length_le_weigh n.recs; omega)
  have HW := Lib.hid hw
  have HS := Lib.hid hsz
  have hk : n.kids.length ≤ 1000000 := by omega
  have hwn : weigh n.recs ≤ 1000000 := by omega
  have hm1 : IntKind.i64.wrap (4 * (n.kids.length : Int)) = 4 * (n.kids.length : Int) := IntWalk.i64_in _ (by omega)
  have hm2 : IntKind.i64.wrap (3 + 4 * (n.kids.length : Int)) = 3 + 4 * (n.kids.length : Int) := IntWalk.i64_in _ (by omega)
  have hm3 : IntKind.i64.wrap (3 + 4 * (n.kids.length : Int) + (weigh n.recs : Int)) = 3 + 4 * (n.kids.length : Int) + (weigh n.recs : Int) := IntWalk.i64_in _ (by omega)
  clear hw hsz h
  unfold nodeVal
  go_enter Tryz.func77, Tryz.ntmps77
  go_wp2
  go_quiet ((go_at_call 104; exact Calls.quiet_of_same (HW.out _ (((Ext.refl No w).alloc _).drewN _))))
  go_wp2
  go_ret
  refine ⟨ret_i64 ?_, ((Ext.refl No w).alloc _).drewN _⟩
  rw [HS.out]; omega
end Go.Proofs.YtanglcdiebkmiaaGreat
