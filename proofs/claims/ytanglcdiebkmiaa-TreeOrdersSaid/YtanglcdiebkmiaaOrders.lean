/- TreeOrders: the walk. -/
import Derived.Test.YtanglcdiebkmiaaAppend
import Derived.Deep.RegionHeld3
import Derived.Deep.CutRange
set_option linter.unusedSimpArgs false
set_option linter.unusedVariables false
namespace Go.Proofs.Ytanglcdiebkmiaa
open Go.RowKit Tw

/-- A slice's length. -/
def lenV : Value → Nat
  | .slice _ n _ => n
  | _ => 0

theorem turn_idx (z : Int) {n : Nat} (h0 : 0 < n) (h1 : n ≤ 120) : ∃ kk : Nat, kk < n ∧ (wrap64 (z.tmod n + n)).tmod n = (kk : Int) := by
  have hp : (0 : Int) < (n : Int) := by omega
  have a1 : z.tmod n < n := Int.tmod_lt_of_pos z hp
  have a2 : -(n : Int) < z.tmod n := Int.lt_tmod_of_pos z hp
  generalize z.tmod n = x at *
  have hw : wrap64 (x + n) = x + n := by unfold wrap64; omega
  rw [hw, Int.tmod_eq_emod_of_nonneg (by omega)]
  have b1 := Int.emod_nonneg (x + n) (b := (n : Int)) (by omega)
  have b2 := Int.emod_lt_of_pos (x + n) hp
  exact ⟨((x + n) % n).toNat, by omega, by omega⟩

set_option maxRecDepth 10000 in
set_option maxHeartbeats 4000000 in
theorem orders_ok {a b : Option Addr} {c d : Nat} {l : List Str} {zs : List Int} (w : World) (ha : RowAt w a (l.map .string)) (ha0 : a = none → l = [] ∧ c = 0) (hb : RowAt w b (zs.map (.int .i64))) (hl : l.length ≤ maxLen) (hz : zs.length ≤ maxLen)
    (hs : ∀ s ∈ l, s.size ≤ maxLen) (hzr : ∀ z ∈ zs, -9223372036854775808 ≤ z ∧ z ≤ 9223372036854775807) :
    Calls Try.prog 4 #[.slice a l.length c, .slice b zs.length d] w (Gives (.bool true) w) := by
  unfold maxLen at hl hz
  have HAW := Lib.hid (awake_ok w)
  have HROW := Lib.hid ha
  have HA0 := Lib.hid ha0
  have HZROW := Lib.hid hb
  have HS := Lib.hid hs
  have HZR := Lib.hid hzr
  clear ha hb hs hzr ha0
  by_cases hbig : 120 < l.length
  · have b1 : decide ((120 : Int) < (l.length : Int)) = true := by simp; omega
    go_enter Try.func4, Try.ntmps4
    go_wp2_with (fail)
    refine HAW.out.mono ?_
    rintro e w1 ⟨rfl, hx1⟩
    have HX := Lib.hid hx1
    clear hx1
    go_wp2_with (fail)
    go_ret
    exact ⟨rfl, HX.out⟩
  have b1 : decide ((120 : Int) < (l.length : Int)) = false := by simp; omega
  go_enter Try.func4, Try.ntmps4
  go_wp2_with (fail)
  refine HAW.out.mono ?_
  rintro e w1 ⟨rfl, hx1⟩
  have HN := Lib.hid (New_ok w1 (q := 4000) (by omega))
  have HX1 := Lib.hid hx1
  clear hx1
  go_wp2_with (fail)
  refine HN.out.mono ?_
  rintro e w2 ⟨A, F2, rfl, hA2, hx2, hF2⟩
  have S2 := Lib.hid (show Since w w2 A (St.empty 4000) F2 from ⟨hA2, HX1.out.trans hx2, fun k f => Nat.le_trans HX1.out.size (hF2 k f)⟩)
  have HT := Lib.hid (New_tree w2 hA2 (by rw [left_empty]; omega))
  clear hA2 hx2 hF2
  go_wp2_with (fail)
  refine HT.out.mono ?_
  rintro e w3 ⟨T, rfl, hTl, F3, st3, root1, hfr3, hA3, hX3, hG3, hTF3, hT3⟩
  have hl3 : st3.left ≠ 0 := by
    have := hfr3.chg.used; have hq := hfr3.chg.quota; have := left_empty (q := 4000)
    unfold St.left at this ⊢; rw [hq]; simp at *; omega
  have HU := Lib.hid (New_tree w3 hA3 hl3)
  have H3 := Lib.hid (And.intro hfr3 (And.intro hA3 (And.intro hX3 (And.intro hG3 (And.intro hTF3 (And.intro hT3 hTl))))))
  clear hTl hfr3 hA3 hX3 hG3 hTF3 hT3 hl3
  go_wp2_with (fail)
  refine HU.out.mono ?_
  rintro e w4 ⟨U, rfl, hUl, F4, st4, root2, hfr4, hA4, hX4, hG4, hUF4, hU4⟩
  obtain ⟨x1, x2, x3, x4, x5, x6, x7⟩ := H3.out
  have H2 := Lib.hid (TwoT.start S2.out x1 x2 x3 x4 x5 x6 x7 hfr4 hA4 hX4 hG4 hUF4 hU4 hUl)
  clear hUl hfr4 hA4 hX4 hG4 hUF4 hU4 x1 x2 x3 x4 x5 x6 x7
  go_wp2_with (fail)
  go_loopw [43] (fun i wr => ∃ (k : Nat), i = .int .i64 k ∧ k ≤ l.length ∧ Hid (∃ F, TwoT w A T U (l.take k) [] F wr)) (fun i _ => l.length - (intOf i).toNat)
  case atStart => exact ⟨0, rfl, Nat.zero_le _, F4, H2.out⟩
  case round =>
    obtain ⟨k, rfl, hk, hTw⟩ := hrel
    obtain ⟨F5, hTwo⟩ := hTw.out
    have hxs : Ext No w wr := by obtain ⟨_, _, _, _, _, _, _, _, _, _, _, h, _⟩ := hTwo; exact h.hx
    by_cases hlt : k < l.length
    · obtain ⟨rb, off, rfl, hcs⟩ := (HROW.out.extNo hxs).cell (i := k) (by rw [List.length_map]; exact hlt)
      rw [List.getElem_map] at hcs
      have hTk : l.take (k + 1) = l.take k ++ [l[k]] := by rw [List.take_succ_eq_append_getElem hlt]
      have HI := Lib.hid (hTwo.put (by rw [List.length_take]; omega) (by simp) (HS.out _ (List.getElem_mem hlt)))
      rw [← hTk] at HI
      clear hTk hxs hTwo hTw
      generalize l[k] = s at *
      have s1 : IntKind.i64.wrap ((k : Int) + 1) = (k : Int) + 1 := IntWalk.i64_in _ (by omega)
      go_wp2_with (fail)
      refine HI.out.mono ?_
      rintro e w' ⟨code, F', rfl, ht, _, _⟩
      have HT' := Lib.hid ht
      clear ht
      go_wp2_with (fail)
      go_roundw
      case rel => exact ⟨k + 1, by go_num, by omega, F', HT'.out⟩
      case measure => simp [intOf]; omega
    · have hk' : k = l.length := by omega
      have H5 := Lib.hid hTwo
      rw [hk', List.take_length] at H5
      have HXS := Lib.hid hxs
      have HRL := Lib.hid (fun w' (he : Ext No wr w') => HROW.out.extNo (hxs.trans he))
      clear hTwo hTw hxs hk'
      obtain ⟨i0, hi, hz0, hz1, hz2⟩ := info_parts info_str
      have hE0 : (wr.alloc (.cells #[] 9)).ownsRow w.heap.size 9 1 (.slice (some ⟨wr.heap.size, 0, none⟩) 0 0) 0 [] := ownsRow_mk (heap_alloc_new wr _) rfl HXS.out.size (Nat.le_refl _) (by unfold maxLen; omega) rfl (by intro j hj; simp at hj)
      go_wp2_with (at_builtin; refine wpList_append_row _ rfl (.tmp 51) (.tmp 52) 35 rfl w.heap.size 9 i0 (.string ⟨#[]⟩) 16 Try.underlying35 hi hz0 hz1 hz2 rfl (.slice (some ⟨wr.heap.size, 0, none⟩) 0 0) 0 [] rfl hE0 a l.length c (l.map .string) rfl (by simp) (HRL.out _ ((Ext.refl No wr).alloc _)) (fun u hu => str_one u hu) (by rw [List.length_map]; unfold maxLen; omega) (by rw [List.length_map]; omega) (by have := HXS.out.size; simp; omega) ?_)
      intro v' w5 hap
      obtain ⟨la, lc, rfl, hown⟩ := hap.form
      have hbk := hap.2.2
      have e5 : Ext No wr w5 := ((Ext.refl No wr).alloc _).trans' hap.ext (fun x hx f => by have : some wr.heap.size = some x := f; simp at this; omega)
      simp only [Nat.zero_add, List.nil_append, List.length_map] at hown hbk ⊢
      have hbig5 : ∀ q, Blk la q → wr.heap.size ≤ q := fun q hq => by
        rcases hbk with h | h
        · have : some wr.heap.size = some q := by
            rw [show (Value.slice (some ⟨wr.heap.size, 0, none⟩) 0 0).ownBlock = some wr.heap.size from rfl] at h
            rw [← h]; exact blk_own.1 hq
          simp at this; omega
        · have : some (wr.alloc (.cells #[] 9)).heap.size = some q := by rw [← h]; exact blk_own.1 hq
          simp at this; omega
      have HOWN := Lib.hid hown
      have H6 := Lib.hid (show ∃ F, TwoT w A T U l [] F w5 ∧ ∀ q, Blk la q → ¬ F q ∧ q ≠ T ∧ q ≠ U from
        ⟨F5, H5.out.more e5, fun q hq => by
          have h1 := hbig5 q hq
          obtain ⟨st, r1, h1', E1, I1, m1, r2, h2, E2, I2, m2, a1, a2, a3, a4, a5, a6, a7, a8, _⟩ := H5.out
          have h2 := lt_of_heap a7
          have h3 := lt_of_heap a8
          exact ⟨fun f => by have := a1.hA.lt q f; omega, by omega, by omega⟩⟩)
      clear hap hown hbk e5 hbig5 hE0
      obtain ⟨wo, rfl⟩ : ∃ wo : World, wo = wr := ⟨_, rfl⟩
      go_wp2_with (fail)
      go_loopw [13, 14] (fun left i wz => ∃ (la : Option Addr) (lc : Nat) (rest D2 : List Str), left = .slice la rest.length lc ∧ i = .int .i64 (D2.length : Nat) ∧ Hid (wz.ownsRow w.heap.size 9 1 (.slice la rest.length lc) rest.length (rest.map .string)) ∧ Hid (∃ F, TwoT w A T U l D2 F wz ∧ ∀ q, Blk la q → ¬ F q ∧ q ≠ T ∧ q ≠ U) ∧ Hid ((D2 ++ rest).Perm l)) (fun left _ _ => lenV left)
      case atStart => exact ⟨la, lc, l, [], rfl, rfl, HOWN.out, H6.out, List.Perm.refl _⟩
      case round =>
        obtain ⟨la, lc, rest, D2, rfl, rfl, hO, hTU, hP⟩ := hrel
        have hlen : D2.length + rest.length = l.length := by have := hP.out.length_eq; simpa using this
        have hxs : Ext No w wr := by obtain ⟨_, ⟨_, _, _, _, _, _, _, _, _, _, _, h, _⟩, _⟩ := hTU.out; exact h.hx
        have HXR := Lib.hid hxs
        clear hxs
        by_cases hr0 : 0 < rest.length
        · have g0 : decide ((0 : Int) < (rest.length : Int)) = true := by simp; omega
          have n120 : rest.length ≤ 120 := by omega
          have d120 : D2.length ≤ 120 := by omega
          go_upto_if 62 with (fail)
          go_cut [15] from 54 to 89 (fun s15 wx => wr = wx ∧ ∃ kk : Nat, kk < rest.length ∧ s15 = .int .i64 kk)
          case first =>
            by_cases hi : D2.length < zs.length
            · obtain ⟨zb, zo, rfl, hcz⟩ := (HZROW.out.extNo HXR.out).cell (i := D2.length) (by rw [List.length_map]; exact hi)
              rw [List.getElem_map] at hcz
              have hzr := HZR.out _ (List.getElem_mem hi)
              generalize zs[D2.length] = z at *
              obtain ⟨z1, z2⟩ := hzr
              go_wp2_with (fail)
              go_meet
              case rel =>
                obtain ⟨kk, hk1, hk2⟩ := turn_idx z hr0 n120
                exact ⟨rfl, kk, hk1, by rw [hk2]⟩
            · go_wp2_with (fail)
              go_meet
              case rel => exact ⟨rfl, 0, hr0, rfl⟩
          case rest =>
            obtain ⟨rfl, kk, hkk, rfl⟩ := hcut
            obtain ⟨F6, hTwo, hBl⟩ := hTU.out
            have hrow := RowAt.ofOwns hO.out
            obtain ⟨g, rfl, hbg, hgl, hnc, hcs, hfz⟩ := ownsRow_open hO.out hr0
            have hck : wr.cell? ⟨g, kk, none⟩ = some (.string rest[kk]) := by
              have := hcs kk (by rw [List.length_map]; exact hkk)
              rw [List.getElem_map] at this; exact this
            have HI := Lib.hid (hTwo.putU (by omega) (by omega) (HS.out _ (hP.out.mem_iff.1 (List.mem_append_right _ (List.getElem_mem hkk)))))
            have hperm : ((D2 ++ [rest[kk]]) ++ rest.eraseIdx kk).Perm l := by
              refine List.Perm.trans ?_ hP.out
              rw [List.append_assoc]
              refine List.Perm.append_left _ ?_
              rw [List.eraseIdx_eq_take_drop_succ]
              conv => rhs; rw [← List.take_append_drop kk rest, List.drop_eq_getElem_cons hkk]
              exact (List.perm_middle (l₁ := rest.take kk) (a := rest[kk]) (l₂ := rest.drop (kk + 1))).symm
            have HP := Lib.hid hperm
            have HBL := Lib.hid hBl
            clear hTwo hTU hBl hrow hcs hfz hP hperm
            generalize rest[kk] = s at *
            have q1 : (0 : Int) ≤ (kk : Int) := by omega
            have q2 : (kk : Int) < (rest.length : Int) := by omega
            go_wp2_with (fail)
            refine HI.out.mono ?_
            rintro e w' ⟨code, F7, rfl, ht, hx, hg⟩
            have hgb := HBL.out g ⟨_, rfl, rfl⟩
            have hO' := ownsRow_ext hO.out hx (fun q hq f => by
              have : q = g := by simp [Value.ownBlock] at hq; exact hq.symm
              subst this
              exact f.elim hgb.1 hgb.2.2)
            have hgF : ¬ F7 g := Grow.not hg hgb.1 hgl
            have hT1 := ownsRow_take hO' (k := kk) (by omega)
            have hrow' := RowAt.ofOwns hO'
            have HT1 := Lib.hid hT1
            have HGL := Lib.hid (Nat.lt_of_lt_of_le hgl hx.size)
            have HWS := Lib.hid (show w.heap.size ≤ w'.drew.heap.size from Nat.le_trans HXR.out.size hx.size)
            have HGB := Lib.hid hgb
            have HGF := Lib.hid hgF
            have HT7 := Lib.hid ht
            have HX7 := Lib.hid hx
            have HRW := Lib.hid hrow'
            clear hgb hO' hgF hT1 ht hx hg hrow' hck
            have q3 : (kk : Int) ≤ (lc : Int) := by omega
            have q4 : (kk : Int) + 1 ≤ (rest.length : Int) := by omega
            have q5 : (kk : Int) + 1 ≤ (lc : Int) := by omega
            have s1 : IntKind.i64.wrap ((kk : Int) + 1) = (kk : Int) + 1 := IntWalk.i64_in _ (by omega)
            have s2 : ((kk : Int) + 1).toNat = kk + 1 := by omega
            go_wp2_with (fail)
            by_cases hcap : lc = kk + 1
            · subst hcap
              have q6 : (kk : Int) ≤ (kk : Int) + 1 := by omega
              have hrl : rest.length = kk + 1 := by omega
              have q7 : (0 : Int) ≤ (kk : Int) + 1 := by omega
              have hlz : (rest.map Value.string).drop (kk + 1) = [] := List.drop_eq_nil_of_le (by rw [List.length_map]; omega)
              have HLZ := Lib.hid hlz
              have HRLN := Lib.hid hrl
              rw [hrl]
              clear q3 q5 hlz hrl
              go_region_held3 (fun _ => True) (trivial) (first | (refine step_append_row _ rfl (.tmp 84) (.tmp 88) 35 rfl w.heap.size 9 i0 (.string ⟨#[]⟩) 16 Try.underlying35 hi hz0 hz1 hz2 rfl (.slice (some ⟨g, 0, none⟩) kk (kk + 1)) kk ((rest.map .string).take kk) rfl (ownsRow_ext HT1.out ((Ext.refl No w').drew) (fun _ _ f => f)) (some ⟨g, 0, none⟩) 0 0 ((rest.map .string).drop (kk + 1)) rfl (by rw [List.length_drop, List.length_map]; omega) (.inl HLZ.out) (fun u hu => str_one u (List.mem_of_mem_drop hu)) (by rw [List.length_drop, List.length_map]; unfold maxLen; omega) (by rw [List.length_drop, List.length_map]; omega) HWS.out ?_; intro v9 w9 hap))
              obtain ⟨la9, lc9, rfl, hown9⟩ := hap.erase hkk
              have hx9 : Ext (Only g) w' w9 := ((Ext.refl (Only g) w').drew).trans' hap.ext (fun x hx f => by have : some g = some x := f; simp at this; exact this.symm)
              have hbk9 := hap.2.2
              have hgl' : g < w'.heap.size := HGL.out
              have HO9 := Lib.hid hown9
              have H9 := Lib.hid (show ∃ F, TwoT w A T U l (D2 ++ [s]) F w9 ∧ ∀ q, Blk la9 q → ¬ F q ∧ q ≠ T ∧ q ≠ U from
                ⟨F7, HT7.out.other hx9 (fun k hk => by have : k = g := hk; subst this; exact ⟨hbg, HGF.out, HGB.out.2.1, HGB.out.2.2⟩), fun q hq => by
                  rcases hbk9 with h | h
                  · have : q = g := by
                      have h2 := (blk_own (n := (rest.eraseIdx kk).length) (c := lc9)).1 hq
                      rw [h] at h2; simp [Value.ownBlock] at h2; exact h2.symm
                    subst this; exact ⟨HGF.out, HGB.out.2.1, HGB.out.2.2⟩
                  · have : q = w'.heap.size := by
                      have h2 := (blk_own (n := (rest.eraseIdx kk).length) (c := lc9)).1 hq
                      rw [h] at h2; simp at h2; exact h2.symm
                    subst this
                    obtain ⟨st, r1, h1', E1, I1, m1, r2, h2, E2, I2, m2, a1, a2, a3, a4, a5, a6, a7, a8, _⟩ := HT7.out
                    have h2 := lt_of_heap a7
                    have h3 := lt_of_heap a8
                    exact ⟨fun f => by have := a1.hA.lt _ f; omega, by omega, by omega⟩⟩)
              have dl : ((D2.length : Int) + 1) = (((D2 ++ [s]).length : Nat) : Int) := by rw [List.length_append, List.length_singleton]; omega
              have el : (rest.eraseIdx kk).length < rest.length := by rw [List.length_eraseIdx]; simp [hkk]; omega
              have DL := Lib.hid dl
              have s3 : IntKind.i64.wrap ((D2.length : Int) + 1) = (D2.length : Int) + 1 := IntWalk.i64_in _ (by omega)
              clear hap hx9 hbk9 hown9 dl
              go_wp2_with (fail)
              go_roundw
              case rel => exact ⟨la9, lc9, rest.eraseIdx kk, D2 ++ [s], rfl, by rw [← DL.out], HO9.out, H9.out, HP.out⟩
              case measure => simp [lenV]; omega
            · have q7 : (0 : Int) ≤ (kk : Int) + 1 := by omega
              have q8 : ¬ lc = kk + 1 := hcap
              have HRWD := Lib.hid (show RowAt w'.drew (some ⟨g, 0 + (kk + 1), none⟩) ((rest.map .string).drop (kk + 1)) from (RowAt.drop HRW.out (kk + 1)).extNo ((Ext.refl No w').drew))
              go_region_held3 (fun _ => True) (trivial) (first | (refine step_append_row _ rfl (.tmp 84) (.tmp 88) 35 rfl w.heap.size 9 i0 (.string ⟨#[]⟩) 16 Try.underlying35 hi hz0 hz1 hz2 rfl (.slice (some ⟨g, 0, none⟩) kk lc) kk ((rest.map .string).take kk) rfl (ownsRow_ext HT1.out ((Ext.refl No w').drew) (fun _ _ f => f)) (some ⟨g, kk + 1, none⟩) (rest.length - (kk + 1)) (lc - (kk + 1)) ((rest.map .string).drop (kk + 1)) rfl (by simp) (by have := HRWD.out; rwa [Nat.zero_add] at this) (fun u hu => str_one u (List.mem_of_mem_drop hu)) (by rw [List.length_drop, List.length_map]; unfold maxLen; omega) (by rw [List.length_drop, List.length_map]; omega) HWS.out ?_; intro v9 w9 hap))
              obtain ⟨la9, lc9, rfl, hown9⟩ := hap.erase hkk
              have hx9 : Ext (Only g) w' w9 := ((Ext.refl (Only g) w').drew).trans' hap.ext (fun x hx f => by have : some g = some x := f; simp at this; exact this.symm)
              have hbk9 := hap.2.2
              have hgl' : g < w'.heap.size := HGL.out
              have HO9 := Lib.hid hown9
              have H9 := Lib.hid (show ∃ F, TwoT w A T U l (D2 ++ [s]) F w9 ∧ ∀ q, Blk la9 q → ¬ F q ∧ q ≠ T ∧ q ≠ U from
                ⟨F7, HT7.out.other hx9 (fun k hk => by have : k = g := hk; subst this; exact ⟨hbg, HGF.out, HGB.out.2.1, HGB.out.2.2⟩), fun q hq => by
                  rcases hbk9 with h | h
                  · have : q = g := by
                      have h2 := (blk_own (n := (rest.eraseIdx kk).length) (c := lc9)).1 hq
                      rw [h] at h2; simp [Value.ownBlock] at h2; exact h2.symm
                    subst this; exact ⟨HGF.out, HGB.out.2.1, HGB.out.2.2⟩
                  · have : q = w'.heap.size := by
                      have h2 := (blk_own (n := (rest.eraseIdx kk).length) (c := lc9)).1 hq
                      rw [h] at h2; simp at h2; exact h2.symm
                    subst this
                    obtain ⟨st, r1, h1', E1, I1, m1, r2, h2, E2, I2, m2, a1, a2, a3, a4, a5, a6, a7, a8, _⟩ := HT7.out
                    have h2 := lt_of_heap a7
                    have h3 := lt_of_heap a8
                    exact ⟨fun f => by have := a1.hA.lt _ f; omega, by omega, by omega⟩⟩)
              have dl : ((D2.length : Int) + 1) = (((D2 ++ [s]).length : Nat) : Int) := by rw [List.length_append, List.length_singleton]; omega
              have el : (rest.eraseIdx kk).length < rest.length := by rw [List.length_eraseIdx]; simp [hkk]; omega
              have DL := Lib.hid dl
              have s3 : IntKind.i64.wrap ((D2.length : Int) + 1) = (D2.length : Int) + 1 := IntWalk.i64_in _ (by omega)
              clear hap hx9 hbk9 hown9 dl
              go_wp2_with (fail)
              go_roundw
              case rel => exact ⟨la9, lc9, rest.eraseIdx kk, D2 ++ [s], rfl, by rw [← DL.out], HO9.out, H9.out, HP.out⟩
              case measure => simp [lenV]; omega
        · have hz0 : rest.length = 0 := by omega
          have hre : rest = [] := List.eq_nil_of_length_eq_zero hz0
          have g0 : decide ((0 : Int) < (rest.length : Int)) = false := by simp; omega
          obtain ⟨F6, hTwo, _⟩ := hTU.out
          have hp := hP.out
          rw [hre, List.append_nil] at hp
          have hmem : ∀ x, x ∈ l ↔ x ∈ D2 := fun x => hp.mem_iff.symm
          obtain ⟨st, r1, h1, r2, h2, E, I1, I2, m1, m2, S9, T9, U9, ok1, ok2⟩ := hTwo.same hmem
          have hE := (ok1.small S9.hA.wf).2
          have hA1 := All_ok wr T9 S9.hA (ok1.ways ⟨#[]⟩) (by rw [ge_empty]; omega)
          rw [ge_empty] at hA1
          have HA1 := Lib.hid hA1
          have HA2 := Lib.hid (fun w' (he : Ext No wr w') => All_ok w' (he.heapNo U9) (S9.hA.extNo he) (ok2.ways ⟨#[]⟩) (by rw [ge_empty]; omega))
          have HL1 := Lib.hid (fun w' (he : Ext No wr w') => Len_ok w' (he.heapNo T9))
          have HL2 := Lib.hid (fun w' (he : Ext No wr w') => Len_ok w' (he.heapNo U9))
          have HLE := Lib.hid hE
          clear hA1 hTwo hTU S9 T9 U9 ok1 ok2 hp hmem hP hO hz0 hre hE
          go_wp2_with (fail)
          refine HA1.out.mono ?_
          rintro e wa ⟨aa, ca, rfl, hownA, hxa⟩
          have HRA := Lib.hid (RowAt.ofOwns hownA)
          have HA2 := Lib.hid (HA2.out wa hxa)
          have HXA := Lib.hid hxa
          clear hownA hxa
          go_wp2_with (fail)
          refine HA2.out.mono ?_
          rw [ge_empty]
          rintro e wb ⟨ab, cb, rfl, hownB, hxb⟩
          have HSM := Lib.hid (Same_eq (c := ca) (d := cb) wb (HRA.out.extNo hxb) (RowAt.ofOwns hownB) (by have := HLE.out; omega))
          have HXB := Lib.hid (HXA.out.trans hxb)
          clear hownB hxb
          go_wp2_with (fail)
          refine HSM.out.mono ?_
          rintro e wc ⟨rfl, hxc⟩
          have HXC := Lib.hid (HXB.out.trans hxc)
          clear hxc
          go_wp2_with (fail)
          refine (HL1.out _ HXC.out).mono ?_
          rintro e wd ⟨rfl, rfl⟩
          go_wp2_with (fail)
          refine (HL2.out _ HXC.out).mono ?_
          rintro e wd ⟨rfl, rfl⟩
          go_wp2_with (fail)
          go_ret
          exact ⟨ret_bool (by simp), HXR.out.trans HXC.out⟩
end Go.Proofs.Ytanglcdiebkmiaa
