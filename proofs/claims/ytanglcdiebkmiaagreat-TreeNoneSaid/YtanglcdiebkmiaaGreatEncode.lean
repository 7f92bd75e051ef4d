import Derived.Test.YtanglcdiebkmiaaGreatEnc0
import Derived.Lib.SlBuf
import Derived.Lib.BufferWrite
import Derived.Deep.OwnRows
set_option linter.unusedSimpArgs false
set_option linter.unusedVariables false
namespace Go.Proofs.YtanglcdiebkmiaaGreat
open Go.RowKit Tw

theorem rawCells : (List.replicate 1024 (Value.int .u8 0)).toArray = cellsOf Pg.raw.bytes := by
  unfold cellsOf Pg.bytes; rw [List.map_replicate]; rfl

theorem madeCells_one (z : Value) (n : Nat) : madeCells #[z] n = (List.replicate n z).toArray := by
  apply Array.ext
  · simp [madeCells]
  · intro i h1 h2
    simp [madeCells, Nat.mod_one]

theorem makePage (w : World) : (Instr.makeSlice 83 (.int .i64 1024) (.int .i64 1024)).run Tryz.prog w = .ok (.slice (some ⟨w.heap.size, 0, none⟩) 1024 1024) (w.alloc (.cells (cellsOf Pg.raw.bytes) 5)) := by
  rw [← rawCells, ← madeCells_one]
  exact run_make_row' (P := Tryz.prog) 83 5 (.int .u8 0) 1 Tryz.underlying83 info_u8 rfl .i64 .i64 1024 (by decide) (by decide) w

theorem newOut {Z : Array Value} (b : UInt8) (hZ : Z = cellsOf Pg.raw.bytes) (w2 : World) :
    OutAt ((w2.alloc (.cells (Z.setIfInBounds 0 (.int .u8 b.toNat)) 5)).alloc (.cells #[.slice (some ⟨w2.heap.size, 0, none⟩) 1024 1024, .int .i64 1] 160)) (w2.heap.size + 1) w2.heap.size (b :: List.replicate 1023 0) 1 where
  st := by
    have := heap_alloc_new (w2.alloc (.cells (Z.setIfInBounds 0 (.int .u8 b.toNat)) 5)) (.cells #[.slice (some ⟨w2.heap.size, 0, none⟩) 1024 1024, .int .i64 1] 160)
    simpa using this
  buf := by
    rw [heap_alloc_lt (by simp), heap_alloc_eq, hZ, show Value.int .u8 (b.toNat : Int) = u8 b from rfl, cellsOf_set]
    rfl
  len := by rw [List.length_cons, List.length_replicate]

theorem copy_post {w : World} {o g at_ F : Nat} {l : List UInt8} {s : Str} (h : OutAt w o g l at_) (hF : F + s.size ≤ 1024) :
    OutAt (w.setRow g ((cellsOf l).toList.take F ++ Lib.byteCells s.data.toList ++ (cellsOf l).toList.drop (F + s.size)).toArray) o g (l.take F ++ s.data.toList ++ l.drop (F + s.size)) at_ ∧
    Ext (fun k => k = o ∨ k = g) w (w.setRow g ((cellsOf l).toList.take F ++ Lib.byteCells s.data.toList ++ (cellsOf l).toList.drop (F + s.size)).toArray) := by
  have hl := h.len
  have hs : s.data.toList.length = s.size := rfl
  refine ⟨⟨?_, ?_, ?_⟩, Ext.setRow (Ext.refl _ _) (.inl (.inr rfl)) _⟩
  · rw [setRow_other _ _ _ _ h.ne]; exact h.st
  · rw [setRow_heap _ _ _ _ _ _ h.buf]
    congr 2
    simp [cellsOf, List.map_take, List.map_drop, Lib.byteCells]
    intro a _; rfl
  · simp; omega

/-- A page's bytes in a block of their own. -/
def EncPost (n : Nd) (w : World) (e : Ending) (w' : World) : Prop :=
  ∃ g, e = .returned (.tuple #[.slice (some ⟨g, 0, none⟩) 1024 1024, .int .i64 0]) ∧ w'.heap[g]? = some (.cells (cellsOf (enc n)) 5 (0, 0)) ∧ w.heap.size ≤ g ∧ Ext No w w'

set_option maxHeartbeats 1000000 in
theorem Encode_ok {ra ka : Option Addr} {rc kc : Nat} {n : Nd} (w : World) (h : NodeIn w ra ka n) (hr : n.Right) :
    Calls Tryz.prog 84 #[nodeVal n ra rc ka kc] w (EncPost n w) := by
  have hsz : n.size = 3 + 4 * n.kids.length + weigh n.recs := rfl
  have hfit := hr.fits
  have hrl := length_le_weigh n.recs
  have h1 := fun w' he => shaped_ok (rc := rc) (kc := kc) w' (h.extNo (w := w) (w' := w') he) hr.shaped (by omega)
  have h2 := fun w' he => Right_ok (rc := rc) (kc := kc) w' (h.extNo (w := w) (w' := w') he) hr.shaped (by omega)
  have hd : decide (n.size ≤ 1024) = true := by simpa using hfit
  simp only [hd] at h2
  have H1 := Lib.hid h1
  have H2 := Lib.hid h2
  have H := Lib.hid h
  have HR := Lib.hid hr
  clear h1 h2 h hr hd
  obtain ⟨Z, hZ⟩ : ∃ Z, Z = cellsOf Pg.raw.bytes := ⟨_, rfl⟩
  have hmk := makePage
  rw [← hZ] at hmk
  have hz0 : Z[0]? = some (.int .u8 0) := by rw [hZ, ← rawCells, List.getElem?_toArray, List.getElem?_replicate, if_pos (by decide)]
  have hz1 : Z.size = 1024 := by rw [hZ, size_cellsOf, Pg.len (p := .raw) trivial]
  have HZ := Lib.hid hZ
  clear hZ
  unfold nodeVal at *
  go_enter Tryz.func84, Tryz.ntmps84
  go_wp2_with (fail)
  refine (H1.out _ ((Ext.refl No w).alloc _)).mono ?_
  rintro e w1 ⟨rfl, he1⟩
  have hb := box_cells he1 (fun f => f)
  have hc0 : w1.cell? ⟨w.heap.size, 0, none⟩ = some (.bool n.leaf) := by rw [cell_at hb]; rfl
  have hc1 : w1.cell? ⟨w.heap.size, 1, none⟩ = some (.slice ra n.recs.length rc) := by rw [cell_at hb]; rfl
  have hc2 : w1.cell? ⟨w.heap.size, 2, none⟩ = some (.slice ka n.kids.length kc) := by rw [cell_at hb]; rfl
  have HE1 := Lib.hid (((Ext.refl No w).alloc _).trans' he1 fun _ _ f => f)
  have HB := Lib.hid hb
  clear hb he1
  go_wp2_with (fail)
  refine (H2.out _ HE1.out).mono ?_
  rintro e w2 ⟨rfl, he2⟩
  have hb := he2.heapNo HB.out
  have hc0 : w2.cell? ⟨w.heap.size, 0, none⟩ = some (.bool n.leaf) := by rw [cell_at hb]; rfl
  have hc1 : w2.cell? ⟨w.heap.size, 1, none⟩ = some (.slice ra n.recs.length rc) := by rw [cell_at hb]; rfl
  have hc2 : w2.cell? ⟨w.heap.size, 2, none⟩ = some (.slice ka n.kids.length kc) := by rw [cell_at hb]; rfl
  have HE2 := Lib.hid (HE1.out.trans he2)
  have HB2 := Lib.hid hb
  clear he2 hb
  have hlt2 := lt_of_heap HB2.out
  have k0 : ∀ O1 O2, ((w2.alloc O1).alloc O2).cell? ⟨w.heap.size, 0, none⟩ = some (.bool n.leaf) := fun O1 O2 => (((Ext.refl No w2).alloc O1).alloc O2).cellSome hc0 (fun f => f)
  have k1 : ∀ O1 O2, ((w2.alloc O1).alloc O2).cell? ⟨w.heap.size, 1, none⟩ = some (.slice ra n.recs.length rc) := fun O1 O2 => (((Ext.refl No w2).alloc O1).alloc O2).cellSome hc1 (fun f => f)
  have k2 : ∀ O1 O2, ((w2.alloc O1).alloc O2).cell? ⟨w.heap.size, 2, none⟩ = some (.slice ka n.kids.length kc) := fun O1 O2 => (((Ext.refl No w2).alloc O1).alloc O2).cellSome hc2 (fun f => f)
  clear hc0 hc1 hc2
  have hO : ∀ b : UInt8, OutAt ((w2.alloc (.cells (Z.setIfInBounds 0 (.int .u8 b.toNat)) 5)).alloc (.cells #[.slice (some ⟨w2.heap.size, 0, none⟩) 1024 1024, .int .i64 1] 160)) (w2.heap.size + 1) w2.heap.size (b :: List.replicate 1023 0) 1 := fun b => newOut b HZ.out w2
  have hN : (n.recs.length : Nat) < 4294967296 := by omega
  have HO := Lib.hid (fun b => two_ok (n := n.recs.length) _ (hO b) (by decide) hN)
  clear hO
  have hw2 : w.heap.size < w2.heap.size := hlt2
  rcases hlf : n.leaf with _ | _
  · rw [hlf] at k0
    have HLF := Lib.hid hlf
    clear hlf
    go_wp2_with (fail)
    refine (HO.out 2).mono ?_
    rintro e w3 ⟨rfl, h3, he3⟩
    rw [show lay (2 :: List.replicate 1023 0) 1 (be2 n.recs.length) = encK n 0 by rw [encK_zero]; unfold hdr; rw [HLF.out]; rfl] at h3
    have HE3 := Lib.hid (show Ext No w w3 from (((HE2.out.alloc _).alloc _).trans' he3 fun x hx e => by rcases e with e | e <;> (subst e; omega)))
    have H3 := Lib.hid h3
    have hb3 := he3.heap (k := w.heap.size) (by rw [heap_alloc_lt (by simp; omega), heap_alloc_lt hw2]; exact HB2.out) (fun e => by rcases e with e | e <;> omega)
    have d1 : w3.cell? ⟨w.heap.size, 1, none⟩ = some (.slice ra n.recs.length rc) := by rw [cell_at hb3]; rfl
    have d2 : w3.cell? ⟨w.heap.size, 2, none⟩ = some (.slice ka n.kids.length kc) := by rw [cell_at hb3]; rfl
    have HB3 := Lib.hid hb3
    clear h3 he3 hb3 k0 k1 k2
    go_wp2_with (fail)
    go_loopw [41] (fun i wr => ∃ k : Nat, k ≤ n.kids.length ∧ i = .int .i64 k ∧ Hid (OutAt wr (w2.heap.size + 1) w2.heap.size (encK n k) (3 + 4 * k)) ∧ Hid (Ext (fun x => x = w2.heap.size + 1 ∨ x = w2.heap.size) w3 wr)) (fun i _ => n.kids.length - (intOf i).toNat)
    case atStart => exact ⟨0, Nat.zero_le _, rfl, H3.out, Ext.refl _ _⟩
    case round =>
      obtain ⟨k, hk, rfl, hO, hE⟩ := hrel
      by_cases hlt : k < n.kids.length
      · have heW : Ext No w wr := HE3.out.trans' hE.out fun x hx e => by rcases e with e | e <;> (subst e; omega)
        obtain ⟨b, off, rfl, hc⟩ := (H.out.extNo heW).kids.cell (i := k) (by simpa using hlt)
        rw [List.getElem_map] at hc
        have hkid := HR.out.shaped.kid _ (List.getElem_mem hlt)
        have HC := Lib.hid (four_ok (n := n.kids[k]) wr hO.out (by omega) (by omega))
        rw [encK_succ hlt hfit] at HC
        unfold i64 at hc
        generalize n.kids[k] = x at hc HC
        clear heW hkid
        go_wp2_with (fail)
        refine HC.out.mono ?_
        rintro e w4 ⟨rfl, h4, he4⟩
        have H4 := Lib.hid h4
        have HE4 := Lib.hid (hE.out.trans he4)
        clear h4 he4
        go_wp2_with (fail)
        go_roundw
        case rel => exact ⟨k + 1, by omega, by go_num, H4.out, HE4.out⟩
        case measure => simp [intOf]; omega
      · have hk' : k = n.kids.length := by omega
        have hO2 := hO.out
        rw [hk', ← encR_zero] at hO2
        have HO2 := Lib.hid hO2
        have hE2 := hE.out
        have hb4 := hE2.heap HB3.out (fun e => by rcases e with e | e <;> omega)
        have d1 : wr.cell? ⟨w.heap.size, 1, none⟩ = some (.slice ra n.recs.length rc) := by rw [cell_at hb4]; rfl
        clear hO2 hk' hE2 hb4
        have HEa := Lib.hid hE.out
        clear hO hE
        go_wp2_with (fail)
        obtain ⟨wa, rfl⟩ : ∃ wa : World, wa = wr := ⟨_, rfl⟩
        go_loopw [7, 52] (fun v i wr => ∃ k : Nat, k ≤ n.recs.length ∧ i = .int .i64 k ∧ v = .int .i64 (1024 - lens (n.recs.take k) : Nat) ∧ Hid (OutAt wr (w2.heap.size + 1) w2.heap.size (encR n k) (3 + 4 * n.kids.length + 4 * k)) ∧ Hid (Ext (fun x => x = w2.heap.size + 1 ∨ x = w2.heap.size) w3 wr)) (fun _ i _ => n.recs.length - (intOf i).toNat)
        case atStart => exact ⟨0, Nat.zero_le _, rfl, rfl, HO2.out, HEa.out⟩
        case round =>
          obtain ⟨k, hk, rfl, rfl, hO, hE⟩ := hrel
          by_cases hlt : k < n.recs.length
          · have heW : Ext No w wr := HE3.out.trans' hE.out fun x hx e => by rcases e with e | e <;> (subst e; omega)
            obtain ⟨b, off, rfl, hc⟩ := (H.out.extNo heW).recs.cell (i := k) (by simpa using hlt)
            rw [List.getElem_map] at hc
            have hone := HR.out.shaped.one _ (List.getElem_mem hlt)
            have q1 := lens_take_succ n.recs k hlt
            have q2 := lens_take_le n.recs (k + 1)
            have q3 := weigh_lens n.recs
            have hcp := copy_post (s := n.recs[k]) (F := 1024 - lens (n.recs.take k) - n.recs[k].size) hO.out (by omega)
            rw [encR_copy hlt hfit] at hcp
            have hsl := encR_slot hlt hfit
            have hss := lay_four (l := hdr n ++ n.kids.flatMap be4 ++ slots 1024 (n.recs.take k) ++ List.replicate (1021 - 4 * n.kids.length - weigh (n.recs.take k) - n.recs[k].size) 0 ++ (n.recs[k].data.toList ++ tails (n.recs.take k))) (k := 3 + 4 * n.kids.length + 4 * k) (a := be2 (1024 - lens (n.recs.take k) - n.recs[k].size)) (b := be2 n.recs[k].size) (by rw [hcp.1.len]; simp; omega)
            rw [hsl, length_be2] at hss
            clear hsl
            generalize n.recs[k] = s at *
            generalize hE0 : 1024 - lens (n.recs.take k) = E at *
            have hE1 : s.size ≤ E := by omega
            have hE2 : E ≤ 1024 := by omega
            obtain ⟨F, hF⟩ : ∃ F, F = E - s.size := ⟨_, rfl⟩
            rw [← hF] at hcp hss
            have hE3 : F + s.size ≤ 1024 := by omega
            have hsub : (E : Int) - (s.size : Int) = (F : Int) := by omega
            have HF2 := Lib.hid (show 1024 - lens (n.recs.take (k + 1)) = F by omega)
            have hFlt : F < 1024 := by omega
            have hF2 : ¬ (1024 = F) := by omega
            have HCP := Lib.hid hcp
            have HSS := Lib.hid hss
            have hat4 : 3 + 4 * n.kids.length + 4 * k + 4 ≤ 1024 := by omega
            clear hcp hss heW hF q1 q2 q3 hE0
            have hrun := fun ty => Lib.run_copy_row_string (P := Tryz.prog) wr 83 9 ty 5 w2.heap.size F (1024 - F) (1024 - F) s _ _ Tryz.underlying83 (by kernel_rfl) hO.out.buf (by omega) (by rw [size_cellsOf, hO.out.len]; exact hE3)
            obtain ⟨W4, hW4⟩ : ∃ W4, W4 = wr.setRow w2.heap.size ((cellsOf (encR n k)).toList.take F ++ Lib.byteCells s.data.toList ++ (cellsOf (encR n k)).toList.drop (F + s.size)).toArray := ⟨_, rfl⟩
            have hcp := HCP.out
            rw [← hW4] at hcp
            simp only [← hW4] at hrun
            have HRUN := Lib.hid hrun
            have HT1 := Lib.hid (two_ok (n := F) W4 hcp.1 (by omega) (by omega))
            have HE4 := Lib.hid (hE.out.trans hcp.2)
            clear hcp HCP hW4 hrun
            have o0 : wr.cell? ⟨w2.heap.size + 1, 0, none⟩ = some (.slice (some ⟨w2.heap.size, 0, none⟩) 1024 1024) := by rw [cell_at hO.out.st]; rfl
            go_wp2_with ((with_reducible show wpList _ _ _ (⟨_, .call ⟨.builtin .copy, _, _⟩, _, _, _, _⟩ :: _) _ _); refine Lib.wpList_copy_run _ rfl _ _ 83 9 rfl _ _ rfl rfl (HRUN.out _) ?_)
            refine HT1.out.mono ?_
            rintro e w5 ⟨rfl, h5, he5⟩
            have HT2 := Lib.hid (two_ok (n := s.size) w5 h5 (by omega) (by omega))
            have HE5 := Lib.hid (HE4.out.trans he5)
            clear h5 he5
            go_wp2_with (fail)
            refine HT2.out.mono ?_
            rintro e w6 ⟨rfl, h6, he6⟩
            rw [HSS.out] at h6
            have HO6 := Lib.hid h6
            have HE6 := Lib.hid (HE5.out.trans he6)
            clear h6 he6
            go_wp2_with (fail)
            go_roundw
            case rel => exact ⟨k + 1, by omega, by go_num, by rw [HF2.out], HO6.out, HE6.out⟩
            case measure => simp [intOf]; omega
          · have hk' : k = n.recs.length := by omega
            have hO2 := hO.out
            rw [hk', encR_all] at hO2
            have o0 : wr.cell? ⟨w2.heap.size + 1, 0, none⟩ = some (.slice (some ⟨w2.heap.size, 0, none⟩) 1024 1024) := by rw [cell_at hO2.st]; rfl
            have HO3 := Lib.hid hO2
            clear hO2 hk'
            go_wp2_with (fail)
            go_ret2
            exact ⟨_, rfl, HO3.out.buf, Nat.le_of_lt hlt2, HE3.out.trans' hE.out fun x hx e => by rcases e with e | e <;> (subst e; omega)⟩
  · rw [hlf] at k0
    have HLF := Lib.hid hlf
    clear hlf
    go_wp2_with (fail)
    refine (HO.out 1).mono ?_
    rintro e w3 ⟨rfl, h3, he3⟩
    rw [show lay (1 :: List.replicate 1023 0) 1 (be2 n.recs.length) = encK n 0 by rw [encK_zero]; unfold hdr; rw [HLF.out]; rfl] at h3
    have HE3 := Lib.hid (show Ext No w w3 from (((HE2.out.alloc _).alloc _).trans' he3 fun x hx e => by rcases e with e | e <;> (subst e; omega)))
    have H3 := Lib.hid h3
    have hb3 := he3.heap (k := w.heap.size) (by rw [heap_alloc_lt (by simp; omega), heap_alloc_lt hw2]; exact HB2.out) (fun e => by rcases e with e | e <;> omega)
    have d1 : w3.cell? ⟨w.heap.size, 1, none⟩ = some (.slice ra n.recs.length rc) := by rw [cell_at hb3]; rfl
    have d2 : w3.cell? ⟨w.heap.size, 2, none⟩ = some (.slice ka n.kids.length kc) := by rw [cell_at hb3]; rfl
    have HB3 := Lib.hid hb3
    clear h3 he3 hb3 k0 k1 k2
    go_wp2_with (fail)
    go_loopw [41] (fun i wr => ∃ k : Nat, k ≤ n.kids.length ∧ i = .int .i64 k ∧ Hid (OutAt wr (w2.heap.size + 1) w2.heap.size (encK n k) (3 + 4 * k)) ∧ Hid (Ext (fun x => x = w2.heap.size + 1 ∨ x = w2.heap.size) w3 wr)) (fun i _ => n.kids.length - (intOf i).toNat)
    case atStart => exact ⟨0, Nat.zero_le _, rfl, H3.out, Ext.refl _ _⟩
    case round =>
      obtain ⟨k, hk, rfl, hO, hE⟩ := hrel
      by_cases hlt : k < n.kids.length
      · have heW : Ext No w wr := HE3.out.trans' hE.out fun x hx e => by rcases e with e | e <;> (subst e; omega)
        obtain ⟨b, off, rfl, hc⟩ := (H.out.extNo heW).kids.cell (i := k) (by simpa using hlt)
        rw [List.getElem_map] at hc
        have hkid := HR.out.shaped.kid _ (List.getElem_mem hlt)
        have HC := Lib.hid (four_ok (n := n.kids[k]) wr hO.out (by omega) (by omega))
        rw [encK_succ hlt hfit] at HC
        unfold i64 at hc
        generalize n.kids[k] = x at hc HC
        clear heW hkid
        go_wp2_with (fail)
        refine HC.out.mono ?_
        rintro e w4 ⟨rfl, h4, he4⟩
        have H4 := Lib.hid h4
        have HE4 := Lib.hid (hE.out.trans he4)
        clear h4 he4
        go_wp2_with (fail)
        go_roundw
        case rel => exact ⟨k + 1, by omega, by go_num, H4.out, HE4.out⟩
        case measure => simp [intOf]; omega
      · have hk' : k = n.kids.length := by omega
        have hO2 := hO.out
        rw [hk', ← encR_zero] at hO2
        have HO2 := Lib.hid hO2
        have hE2 := hE.out
        have hb4 := hE2.heap HB3.out (fun e => by rcases e with e | e <;> omega)
        have d1 : wr.cell? ⟨w.heap.size, 1, none⟩ = some (.slice ra n.recs.length rc) := by rw [cell_at hb4]; rfl
        clear hO2 hk' hE2 hb4
        have HEa := Lib.hid hE.out
        clear hO hE
        go_wp2_with (fail)
        obtain ⟨wa, rfl⟩ : ∃ wa : World, wa = wr := ⟨_, rfl⟩
        go_loopw [7, 52] (fun v i wr => ∃ k : Nat, k ≤ n.recs.length ∧ i = .int .i64 k ∧ v = .int .i64 (1024 - lens (n.recs.take k) : Nat) ∧ Hid (OutAt wr (w2.heap.size + 1) w2.heap.size (encR n k) (3 + 4 * n.kids.length + 4 * k)) ∧ Hid (Ext (fun x => x = w2.heap.size + 1 ∨ x = w2.heap.size) w3 wr)) (fun _ i _ => n.recs.length - (intOf i).toNat)
        case atStart => exact ⟨0, Nat.zero_le _, rfl, rfl, HO2.out, HEa.out⟩
        case round =>
          obtain ⟨k, hk, rfl, rfl, hO, hE⟩ := hrel
          by_cases hlt : k < n.recs.length
          · have heW : Ext No w wr := HE3.out.trans' hE.out fun x hx e => by rcases e with e | e <;> (subst e; omega)
            obtain ⟨b, off, rfl, hc⟩ := (H.out.extNo heW).recs.cell (i := k) (by simpa using hlt)
            rw [List.getElem_map] at hc
            have hone := HR.out.shaped.one _ (List.getElem_mem hlt)
            have q1 := lens_take_succ n.recs k hlt
            have q2 := lens_take_le n.recs (k + 1)
            have q3 := weigh_lens n.recs
            have hcp := copy_post (s := n.recs[k]) (F := 1024 - lens (n.recs.take k) - n.recs[k].size) hO.out (by omega)
            rw [encR_copy hlt hfit] at hcp
            have hsl := encR_slot hlt hfit
            have hss := lay_four (l := hdr n ++ n.kids.flatMap be4 ++ slots 1024 (n.recs.take k) ++ List.replicate (1021 - 4 * n.kids.length - weigh (n.recs.take k) - n.recs[k].size) 0 ++ (n.recs[k].data.toList ++ tails (n.recs.take k))) (k := 3 + 4 * n.kids.length + 4 * k) (a := be2 (1024 - lens (n.recs.take k) - n.recs[k].size)) (b := be2 n.recs[k].size) (by rw [hcp.1.len]; simp; omega)
            rw [hsl, length_be2] at hss
            clear hsl
            generalize n.recs[k] = s at *
            generalize hE0 : 1024 - lens (n.recs.take k) = E at *
            have hE1 : s.size ≤ E := by omega
            have hE2 : E ≤ 1024 := by omega
            obtain ⟨F, hF⟩ : ∃ F, F = E - s.size := ⟨_, rfl⟩
            rw [← hF] at hcp hss
            have hE3 : F + s.size ≤ 1024 := by omega
            have hsub : (E : Int) - (s.size : Int) = (F : Int) := by omega
            have HF2 := Lib.hid (show 1024 - lens (n.recs.take (k + 1)) = F by omega)
            have hFlt : F < 1024 := by omega
            have hF2 : ¬ (1024 = F) := by omega
            have HCP := Lib.hid hcp
            have HSS := Lib.hid hss
            have hat4 : 3 + 4 * n.kids.length + 4 * k + 4 ≤ 1024 := by omega
            clear hcp hss heW hF q1 q2 q3 hE0
            have hrun := fun ty => Lib.run_copy_row_string (P := Tryz.prog) wr 83 9 ty 5 w2.heap.size F (1024 - F) (1024 - F) s _ _ Tryz.underlying83 (by kernel_rfl) hO.out.buf (by omega) (by rw [size_cellsOf, hO.out.len]; exact hE3)
            obtain ⟨W4, hW4⟩ : ∃ W4, W4 = wr.setRow w2.heap.size ((cellsOf (encR n k)).toList.take F ++ Lib.byteCells s.data.toList ++ (cellsOf (encR n k)).toList.drop (F + s.size)).toArray := ⟨_, rfl⟩
            have hcp := HCP.out
            rw [← hW4] at hcp
            simp only [← hW4] at hrun
            have HRUN := Lib.hid hrun
            have HT1 := Lib.hid (two_ok (n := F) W4 hcp.1 (by omega) (by omega))
            have HE4 := Lib.hid (hE.out.trans hcp.2)
            clear hcp HCP hW4 hrun
            have o0 : wr.cell? ⟨w2.heap.size + 1, 0, none⟩ = some (.slice (some ⟨w2.heap.size, 0, none⟩) 1024 1024) := by rw [cell_at hO.out.st]; rfl
            go_wp2_with ((with_reducible show wpList _ _ _ (⟨_, .call ⟨.builtin .copy, _, _⟩, _, _, _, _⟩ :: _) _ _); refine Lib.wpList_copy_run _ rfl _ _ 83 9 rfl _ _ rfl rfl (HRUN.out _) ?_)
            refine HT1.out.mono ?_
            rintro e w5 ⟨rfl, h5, he5⟩
            have HT2 := Lib.hid (two_ok (n := s.size) w5 h5 (by omega) (by omega))
            have HE5 := Lib.hid (HE4.out.trans he5)
            clear h5 he5
            go_wp2_with (fail)
            refine HT2.out.mono ?_
            rintro e w6 ⟨rfl, h6, he6⟩
            rw [HSS.out] at h6
            have HO6 := Lib.hid h6
            have HE6 := Lib.hid (HE5.out.trans he6)
            clear h6 he6
            go_wp2_with (fail)
            go_roundw
            case rel => exact ⟨k + 1, by omega, by go_num, by rw [HF2.out], HO6.out, HE6.out⟩
            case measure => simp [intOf]; omega
          · have hk' : k = n.recs.length := by omega
            have hO2 := hO.out
            rw [hk', encR_all] at hO2
            have o0 : wr.cell? ⟨w2.heap.size + 1, 0, none⟩ = some (.slice (some ⟨w2.heap.size, 0, none⟩) 1024 1024) := by rw [cell_at hO2.st]; rfl
            have HO3 := Lib.hid hO2
            clear hO2 hk'
            go_wp2_with (fail)
            go_ret2
            exact ⟨_, rfl, HO3.out.buf, Nat.le_of_lt hlt2, HE3.out.trans' hE.out fun x hx e => by rcases e with e | e <;> (subst e; omega)⟩
end Go.Proofs.YtanglcdiebkmiaaGreat
