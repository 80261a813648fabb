/- file.Format of a disk whose power is on, walked. -/
import Derived.Test.YtcmcdddnckcpcaaGreatDoorRm
import Derived.Test.YtcmcdddnckcpcaaGreatDoorWo
namespace Go.Proofs.YtcmcdddnckcpcaaGreatDoor
open Go.RowKit Go.Maps
/-- What Format writes. -/
def fmtX (n f : Nat) : List (Nat × Bs) := (List.range (f + 3)).map fun i => (i, if i = 0 then headB n f else [])
def fulls (l : List (Nat × Bs)) : List (Nat × Bs) := l.map fun c => (c.1, fullB c.2)
theorem write_on (L : List Bs) (S : List (Nat × Bs)) (i : Nat) (b : Bs) : DS.write ⟨L, S, none, false⟩ i b = (0, ⟨L, S ++ [(i, fullB b)], none, false⟩) := rfl
theorem sync_on (L : List Bs) (S : List (Nat × Bs)) : DS.sync ⟨L, S, none, false⟩ = (0, ⟨overlay L S, [], none, false⟩) := rfl
set_option maxRecDepth 100000 in
set_option maxHeartbeats 4000000 in
theorem format_ok (X : List Nat) (D : Nat) (L : List Bs) (f : Nat) (w : World) (h : Dsk w X D ⟨L, [], none, false⟩) (h1 : 1 ≤ f) (h2 : f ≤ 256) (h3 : f + 8 ≤ L.length) :
    Calls Tryz.prog 23 #[.pointer (some ⟨D, 0, none⟩), .int .i64 f] w fun e w' => e = .returned (.int .i64 0) ∧ ∃ X', Dsk w' X' D ⟨overlay L (fulls (fmtX L.length f)), [], none, false⟩ ∧ Mv X X' w w' := by
  have hsm : L.length ≤ 4096 := h.good.small
  have KZ := fun (S : List (Nat × Bs)) (X1 : List Nat) (w1 : World) (hd : Dsk w1 X1 D ⟨L, S, none, false⟩) => size_any X1 D _ w1 hd
  have KA := fun w1 => dataAt_any f w1 (by omega)
  have KH := fun w1 => head_any L.length f w1 (by omega) (by omega)
  have KW := fun (S : List (Nat × Bs)) (X1 : List Nat) (i : Nat) (b : Bs) (w1 : World) (hd : Dsk w1 X1 D ⟨L, S, none, false⟩) (hi : i < L.length) (hb : b.length ≤ 512) (hS : S.length ≤ 1000000) => write_any X1 D ⟨L, S, none, false⟩ i b w1 hd hi hb hS
  have KS := fun (S : List (Nat × Bs)) (X1 : List Nat) (w1 : World) (hd : Dsk w1 X1 D ⟨L, S, none, false⟩) => sync_any X1 D _ w1 hd
  simp only [write_on, sync_on] at KW KS
  dsimp only at KZ
  have hsnoc : ∀ k, k < f + 3 → fulls ((fmtX L.length f).take (k + 1)) = fulls ((fmtX L.length f).take k) ++ [(k, fullB (if k = 0 then headB L.length f else []))] := by
    intro k hk
    have hk2 : k < (fmtX L.length f).length := by simp [fmtX]; exact hk
    rw [List.take_succ_eq_append_getElem hk2]
    simp [fulls, fmtX]
  have hlen : ∀ k, (fulls ((fmtX L.length f).take k)).length ≤ 300 := by
    intro k; simp [fulls, fmtX]; omega
  have hall : (fmtX L.length f).take (f + 3) = fmtX L.length f := List.take_of_length_le (by simp [fmtX])
  have hhl : (headB L.length f).length ≤ 512 := by unfold headB; rw [full_length _ (by simp [twoB])]; exact Nat.le_refl _
  obtain ⟨HB, hHB⟩ : ∃ q, headB L.length f = q := ⟨_, rfl⟩
  rw [hHB] at KH hsnoc hhl
  obtain ⟨FX, hFX⟩ : ∃ q, fmtX L.length f = q := ⟨_, rfl⟩
  rw [hFX] at hsnoc hlen hall ⊢
  obtain ⟨n, hn⟩ : ∃ q, L.length = q := ⟨_, rfl⟩
  rw [hn] at h3 hsm
  simp only [hn] at KZ KW KH
  obtain ⟨HS, hHS⟩ : ∃ q, mk HB = q := ⟨_, rfl⟩
  rw [hHS] at KH
  have HHS := Lib.hid hHS
  have HSN := Lib.hid hsnoc
  have HLEN := Lib.hid hlen
  have HALL := Lib.hid hall
  have HHL := Lib.hid hhl
  have HD := Lib.hid h
  have KZ0 := KZ [] X w h
  have f1 : ¬ ((f : Int) < 1) := by omega
  have f2 : ¬ ((256 : Int) < (f : Int)) := by omega
  have f3 : ¬ ((n : Int) < (f : Int) + 7 + 1) := by omega
  clear h hsnoc hlen hall hhl hHB hFX hHS hn
  go_enter Tryz.func23, Tryz.ntmps23
  go_upto_region 3 with (first
    | (go_at_call 53; refine KZ0.mono ?_; rintro e w1 ⟨rfl, hw⟩; obtain rfl := hw.symm)
    | (go_at_call 54; refine (KA _).mono ?_; rintro e w1 ⟨rfl, hw⟩; obtain rfl := hw.symm))
  go_wp2
  have HKW := Lib.hid KW
  have HKS := Lib.hid KS
  have HKZ := Lib.hid KZ
  clear KW KS KZ KZ0 f1 f2 f3
  go_loopw [29] (fun i wr => ∃ k : Nat, k ≤ f + 3 ∧ i = .int .i64 k ∧ ∃ X', Dsk wr X' D ⟨L, fulls (FX.take k), none, false⟩ ∧ Mv X X' w wr) (fun i _ => f + 3 - (intOf i).toNat)
  case atStart => exact ⟨0, Nat.zero_le _, rfl, X, HD.out, Mv.refl _ _⟩
  case round =>
    obtain ⟨k, hk, rfl, X1, hD1, hM1⟩ := hrel
    by_cases hlt : k < f + 3
    · have hsn := HSN.out k hlt
      have hle := HLEN.out k
      obtain ⟨FK, hFK⟩ : ∃ q, fulls (FX.take k) = q := ⟨_, rfl⟩
      rw [hFK] at hD1 hsn hle
      have KZ1 := HKZ.out FK X1 wr hD1
      have HSK := Lib.hid hsn
      have HM1 := Lib.hid hM1
      have k0 : (0 : Int) ≤ (k : Int) := by omega
      have k1 : (k : Int) < 2 + (f : Int) + 1 := by omega
      cases k with
      | zero =>
        have KW1 := fun (w1 : World) (hb : Below wr.heap.size wr w1) => HKW.out FK X1 0 HB w1 (hD1.below hb) (by omega) HHL.out (by omega)
        rw [HHS.out] at KW1
        have HKW1 := Lib.hid KW1
        clear hsn hle hFK hD1 hM1 KW1
        go_wp2_with (first
          | (go_at_call 53; refine KZ1.mono ?_; rintro e w1 ⟨rfl, hw⟩; obtain rfl := hw.symm)
          | (go_at_call 55; refine (KH _).mono ?_; rintro e w2 ⟨rfl, hb2⟩; have KW2 := HKW1.out w2 hb2; have HB2 := Lib.hid hb2; clear hb2 KH)
          | (go_at_call 56; refine KW2.mono ?_; rintro e w3 ⟨rfl, X2, hd3, hm3⟩; have HW := Lib.hid (And.intro hd3 hm3); clear hd3 hm3 KW2))
        go_roundw
        case rel =>
          refine ⟨0 + 1, by omega, by go_num, X2, ?_, HM1.out.trans ((Mv.of_below X1 HB2.out).trans HW.out.2)⟩
          have := HW.out.1
          have hs := HSK.out
          simp only [if_true] at hs
          rw [hs]
          exact this
        case measure => simp [intOf]
      | succ k =>
        have KW1 := HKW.out FK X1 (k + 1) [] wr hD1 (by omega) (by simp) (by omega)
        have k2 : ¬ ((k : Int) + 1 = 0) := by omega
        have k3 : (((k : Int) + 1) == 0) = false := by simp [k2]
        clear hsn hle hFK hD1 hM1 KZ1
        go_wp2_with (first
          | (go_at_call 56; refine KW1.mono ?_; rintro e w3 ⟨rfl, X2, hd3, hm3⟩; have HW := Lib.hid (And.intro hd3 hm3); clear hd3 hm3 KW1))
        go_roundw
        case rel =>
          refine ⟨k + 1 + 1, by omega, by go_num, X2, ?_, HM1.out.trans HW.out.2⟩
          have := HW.out.1
          have hs := HSK.out
          rw [if_neg (by omega)] at hs
          rw [hs]
          exact this
        case measure => simp [intOf]; omega
    · obtain rfl : k = f + 3 := by omega
      rw [HALL.out] at hD1
      have KS1 := HKS.out _ X1 wr hD1
      have HM1 := Lib.hid hM1
      clear hD1 hM1
      go_wp2_with (first
        | (go_at_call 57; refine KS1.mono ?_; rintro e w3 ⟨rfl, hd3, hm3⟩; have HW := Lib.hid (And.intro hd3 hm3); clear hd3 hm3 KS1))
      go_ret
      exact ⟨rfl, X1, HW.out.1, HM1.out.trans (Mv.of_frm HW.out.2)⟩
end Go.Proofs.YtcmcdddnckcpcaaGreatDoor
/- file.learn where no file is, walked. -/
namespace Go.Proofs.YtcmcdddnckcpcaaGreatDoor
open Go.RowKit Go.Maps
theorem fullB_take (s : Bs) : (fullB s).take s.length = s := by simp [fullB]
theorem fullB_nil : fullB [] = zeroS := rfl
set_option maxRecDepth 100000 in
set_option maxHeartbeats 4000000 in
theorem learn0_any (X : List Nat) (S D Lg M : Nat) (ds : DS) (most u : Nat) (w : World) (h : Sto w X S D Lg M ⟨ds, [], [], most, false⟩) (ho : ds.off = false) (hm : 1 ≤ most ∧ most ≤ 256) (hu : u + most + 7 = ds.L.length) (hu1 : 1 ≤ u) (hu2 : u ≤ 4000)
    (h1 : secAt ds.vis 1 = fullB (packB (List.replicate u false))) (h2 : ∀ i, i < most → secAt ds.vis (2 + i) = zeroS) :
    Calls Tryz.prog 59 #[.pointer (some ⟨S, 0, none⟩)] w fun e w' => e = .returned (.int .i64 0) ∧ Sto w' X S D Lg M ⟨ds, [], List.replicate u false, most, false⟩ ∧ Mv (S :: X) (S :: X) w w' := by
  obtain ⟨T, hT⟩ : ∃ q, List.replicate u false = q := ⟨_, rfl⟩
  have hTl : T.length = u := by rw [← hT]; simp
  rw [hT] at h1 ⊢
  have KZ := fun (w1 : World) (hw : Below w.heap.size w w1) => size_any X D ds w1 (h.dsk.below hw)
  have KA := fun w1 => dataAt_any most w1 (by omega)
  have KR1 := fun (w1 : World) (hw : Below w.heap.size w w1) => read_any X D ds 1 w1 (h.dsk.below hw) (by omega) ho
  have hr1 : ds.vis[1]?.getD [] = fullB (packB T) := h1
  rw [hr1] at KR1
  have KPS := fun w1 => sparse_any T w1 (by omega)
  have hpl := packB_length T
  rw [hTl] at hpl
  have KPD := fun w1 => padded_any (packB T) w1 (by omega)
  have KP0 := fun w1 => padded_any [] w1 (by simp)
  rw [fullB_nil] at KP0
  have KN := fun w1 => spnew_any u w1 (by omega)
  rw [hT] at KN
  unfold spv at KN KPS
  rw [hTl] at KN KPS
  have hfl : (fullB (packB T)).length = 512 := full_length _ (by omega)
  obtain ⟨n, hn⟩ : ∃ q, (u + 7) / 8 = q := ⟨_, rfl⟩
  rw [hn] at hpl
  have zF : (mk (fullB (packB T))).size = 512 := by rw [mk_size, hfl]
  have hsl := fun (w : World) => run_slice_string_h (P := Tryz.prog) (w := w) (t := 9) (s := mk (fullB (packB T))) Tryz.underlying9 .i64 (n : Int) (by omega) (by rw [zF]; omega)
  have e1 : (mk (fullB (packB T))).extract 0 n = mk (packB T) := by
    have := ext_mk' (mk (fullB (packB T))) 0 n
    rw [Nat.zero_add, mk_data, List.drop_zero] at this
    rw [this, ← hpl, fullB_take]
  rw [Int.toNat_natCast, e1] at hsl
  have hdiv : ((u : Int) + 7).tdiv 8 = (n : Int) := by rw [Int.tdiv_eq_ediv_of_nonneg (by omega)]; omega
  have KR2 := fun (w1 : World) (i : Nat) (hi : i < most) (hw : Dsk w1 X D ds) => read_any X D ds (2 + i) w1 hw (by omega) ho
  have hr2 : ∀ i, i < most → ds.vis[2 + i]?.getD [] = zeroS := h2
  have HKR2 := Lib.hid (fun (w1 : World) (i : Nat) (hi : i < most) (hw : Dsk w1 X D ds) => (hr2 i hi) ▸ KR2 w1 i hi hw)
  clear KR2 hr2 hr1 h1 h2
  have hwn : wrap64 (n : Int) = (n : Int) := Go.IntWalk.wrap64_in _ (by omega)
  obtain ⟨FB, hFB⟩ : ∃ q, mk (fullB (packB T)) = q := ⟨_, rfl⟩
  obtain ⟨PB, hPB⟩ : ∃ q, mk (packB T) = q := ⟨_, rfl⟩
  obtain ⟨Z, hZ⟩ : ∃ q, mk zeroS = q := ⟨_, rfl⟩
  rw [hFB] at KR1 KPD zF
  simp only [hFB, hPB] at hsl
  rw [hPB] at KPS KPD KN
  rw [show mk [] = (⟨#[]⟩ : ByteArray) from rfl, hZ] at KP0
  rw [hZ] at HKR2
  have x0 := h.blk.cell 0
  have x5 := h.blk.cell 5
  simp at x0 x5
  have hSl := h.blk.lt
  have HST := Lib.hid h
  have HB := Lib.hid h.blk
  have HDS := Lib.hid h.dsk
  obtain ⟨N, hN⟩ : ∃ q, ds.L.length = q := ⟨_, rfl⟩
  rw [hN] at hu KZ
  have HKR1 := Lib.hid KR1
  have HKZ := Lib.hid KZ
  have hmost : (most : Int) ≤ 256 := by omega
  have hTV := Lib.hid (show mk (packB T) = PB ∧ T.length = u from ⟨hPB, hTl⟩)
  clear h ho KR1 KZ hT hTl hpl hfl hn hFB hPB hZ hN e1
  go_enter Tryz.func59, Tryz.ntmps59
  go_upto_region 1 with (fail)
  go_quiet ((first
    | (go_at_call 53; exact Calls.quiet_of_same (HKZ.out _ (bdN (Below.refl _ _) _)))
    | (go_at_call 54; exact Calls.quiet_of_same (KA _))))
  have hsub : ((N : Int) - ((most : Int) + 7)) = (u : Int) := by omega
  rw [hsub]
  have hb1 : Below w.heap.size w (w.drewN nq) := bdN (Below.refl _ _) _
  obtain ⟨W1, hW1⟩ : ∃ q, w.drewN nq = q := ⟨_, rfl⟩
  rw [hW1] at hb1
  simp only [hW1]
  have y0 := (hb1.cell (p := ⟨S, 0, none⟩) hSl).trans x0
  have KR1 := HKR1.out W1 hb1
  have HB1 := Lib.hid hb1
  have hl1 : S < W1.heap.size := Nat.lt_of_lt_of_le hSl hb1.size
  clear hsub hW1 hb1 x0 x5 hu KA
  go_upto_region 7 with (first
    | (go_at_call 33; refine KR1.mono ?_; rintro e w1 ⟨rfl, hw⟩; obtain rfl := hw.symm; clear KR1))
  have HSLI := Lib.hid hsl
  have hsl1 := hsl W1
  have KPS1 := KPS W1
  simp only [hwn]
  clear hsl KPS hdiv hwn
  go_upto_region 8 with (first
    | (go_at_call 99; refine KPS1.mono ?_; rintro e w2 ⟨rfl, hb2⟩; have hB2 := (HB.out.below HB1.out).below hb2; have d2 := hB2.cell 2; have d3 := hB2.cell 3; have q2 := hB2.frozen 2; have q3 := hB2.frozen 3; simp at d2 d3; have hl2 := hB2.lt; have HB2 := Lib.hid hb2; clear hb2 hB2 KPS1))
  have hst2 := (HST.out.below HB1.out).below HB2.out
  have hst3 : Sto ((w2.setCell ⟨S, 2, none⟩ (.int .i64 (u : Int))).setCell ⟨S, 3, none⟩ (.string PB)) X S D Lg M ⟨ds, [], T, most, false⟩ := hst2.own (grown_set2 w2 S 2 3 _ _) (T := T) (off := false) (by
    have := (hst2.blk.set 2 (.int .i64 (u : Int))).set 3 (.string PB)
    simpa [stoCells, hTV.out.1, hTV.out.2] using this)
  have hmv : Mv (S :: X) (S :: X) w ((w2.setCell ⟨S, 2, none⟩ (.int .i64 (u : Int))).setCell ⟨S, 3, none⟩ (.string PB)) := (Mv.of_below _ (HB1.out.trans (HB2.out.mono HB1.out.size))).trans (Mv.of_grown (grown_set2 w2 S 2 3 _ _) (by simp))
  obtain ⟨W3, hW3⟩ : ∃ q, (w2.setCell ⟨S, 2, none⟩ (.int .i64 (u : Int))).setCell ⟨S, 3, none⟩ (.string PB) = q := ⟨_, rfl⟩
  rw [hW3] at hst3 hmv ⊢
  have HS3 := Lib.hid (And.intro hst3 hmv)
  have hsl3 := HSLI.out W3
  have KPD3 := KPD W3
  clear hW3 hst3 hmv hst2 y0 hl1 hsl1 d2 d3 q2 q3 hl2 KPD
  go_upto_region 10 with (first
    | (go_at_call 86; refine KPD3.mono ?_; rintro e w4 ⟨rfl, hb4⟩; have HB4 := Lib.hid hb4; have KN4 := KN w4; clear hb4 KPD3))
  have hst4 := HS3.out.1.below HB4.out
  have z5 := hst4.blk.cell 5
  simp at z5
  have zl := hst4.blk.lt
  have HST4 := Lib.hid hst4
  clear hst4 hsl3 KN
  go_wp2_with (first
    | (go_at_call 100; refine KN4.mono ?_; rintro e w5 ⟨rfl, hb5⟩; have hst5 := HST4.out.below hb5; have z5' := hst5.blk.cell 5; simp at z5'; have zl' := hst5.blk.lt; have HB5 := Lib.hid hb5; have HST5 := Lib.hid hst5; clear hb5 hst5 KN4))
  have hB8 := Blk.new w5 #[.int .i64 (u : Int), .string PB] 76
  have hst6 := HST5.out.below (below_alloc w5 (.cells #[.int .i64 (u : Int), .string PB] 76))
  have hmv6 := (HS3.out.2.below (HB4.out.trans (HB5.out.mono HB4.out.size))).below (below_alloc w5 (.cells #[.int .i64 (u : Int), .string PB] 76))
  have hSH : S < w5.heap.size := HST5.out.blk.lt
  obtain ⟨H8, hH8⟩ : ∃ q, w5.heap.size = q := ⟨_, rfl⟩
  rw [hH8] at hB8 hSH
  obtain ⟨W6, hW6⟩ : ∃ q, w5.alloc (.cells #[.int .i64 (u : Int), .string PB] 76) = q := ⟨_, rfl⟩
  simp only [hW6] at hB8 hst6 hmv6 ⊢
  try simp only [hH8]
  have HS6 := Lib.hid (And.intro hst6 (And.intro hmv6 hB8))
  have HSH := Lib.hid hSH
  clear hB8 hst6 hmv6 hSH hH8 hW6 z5 zl z5' zl'
  go_loopw [73] (fun i wr => ∃ k : Nat, k ≤ most ∧ i = .int .i64 k ∧ Sto wr X S D Lg M ⟨ds, [], T, most, false⟩ ∧ Mv (S :: X) (S :: X) w wr ∧ Blk wr H8 #[.int .i64 (u : Int), .string PB] 76) (fun i _ => most - (intOf i).toNat)
  case atStart => exact ⟨0, Nat.zero_le _, rfl, HS6.out⟩
  case round =>
    obtain ⟨k, hk, rfl, hst, hmv, hB8⟩ := hrel
    by_cases hlt : k < most
    · have KR := HKR2.out wr k hlt hst.dsk
      rw [show ((2 + k : Nat) : Int) = 2 + (k : Int) by push_cast; rfl] at KR
      have x0 := hst.blk.cell 0
      simp at x0
      have HH := Lib.hid (And.intro hst (And.intro hmv hB8))
      have KP := KP0 wr
      have k0 : (0 : Int) ≤ (k : Int) := by omega
      have k1 : (k : Int) < (most : Int) := by omega
      clear hst hmv hB8
      go_wp2_with (first
        | (go_at_call 33; refine KR.mono ?_; rintro e w1 ⟨rfl, hw⟩; obtain rfl := hw.symm; clear KR)
        | (go_at_call 86; refine KP.mono ?_; rintro e w7 ⟨rfl, hb7⟩; have HB7 := Lib.hid hb7; clear KP hb7))
      go_roundw
      case rel => exact ⟨k + 1, by omega, by go_num, HH.out.1.below HB7.out, HH.out.2.1.below HB7.out, HH.out.2.2.below HB7.out⟩
      case measure => simp [intOf]; omega
    · obtain rfl : k = most := by omega
      have y2 := hst.blk.cell 2
      have y3 := hst.blk.cell 3
      simp only [stoCells, hTV.out.1, hTV.out.2] at y2 y3
      have e0 := hB8.cell 0
      have e1 := hB8.cell 1
      simp at y2 y3 e0 e1
      have HH := Lib.hid (And.intro hst hmv)
      clear hst hmv hB8
      go_upto_region 28 with (fail)
      go_quiet (fail)
      go_wp2
      go_ret
      exact ⟨rfl, HH.out.1.below (bdN (Below.refl _ _) _), HH.out.2.below (bdN (Below.refl _ _) _)⟩
end Go.Proofs.YtcmcdddnckcpcaaGreatDoor
/- file.Mount of a store without files, walked. -/
namespace Go.Proofs.YtcmcdddnckcpcaaGreatDoor
open Go.RowKit Go.Maps
/-- A new block is written, too. -/
theorem Mv.hide {X X' : List Nat} {S : Nat} {w w4 w5 : World} (h : Mv X X' w w4) (k : Mv (S :: X') (S :: X') w4 w5) (hS : w.heap.size ≤ S) : Mv X X' w w5 := by
  refine ⟨⟨k.frm.os.trans h.frm.os, k.frm.tape.trans h.frm.tape, k.frm.output.trans h.frm.output, Nat.le_trans h.size k.size, fun b hb hx => ?_⟩, h.sub⟩
  refine (k.frm.block b (Nat.lt_of_lt_of_le hb h.size) (fun hm => ?_)).trans (h.frm.block b hb hx)
  rcases List.mem_cons.1 hm with rfl | hm
  · omega
  · exact h.apart hx hb hm
theorem head_bytes (n f : Nat) (hf : f ≤ 256) : byteAt (headB n f) 4 * 256 + byteAt (headB n f) 5 = f := by
  have h4 : byteAt (headB n f) 4 = (UInt8.ofNat (f / 256)).toNat := rfl
  have h5 : byteAt (headB n f) 5 = (UInt8.ofNat f).toNat := rfl
  rw [h4, h5]
  simp
  omega
theorem headB_len (n f : Nat) : (headB n f).length = 512 := by unfold headB; exact full_length _ (by simp [twoB])
set_option maxRecDepth 100000 in
set_option maxHeartbeats 4000000 in
theorem mount0_any (X : List Nat) (D : Nat) (ds : DS) (most u : Nat) (w : World) (h : Dsk w X D ds) (ho : ds.off = false) (hm : 1 ≤ most ∧ most ≤ 256) (hu : u + most + 7 = ds.L.length) (hu1 : 1 ≤ u) (hu2 : u ≤ 4000)
    (h0 : secAt ds.vis 0 = headB ds.L.length most) (h1 : secAt ds.vis 1 = fullB (packB (List.replicate u false))) (h2 : ∀ i, i < most → secAt ds.vis (2 + i) = zeroS) (hlog : saidB ds.vis (2 + most) 5 = [])
    (hS : ds.S.length ≤ 990000) (hT : TB w) (hw : 0 < w.heap.size) (hX0 : 0 ∉ X) :
    Calls Tryz.prog 24 #[.pointer (some ⟨D, 0, none⟩)] w fun e w' => ∃ X' S Lg M, e = .returned (.tuple #[.pointer (some ⟨S, 0, none⟩), .int .i64 0]) ∧ Sto w' X' S D Lg M ⟨ds, [], List.replicate u false, most, false⟩ ∧ Mv X X' w w' ∧ w.heap.size ≤ S ∧ w.heap.size ≤ M := by
  have KR1 := read_any X D ds 0 w h (by omega) ho
  have hr1 : ds.vis[0]?.getD [] = headB ds.L.length most := h0
  rw [hr1] at KR1
  have KZ := fun (w1 : World) (hw : Below w.heap.size w w1) => size_any X D ds w1 (h.below hw)
  have KA := fun w1 => dataAt_any most w1 (by omega)
  have KH := fun w1 => head_any ds.L.length most w1 (by have := h.good.small; omega) (by omega)
  have KO := fun (w1 : World) (hb : Below w.heap.size w w1) => open_any X D ds (2 + most) 5 w1 (h.below hb) (by omega) (by omega) (by omega) ho hS (hT.below hw hb) (Nat.lt_of_lt_of_le hw hb.size)
  unfold OpenP at KO
  rw [hlog] at KO
  simp only [show openC [] (2 + most) = [] from rfl, show DS.run [] ds = (0, ds) from rfl] at KO
  have KL := fun (X1 : List Nat) (S Lg M : Nat) (w1 : World) (hs : Sto w1 X1 S D Lg M ⟨ds, [], [], most, false⟩) => learn0_any X1 S D Lg M ds most u w1 hs ho hm hu hu1 hu2 h1 h2
  have hHl := headB_len ds.L.length most
  have hhb := head_bytes ds.L.length most hm.2
  obtain ⟨hd, hhd⟩ : ∃ q, headB ds.L.length most = q := ⟨_, rfl⟩
  rw [hhd] at KR1 hHl hhb
  simp only [hhd] at KH
  obtain ⟨HS, hHS⟩ : ∃ q, mk hd = q := ⟨_, rfl⟩
  rw [hHS] at KR1
  simp only [hHS] at KH
  obtain ⟨ja, jb⟩ := at_mkH hd HS hHS 4 (by omega)
  obtain ⟨jc, jd⟩ := at_mkH hd HS hHS 5 (by omega)
  have zH : HS.size = 512 := by rw [← hHS, mk_size, hHl]
  have q1 : byteAt hd 4 < 256 := byteAt_lt _ _
  have q2 : byteAt hd 5 < 256 := byteAt_lt _ _
  obtain ⟨a1, ha1⟩ : ∃ q, byteAt hd 4 = q := ⟨_, rfl⟩
  obtain ⟨a2, ha2⟩ : ∃ q, byteAt hd 5 = q := ⟨_, rfl⟩
  rw [ha1] at jb hhb q1
  rw [ha2] at jd hhb q2
  have q3 : (0 : Int) ≤ (a1 : Int) ∧ (a1 : Int) < 256 := by omega
  have q4 : (0 : Int) ≤ (a2 : Int) ∧ (a2 : Int) < 256 := by omega
  obtain ⟨N, hN⟩ : ∃ q, ds.L.length = q := ⟨_, rfl⟩
  have hu' := hu
  rw [hN] at hu'
  have m1 : ¬ ((most : Int) < 1) := by omega
  have m2 : ¬ ((256 : Int) < (most : Int)) := by omega
  have m3 : ¬ ((N : Int) < (most : Int) + 7 + 1) := by omega
  have hor := or_i64 a1 a2 (by omega) q2
  have w4 : wrap64 (a2 : Int) = (a2 : Int) := word64 q4.1 q4.2 (by decide)
  rw [w4, hhb] at hor
  have w3 : wrap64 (a1 : Int) = (a1 : Int) := word64 q3.1 q3.2 (by decide)
  have w7 : IntKind.i64.wrap (a1 : Int) = (a1 : Int) := by rw [Go.IntWalk.i64_left]; exact w3
  have w8 : IntKind.i64.wrap (a2 : Int) = (a2 : Int) := by rw [Go.IntWalk.i64_left]; exact w4
  have w5 : IntKind.i64.wrap ((a1 : Int) * 256) = (a1 : Int) * 256 := word256 q3.1 q3.2
  have HD := Lib.hid h
  have HT := Lib.hid (And.intro hT (And.intro hw hX0))
  have HLT := Lib.hid h.lt
  have HDM := Lib.hid h.mem
  simp only [hN] at KZ KH
  have HKZ := Lib.hid KZ
  have HKO := Lib.hid KO
  have HKL := Lib.hid KL
  have mixed : Tryz.prog.follows Departure.mixedOrders = true := by kernel_rfl
  clear hu' h ho hu hu1 hu2 h0 h1 h2 hlog hS hT hw hX0 hr1 KZ KO KL hHl hhd hHS ha1 ha2 hhb hN
  go_enter Tryz.func24, Tryz.ntmps24
  go_upto_region 6 with (first | (go_at_call 33; refine KR1.mono ?_; rintro e w1 ⟨rfl, hw⟩; obtain rfl := hw.symm; clear KR1))
  refine wp_region_held (S := fun _ => True) mixed ?_
  change wpAnyH _ _ _ _ _ _ _ _ w.drew
  have hb0 : Below w.heap.size w w.drew := (Below.refl _ _).drew
  obtain ⟨W0, hW0⟩ : ∃ q, w.drew = q := ⟨_, rfl⟩
  rw [hW0] at hb0 ⊢
  clear hW0
  refine wpAnyH_take (i := 0) (v := .string HS) rfl (by kernel_rfl) (by kernel_rfl) (by kernel_rfl) (fun c a w h => h) (.inl ⟨by kernel_rfl, fun w' hS => ?_⟩) trivial ?_
  · clear hS; go_simp
  try go_simp
  refine wpAnyH_take (i := 1) (v := .int .u8 (a1 : Int)) rfl (by kernel_rfl) (by kernel_rfl) (by kernel_rfl) (fun c a w h => h) (.inl ⟨by kernel_rfl, fun w' hS => ?_⟩) trivial ?_
  · clear hS; go_simp
  try go_simp
  refine wpAnyH_take (i := 2) (v := .int .i64 (a1 : Int)) rfl (by kernel_rfl) (by kernel_rfl) (by kernel_rfl) (fun c a w h => h) (.inl ⟨by kernel_rfl, fun w' hS => ?_⟩) trivial ?_
  · clear hS; go_simp
  try go_simp
  refine wpAnyH_take (i := 3) (v := .int .i64 ((a1 : Int) * 256)) rfl (by kernel_rfl) (by kernel_rfl) (by kernel_rfl) (fun c a w h => h) (.inl ⟨by kernel_rfl, fun w' hS => ?_⟩) trivial ?_
  · clear hS; go_simp
  try go_simp
  refine wpAnyH_take (i := 4) (v := .string HS) rfl (by kernel_rfl) (by kernel_rfl) (by kernel_rfl) (fun c a w h => h) (.inl ⟨by kernel_rfl, fun w' hS => ?_⟩) trivial ?_
  · clear hS; go_simp
  try go_simp
  refine wpAnyH_take (i := 5) (v := .int .u8 (a2 : Int)) rfl (by kernel_rfl) (by kernel_rfl) (by kernel_rfl) (fun c a w h => h) (.inl ⟨by kernel_rfl, fun w' hS => ?_⟩) trivial ?_
  · clear hS; go_simp
  try go_simp
  refine wpAnyH_take (i := 6) (v := .int .i64 (a2 : Int)) rfl (by kernel_rfl) (by kernel_rfl) (by kernel_rfl) (fun c a w h => h) (.inl ⟨by kernel_rfl, fun w' hS => ?_⟩) trivial ?_
  · clear hS; go_simp
  try go_simp
  refine wpAnyH_take (i := 7) (v := .int .i64 (most : Int)) rfl (by kernel_rfl) (by kernel_rfl) (by kernel_rfl) (fun c a w h => h) (.inl ⟨by kernel_rfl, fun w' hS => ?_⟩) trivial ?_
  · clear hS; go_simp
  try go_simp
  refine wpAnyH_take (i := 8) (v := .int .i64 (most : Int)) rfl (by kernel_rfl) (by kernel_rfl) (by kernel_rfl) (fun c a w h => h) (.inl ⟨by kernel_rfl, fun w' hS => ?_⟩) trivial ?_
  · clear hS; go_simp
  try go_simp
  refine wpAnyH_done (by kernel_rfl) ?_ _
  have KZ1 := HKZ.out W0 hb0
  have KH1 := KH W0
  have HB0 := Lib.hid hb0
  clear hor w3 w4 w5 w7 w8 hb0 ja jb jc jd q1 q2 q3 q4 zH KH
  go_upto_region 9 with (first
    | (go_at_call 53; refine KZ1.mono ?_; rintro e w1 ⟨rfl, hw⟩; obtain rfl := hw.symm)
    | (go_at_call 54; refine (KA _).mono ?_; rintro e w1 ⟨rfl, hw⟩; obtain rfl := hw.symm)
    | (go_at_call 55; refine KH1.mono ?_; rintro e w2 ⟨rfl, hb2⟩; have HB2 := Lib.hid (HB0.out.trans (hb2.mono HB0.out.size)); clear hb2 KH1))
  clear KZ1 KA m1 m2 m3
  have hmm := @run_makeMap Tryz.prog
  go_upto_region 10 with (fail)
  clear hmm
  have hM0 := FM.made w2 (fun _ => (none, 0))
  have hbS := Blk.new (w2.alloc (.map #[] 0)) #[.pointer (some ⟨D, 0, none⟩), .pointer none, .int .i64 0, .string ⟨#[]⟩, .map (some w2.heap.size), .int .i64 (most : Int), .bool false] 79
  have hb3 := (HB2.out.alloc HB2.out.size (.map #[] 0)).alloc (by have := HB2.out.size; simp; omega) (.cells #[.pointer (some ⟨D, 0, none⟩), .pointer none, .int .i64 0, .string ⟨#[]⟩, .map (some w2.heap.size), .int .i64 (most : Int), .bool false] 79)
  have hM1 := hM0.block (Below.heap_alloc (w2.alloc (.map #[] 0)) (.cells #[.pointer (some ⟨D, 0, none⟩), .pointer none, .int .i64 0, .string ⟨#[]⟩, .map (some w2.heap.size), .int .i64 (most : Int), .bool false] 79) w2.heap.size hM0.lt)
  rw [World.size_alloc] at hbS
  have hMge : w.heap.size ≤ w2.heap.size := HB2.out.size
  obtain ⟨W3, hW3⟩ : ∃ q, (w2.alloc (.map #[] 0)).alloc (.cells #[.pointer (some ⟨D, 0, none⟩), .pointer none, .int .i64 0, .string ⟨#[]⟩, .map (some w2.heap.size), .int .i64 (most : Int), .bool false] 79) = q := ⟨_, rfl⟩
  simp only [hW3] at hbS hb3 hM1 ⊢
  obtain ⟨M, hMe⟩ : ∃ q, w2.heap.size = q := ⟨_, rfl⟩
  rw [hMe] at hbS hM1 hMge
  try simp only [hMe]
  have KO := HKO.out W3 hb3
  rw [show ((2 + most : Nat) : Int) = 2 + (most : Int) by push_cast; rfl] at KO
  have HS3 := Lib.hid (And.intro hbS (And.intro hb3 (And.intro hM1 hMge)))
  clear hM0 hbS hb3 hM1 hMge hW3 hMe
  go_upto_region 11 with (first
    | (go_at_call 58; refine KO.mono ?_; rintro e w4 ⟨X', hd4, hm4, hok, hno⟩; obtain ⟨Lg, n4, rfl, hge, hLX, hWL⟩ := hok trivial; have hS4 := hm4.blk HS3.out.1 (fun hx => by have := HLT.out _ hx; have := HS3.out.2.2.2; omega); have y1 := hS4.cell 1; have f1 := hS4.frozen 1; simp at y1; have l4 := hS4.lt; have HW4 := Lib.hid (And.intro hd4 (And.intro hm4 (And.intro hge (And.intro hLX (And.intro hWL hS4))))); clear hd4 hm4 hok hno hge hLX hWL hS4 KO))
  have hst5 : Sto (w4.setCell ⟨M + 1, 1, none⟩ (.pointer (some ⟨Lg, 0, none⟩))) X' (M + 1) D Lg M ⟨ds, [], [], most, false⟩ := by
    obtain ⟨hd4, hm4, hge, hLX, hWL, hS4⟩ := HW4.out
    obtain ⟨hbS, hb3, hM1, hMge⟩ := HS3.out
    have hg := grown_set w4 (M + 1) 1 (.pointer (some ⟨Lg, 0, none⟩))
    have hSl := hbS.lt
    have hXn : ∀ x ∈ X, x < w.heap.size := HLT.out
    have hSX : M + 1 ∉ X := fun hx => by have := hXn _ hx; omega
    have hMX : M ∉ X := fun hx => by have := hXn _ hx; omega
    have hSX' := hm4.apart hSX hSl
    have hMX' := hm4.apart hMX hM1.lt
    have h0X' := hm4.apart HT.out.2.2 (Nat.lt_of_lt_of_le HT.out.2.1 hb3.size)
    have hfr : Frm [M + 1] w4 (w4.setCell ⟨M + 1, 1, none⟩ (.pointer (some ⟨Lg, 0, none⟩))) := ⟨hg.os, hg.tape, hg.output, hg.size, fun k hk hx => hg.block k hk (by simpa using hx)⟩
    have htb := ((HT.out.1.below HT.out.2.1 hb3).mv hm4 (Nat.lt_of_lt_of_le HT.out.2.1 hb3.size) HT.out.2.2)
    have htb5 := htb.1.mv (Mv.of_frm hfr) htb.2.1 (by simp)
    have hM4 : FM w4 M (fun _ => (none, 0)) [] := hM1.block (hm4.frm.block M hM1.lt hMX)
    refine ⟨?_, hd4.frm hfr (fun x hx e => hSX' (by simp at e; rwa [← e])), hfr.blk hWL (by simp; omega), ⟨fun _ => (none, 0), hM4.block (hg.block M hM4.lt (by simp)), fun f hf => by cases hf⟩, ⟨hSX', hLX, hMX', h0X'⟩, htb5.1, htb5.2.1⟩
    have := hS4.set 1 (.pointer (some ⟨Lg, 0, none⟩))
    have e : mk (packB []) = (⟨#[]⟩ : ByteArray) := by rw [show packB [] = [] from rfl]; rfl
    simpa [stoCells, e] using this
  have hmv5 : Mv X X' w (w4.setCell ⟨M + 1, 1, none⟩ (.pointer (some ⟨Lg, 0, none⟩))) :=
    ((Mv.of_below X HS3.out.2.1).trans HW4.out.2.1).hide (S := M + 1) (Mv.of_grown (grown_set w4 (M + 1) 1 _) (by simp)) (by have := HS3.out.2.2.2; omega)
  obtain ⟨W5, hW5⟩ : ∃ q, w4.setCell ⟨M + 1, 1, none⟩ (.pointer (some ⟨Lg, 0, none⟩)) = q := ⟨_, rfl⟩
  rw [hW5] at hst5 hmv5 ⊢
  have KL := HKL.out X' (M + 1) Lg M W5 hst5
  have HMV := Lib.hid hmv5
  have HMG := Lib.hid HS3.out.2.2.2
  clear hW5 hst5 hmv5 y1 f1 l4
  go_wp2_with (first
    | (go_at_call 59; refine KL.mono ?_; rintro e w6 ⟨rfl, hst6, hmv6⟩; have H6 := Lib.hid (And.intro hst6 hmv6); clear hst6 hmv6 KL))
  go_ret2
  have hge := HMG.out
  exact ⟨X', M + 1, Lg, M, rfl, H6.out.1, HMV.out.hide H6.out.2 (by omega), by omega, hge⟩
end Go.Proofs.YtcmcdddnckcpcaaGreatDoor
