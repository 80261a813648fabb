/- The document's own Line, walked. -/
import Derived.Test.YtejokbfejkkpmaaDoorDg
import Derived.Test.YtejokbfejkkpmaaDoorPv
import Derived.Deep.CutBlock
namespace Go.Proofs.YtejokbfejkkpmaaDoor
open Go.RowKit Go.Maps Go.WideMaps
theorem ext_mk (s : ByteArray) (f a : Nat) : s.extract f (f + a) = mk ((s.data.toList.drop f).take a) := by
  apply ByteArray.ext
  rw [ByteArray.data_extract]
  apply Array.toList_inj.1
  simp [mk, List.extract_eq_take_drop]
theorem fold_lt (l : Bs) : ∀ n, l.all isD = true → l.foldl stepD n < (n + 1) * 10 ^ l.length := by
  induction l with
  | nil => intro n _; simp
  | cons c l ih =>
    intro n h
    simp only [List.all_cons, Bool.and_eq_true] at h
    have hc := (isD_int c).1 h.1
    have h1 := ih (stepD n c) h.2
    have h2 : stepD n c + 1 ≤ (n + 1) * 10 := by unfold stepD; omega
    have h3 := Nat.mul_le_mul_right (10 ^ l.length) h2
    simp only [List.foldl_cons, List.length_cons, Nat.pow_succ]
    rw [Nat.mul_comm (10 ^ l.length) 10, ← Nat.mul_assoc]
    omega
theorem val_lt (x : Bs) (k : Nat) (h : k ≤ refK x) : valD (x.take k) < 10000000000 := by
  have hk := refK_le x
  have ha : (x.take k).all isD = true := by
    have := refK_take x
    rw [List.all_eq_true] at this ⊢
    intro c hc
    refine this c ?_
    have e : x.take k = (x.take (refK x)).take k := by rw [List.take_take, Nat.min_eq_left h]
    rw [e] at hc
    exact List.mem_of_mem_take hc
  have h1 := fold_lt (x.take k) 0 ha
  have h2 : 10 ^ (x.take k).length ≤ 10 ^ 10 := Nat.pow_le_pow_right (by decide) (by rw [List.length_take]; omega)
  unfold valD
  omega
set_option maxRecDepth 100000 in
set_option maxHeartbeats 8000000 in
theorem rline_any (s : ByteArray) (w : World) (hs : s.size ≤ maxLen - 1) :
    Calls Tryd.prog 39 #[.string s] w fun e w' => ∃ (n : Int) (t : ByteArray), e = .returned (.tuple #[.agg #[.int .i64 n, .string t], .bool (lineV s.data.toList).isSome]) ∧ (∀ k u, lineV s.data.toList = some (k, u) → n = k ∧ t = mk u) ∧ Below w.heap.size w w' := by
  unfold maxLen at hs
  have hsl : s.data.toList.length = s.size := by simp
  have b0 := Bl.new w #[.int .i64 0, .string ⟨#[]⟩] 44
  have hB0 := below_alloc w (.cells #[.int .i64 0, .string ⟨#[]⟩] 44)
  have hs0 : w.heap.size < (w.alloc (.cells #[.int .i64 0, .string ⟨#[]⟩] 44)).heap.size := by simp
  obtain ⟨W, hW⟩ : ∃ W, w.alloc (.cells #[.int .i64 0, .string ⟨#[]⟩] 44) = W := ⟨_, rfl⟩
  rw [hW] at b0 hB0 hs0
  obtain ⟨N, hN⟩ : ∃ N, w.heap.size = N := ⟨_, rfl⟩
  rw [hN] at b0 hB0 hs0
  have HW := Lib.hid hW
  have HN := Lib.hid hN
  have hLR := line_ref s.data.toList
  have hKL := refK_le s.data.toList
  have hK1 := refK_lt s.data.toList
  have hK2 := refK_at s.data.toList
  have hvl := val_lt s.data.toList
  obtain ⟨x, hx⟩ : ∃ x, s.data.toList = x := ⟨_, rfl⟩
  rw [hx] at hsl hLR hKL hK1 hK2 hvl ⊢
  obtain ⟨K, hK⟩ : ∃ K, refK x = K := ⟨_, rfl⟩
  rw [hK] at hLR hKL hK1 hK2 hvl
  obtain ⟨V, hV⟩ : ∃ V, valD (x.take K) = V := ⟨_, rfl⟩
  rw [hV] at hLR
  have HLR := Lib.hid hLR
  have HV := Lib.hid hV
  have Hx := Lib.hid hx
  have Hvl := Lib.hid hvl
  have HK1 := Lib.hid hK1
  have HK2 := Lib.hid hK2
  have Hb0 := Lib.hid b0
  have HB0 := Lib.hid hB0
  have hge : ∀ (j : Nat) (h : j < s.size), s[j] = x[j]'(by omega) := fun j h => by subst hx; show s.data[j] = _; simp
  have Hge := Lib.hid hge
  have Hs0 := Lib.hid hs0
  rw [hsl] at hKL
  obtain ⟨hKs, hK10⟩ := hKL
  clear hLR hK hV hx hvl hK1 hK2 b0 hB0 hW hN hge hs0
  go_enter Tryd.func39, Tryd.ntmps39
  go_upto_block 0 with fail
  rw [HW.out]
  go_cut [4, 5] from 6 to 35 (fun s4 s5 wx => s4 = .int .i64 K ∧ s5 = .int .i64 V ∧ wx = W)
  case first =>
    go_wp2_with fail
    go_loop [4, 5] (fun kv nv => ∃ k : Nat, k ≤ K ∧ kv = .int .i64 k ∧ nv = .int .i64 (valD (x.take k))) (fun kv _ => K - (intOf kv).toNat)
    case atStart => exact ⟨0, Nat.zero_le _, rfl, rfl⟩
    case round =>
      obtain ⟨k, hk, rfl, rfl⟩ := hrel
      by_cases hlt : k < K
      · have hks : k < s.size := by omega
        have hd := (isD_int _).1 (HK1.out k hlt (by rw [hsl]; exact hks))
        rw [← Hge.out k hks] at hd
        have hv2 : valD (x.take (k + 1)) = 10 * valD (x.take k) + (s[k].toNat - 48) := by
          rw [List.take_succ_eq_append_getElem (by rw [hsl]; exact hks), valD_snoc, Hge.out k hks]
        have hv := Hvl.out k hk
        obtain ⟨v, hve⟩ : ∃ v, valD (x.take k) = v := ⟨_, rfl⟩
        rw [hve] at hv2 hv ⊢
        obtain ⟨hd1, hd2⟩ := hd
        have hk10 : (k : Int) < 10 := by omega
        have hks' : (k : Int) < (s.size : Int) := by omega
        have hv3 := Lib.hid (show (valD (x.take (k + 1)) : Int) = 10 * (v : Int) + (s[k].toNat : Int) - 48 by rw [hv2]; omega)
        clear hv2 hve
        go_wp2
        go_round
        case rel => exact ⟨k + 1, by omega, by go_num, congrArg (Value.int .i64) hv3.out.symm⟩
        case measure => simp [intOf]; omega
      · obtain rfl : k = K := by omega
        rw [HV.out]
        by_cases h1 : k < s.size
        · by_cases h2 : k < 10
          · have hd := HK2.out (by rw [hsl]; exact h1) h2
            rw [← Hge.out k h1] at hd
            have hc : (s[k].toNat : Int) < 48 ∨ (57 < (s[k].toNat : Int) ∧ 48 ≤ (s[k].toNat : Int)) := by
              have := isD_int s[k]
              rw [hd] at this
              simp at this
              omega
            have h2' : (k : Int) < 10 := by omega
            clear hd
            rcases hc with hc | ⟨hc, hc'⟩
            · go_wp2
              go_meet
              case rel => exact ⟨rfl, rfl, rfl⟩
            · go_wp2
              go_meet
              case rel => exact ⟨rfl, rfl, rfl⟩
          · obtain rfl : k = 10 := by omega
            go_wp2
            go_meet
            case rel => exact ⟨rfl, rfl, rfl⟩
        · obtain rfl : k = s.size := by omega
          go_wp2
          go_meet
          case rel => exact ⟨rfl, rfl, rfl⟩
  case rest =>
    obtain ⟨rfl, rfl, hwc⟩ := hcut
    rw [hwc]
    clear hwc
    try simp only [HN.out]
    by_cases h0 : K = 0
    · subst h0
      have hR : lineV x = none := by rw [HLR.out, if_neg (fun h => h.1 rfl)]
      clear HLR
      go_wp2_with fail
      go_quiet (fail)
      have y0 : (W.drewN nq).cell? ⟨N, 0, none⟩ = some (.int .i64 0) := Hb0.out.cell 0
      have y1 : (W.drewN nq).cell? ⟨N, 1, none⟩ = some (.string ⟨#[]⟩) := Hb0.out.cell 1
      have f0 : (W.drewN nq).frozen? ⟨N, 0, none⟩ = false := Hb0.out.frozen 0
      have f1 : (W.drewN nq).frozen? ⟨N, 1, none⟩ = false := Hb0.out.frozen 1
      have BB : Below w.heap.size w (W.drewN nq) := below_drewN (HN.out.symm ▸ HB0.out) nq
      have hb : Bl (W.drewN nq) N #[.int .i64 0, .string ⟨#[]⟩] 44 := Hb0.out
      obtain ⟨w3, hw3⟩ : ∃ w3, W.drewN nq = w3 := ⟨_, rfl⟩
      rw [hw3] at y0 y1 f0 f1 BB hb ⊢
      clear hw3
      go_wp2
      have Z2 := (hb.set 0 (.int .i64 0)).set 1 (.string ⟨#[]⟩)
      have hN' : w.heap.size ≤ N := Nat.le_of_eq HN.out
      have BB2 := (BB.setCell (p := ⟨N, 0, none⟩) hN' (.int .i64 0)).setCell (p := ⟨N, 1, none⟩) hN' (.string ⟨#[]⟩)
      have z0 := Z2.cell 0
      have z1 := Z2.cell 1
      simp at z0 z1
      refine bodyPost_ret (v := .tuple #[.agg #[.int .i64 0, .string ⟨#[]⟩], .bool false]) ?_ rfl ?_
      · rw [results_cell_tmp Tryd.results39]
        go_simp
      · refine ⟨0, ⟨#[]⟩, by rw [hR]; rfl, ?_, BB2⟩
        intro k u e; rw [hR] at e; cases e
    have e0 : ((K : Int) == 0) = false := by simp; omega
    by_cases h1 : K = s.size
    · subst h1
      have hR : lineV x = none := by rw [HLR.out, if_neg (by intro h; have := h.2.1; rw [List.getElem?_eq_none (by rw [hsl]; exact Nat.le_refl _)] at this; cases this)]
      clear HLR
      go_wp2_with fail
      go_quiet (fail)
      have y0 : (W.drewN nq).cell? ⟨N, 0, none⟩ = some (.int .i64 0) := Hb0.out.cell 0
      have y1 : (W.drewN nq).cell? ⟨N, 1, none⟩ = some (.string ⟨#[]⟩) := Hb0.out.cell 1
      have f0 : (W.drewN nq).frozen? ⟨N, 0, none⟩ = false := Hb0.out.frozen 0
      have f1 : (W.drewN nq).frozen? ⟨N, 1, none⟩ = false := Hb0.out.frozen 1
      have BB : Below w.heap.size w (W.drewN nq) := below_drewN (HN.out.symm ▸ HB0.out) nq
      have hb : Bl (W.drewN nq) N #[.int .i64 0, .string ⟨#[]⟩] 44 := Hb0.out
      obtain ⟨w3, hw3⟩ : ∃ w3, W.drewN nq = w3 := ⟨_, rfl⟩
      rw [hw3] at y0 y1 f0 f1 BB hb ⊢
      clear hw3
      go_wp2
      have Z2 := (hb.set 0 (.int .i64 0)).set 1 (.string ⟨#[]⟩)
      have hN' : w.heap.size ≤ N := Nat.le_of_eq HN.out
      have BB2 := (BB.setCell (p := ⟨N, 0, none⟩) hN' (.int .i64 0)).setCell (p := ⟨N, 1, none⟩) hN' (.string ⟨#[]⟩)
      have z0 := Z2.cell 0
      have z1 := Z2.cell 1
      simp at z0 z1
      refine bodyPost_ret (v := .tuple #[.agg #[.int .i64 0, .string ⟨#[]⟩], .bool false]) ?_ rfl ?_
      · rw [results_cell_tmp Tryd.results39]
        go_simp
      · refine ⟨0, ⟨#[]⟩, by rw [hR]; rfl, ?_, BB2⟩
        intro k u e; rw [hR] at e; cases e
    have e1 : ((K : Int) == (s.size : Int)) = false := by simp; omega
    have h1' : K < s.size := by omega
    have hks' : (K : Int) < (s.size : Int) := by omega
    have hat : x[K]? = some s[K] := by rw [Hge.out K h1', List.getElem?_eq_getElem (by rw [hsl]; exact h1')]
    have Hat := Lib.hid hat
    clear hat h1
    by_cases h2 : s[K] = 32
    rotate_left
    · have e2 : ((s[K].toNat : Int) != 32) = true := by rw [bne_iff_ne]; intro e; exact h2 (UInt8.toNat_inj.1 (Int.ofNat_inj.1 e))
      have H2 := Lib.hid h2
      clear h2
      have hR : lineV x = none := by rw [HLR.out, if_neg (by intro h; have := h.2.1; rw [Hat.out] at this; exact H2.out (Option.some.inj this))]
      clear HLR
      go_wp2_with fail
      go_quiet (fail)
      have y0 : (W.drewN nq).cell? ⟨N, 0, none⟩ = some (.int .i64 0) := Hb0.out.cell 0
      have y1 : (W.drewN nq).cell? ⟨N, 1, none⟩ = some (.string ⟨#[]⟩) := Hb0.out.cell 1
      have f0 : (W.drewN nq).frozen? ⟨N, 0, none⟩ = false := Hb0.out.frozen 0
      have f1 : (W.drewN nq).frozen? ⟨N, 1, none⟩ = false := Hb0.out.frozen 1
      have BB : Below w.heap.size w (W.drewN nq) := below_drewN (HN.out.symm ▸ HB0.out) nq
      have hb : Bl (W.drewN nq) N #[.int .i64 0, .string ⟨#[]⟩] 44 := Hb0.out
      obtain ⟨w3, hw3⟩ : ∃ w3, W.drewN nq = w3 := ⟨_, rfl⟩
      rw [hw3] at y0 y1 f0 f1 BB hb ⊢
      clear hw3
      go_wp2
      have Z2 := (hb.set 0 (.int .i64 0)).set 1 (.string ⟨#[]⟩)
      have hN' : w.heap.size ≤ N := Nat.le_of_eq HN.out
      have BB2 := (BB.setCell (p := ⟨N, 0, none⟩) hN' (.int .i64 0)).setCell (p := ⟨N, 1, none⟩) hN' (.string ⟨#[]⟩)
      have z0 := Z2.cell 0
      have z1 := Z2.cell 1
      simp at z0 z1
      refine bodyPost_ret (v := .tuple #[.agg #[.int .i64 0, .string ⟨#[]⟩], .bool false]) ?_ rfl ?_
      · rw [results_cell_tmp Tryd.results39]
        go_simp
      · refine ⟨0, ⟨#[]⟩, by rw [hR]; rfl, ?_, BB2⟩
        intro k u e; rw [hR] at e; cases e
    have e2 : ((s[K].toNat : Int) != 32) = false := by rw [h2]; rfl
    have H2 := Lib.hid h2
    clear h2
    by_cases h3 : V ≤ 1073741824
    rotate_left
    · have h3' : (1073741824 : Int) < (V : Int) := by omega
      have hR : lineV x = none := by rw [HLR.out, if_neg (by intro h; have := h.2.2.1; omega)]
      clear HLR
      go_wp2_with fail
      go_quiet (fail)
      have y0 : (W.drewN nq).cell? ⟨N, 0, none⟩ = some (.int .i64 0) := Hb0.out.cell 0
      have y1 : (W.drewN nq).cell? ⟨N, 1, none⟩ = some (.string ⟨#[]⟩) := Hb0.out.cell 1
      have f0 : (W.drewN nq).frozen? ⟨N, 0, none⟩ = false := Hb0.out.frozen 0
      have f1 : (W.drewN nq).frozen? ⟨N, 1, none⟩ = false := Hb0.out.frozen 1
      have BB : Below w.heap.size w (W.drewN nq) := below_drewN (HN.out.symm ▸ HB0.out) nq
      have hb : Bl (W.drewN nq) N #[.int .i64 0, .string ⟨#[]⟩] 44 := Hb0.out
      obtain ⟨w3, hw3⟩ : ∃ w3, W.drewN nq = w3 := ⟨_, rfl⟩
      rw [hw3] at y0 y1 f0 f1 BB hb ⊢
      clear hw3
      go_wp2
      have Z2 := (hb.set 0 (.int .i64 0)).set 1 (.string ⟨#[]⟩)
      have hN' : w.heap.size ≤ N := Nat.le_of_eq HN.out
      have BB2 := (BB.setCell (p := ⟨N, 0, none⟩) hN' (.int .i64 0)).setCell (p := ⟨N, 1, none⟩) hN' (.string ⟨#[]⟩)
      have z0 := Z2.cell 0
      have z1 := Z2.cell 1
      simp at z0 z1
      refine bodyPost_ret (v := .tuple #[.agg #[.int .i64 0, .string ⟨#[]⟩], .bool false]) ?_ rfl ?_
      · rw [results_cell_tmp Tryd.results39]
        go_simp
      · refine ⟨0, ⟨#[]⟩, by rw [hR]; rfl, ?_, BB2⟩
        intro k u e; rw [hR] at e; cases e
    have e3 : decide ((1073741824 : Int) < (V : Int)) = false := by simp; omega
    have h3' : (V : Int) ≤ 1073741824 := by omega
    have en : s.extract 0 K = mk (x.take K) := by
      have e := ext_mk s 0 K
      rw [Nat.zero_add] at e
      rw [e, Hx.out]; rfl
    obtain ⟨D, hD⟩ : ∃ D, Lib.decDigits V = D := ⟨_, rfl⟩
    obtain ⟨T, hT⟩ : ∃ T, x.take K = T := ⟨_, rfl⟩
    rw [hT] at en
    have KD := fun w' => digits_any V w' (by omega)
    rw [hD] at KD
    by_cases h4 : D = T
    rotate_left
    · have e4 : ((mk D).toList == (mk T).toList) = false := by rw [ByteArray.toList_eq, ByteArray.toList_eq, mk_data, mk_data, beq_eq_false_iff_ne]; exact h4
      go_wp2_with fail
      go_region_held3 (fun _ => True) (trivial)
        ((go_at_call 53; refine (KD _).mono ?_; rintro e w4 ⟨rfl, hb4⟩))
      have hb : Bl w4 N #[.int .i64 0, .string ⟨#[]⟩] 44 := Bl.below (w := W.drew) Hb0.out hb4
      have BB : Below w.heap.size w w4 := ((HN.out.symm ▸ HB0.out : Below w.heap.size w W).drew).trans (hb4.mono (by have h1 := HN.out; have h2 := Hs0.out; first | (show w.heap.size ≤ W.heap.size; omega) | omega))
      have y0 := hb.cell 0
      have y1 := hb.cell 1
      have f0 := hb.frozen 0
      have f1 := hb.frozen 1
      simp at y0 y1
      clear hb4 KD
      have hR : lineV x = none := by rw [HLR.out, if_neg (by intro h; exact h4 (hD ▸ hT ▸ h.2.2.2.1))]
      clear HLR
      go_wp2
      have Z2 := (hb.set 0 (.int .i64 0)).set 1 (.string ⟨#[]⟩)
      have hN' : w.heap.size ≤ N := Nat.le_of_eq HN.out
      have BB2 := (BB.setCell (p := ⟨N, 0, none⟩) hN' (.int .i64 0)).setCell (p := ⟨N, 1, none⟩) hN' (.string ⟨#[]⟩)
      have z0 := Z2.cell 0
      have z1 := Z2.cell 1
      simp at z0 z1
      refine bodyPost_ret (v := .tuple #[.agg #[.int .i64 0, .string ⟨#[]⟩], .bool false]) ?_ rfl ?_
      · rw [results_cell_tmp Tryd.results39]
        go_simp
      · refine ⟨0, ⟨#[]⟩, by rw [hR]; rfl, ?_, BB2⟩
        intro k u e; rw [hR] at e; cases e
    subst h4
    have e4 : ((mk D).toList == (mk D).toList) = true := by simp
    go_wp2_with fail
    go_region_held3 (fun _ => True) (trivial)
      ((go_at_call 53; refine (KD _).mono ?_; rintro e w4 ⟨rfl, hb4⟩))
    have hb : Bl w4 N #[.int .i64 0, .string ⟨#[]⟩] 44 := Bl.below (w := W.drew) Hb0.out hb4
    have BB : Below w.heap.size w w4 := ((HN.out.symm ▸ HB0.out : Below w.heap.size w W).drew).trans (hb4.mono (by have h1 := HN.out; have h2 := Hs0.out; first | (show w.heap.size ≤ W.heap.size; omega) | omega))
    have y0 := hb.cell 0
    have y1 := hb.cell 1
    have f0 := hb.frozen 0
    have f1 := hb.frozen 1
    simp at y0 y1
    clear hb4 KD
    have wr1 : IntKind.i64.wrap ((K : Int) + 1) = (K : Int) + 1 := by rw [Go.IntWalk.i64_left, Go.IntWalk.wrap64_in _ (by omega)]
    have b1 : (0 : Int) ≤ (K : Int) + 1 := by omega
    have b2 : (K : Int) + 1 ≤ (s.size : Int) := by omega
    have b4 : ((K : Int) + 1).toNat = K + 1 := by omega
    have ep : s.extract (K + 1) s.size = mk (x.drop (K + 1)) := by
      have e := ext_mk s (K + 1) (s.size - (K + 1))
      rw [show K + 1 + (s.size - (K + 1)) = s.size by omega] at e
      rw [e, Hx.out, List.take_of_length_le (by rw [List.length_drop, hsl]; exact Nat.le_refl _)]
    have hUl : (x.drop (K + 1)).length ≤ s.size := by rw [List.length_drop]; omega
    obtain ⟨U, hU⟩ : ∃ U, x.drop (K + 1) = U := ⟨_, rfl⟩
    rw [hU] at ep hUl
    have KT := rtok_any (mk U)
    rw [mk_data] at KT
    have HUs : (mk U).size ≤ maxLen := by rw [mk_size]; unfold maxLen; omega
    have HUs := Lib.hid HUs
    have Hb1 := Lib.hid h1'
    have hd0 := Lib.hid hD
    have ht0 := Lib.hid hT
    have hu0 := Lib.hid hU
    clear hUl hD hT hU
    go_wp2_with fail
    go_region_held3 (fun _ => True) (trivial)
      ((go_at_call 28; refine (KT _ HUs.out).mono ?_; rintro e w5 ⟨rfl, rfl⟩))
    go_wp2
    have Z2 := (hb.set 0 (.int .i64 V)).set 1 (.string (mk U))
    have hN' : w.heap.size ≤ N := Nat.le_of_eq HN.out
    have BB2 := (BB.setCell (p := ⟨N, 0, none⟩) hN' (.int .i64 V)).setCell (p := ⟨N, 1, none⟩) hN' (.string (mk U))
    have z0 := Z2.cell 0
    have z1 := Z2.cell 1
    simp at z0 z1
    have hR : lineV x = if tok U = true then some (V, U) else none := by
      rw [HLR.out]
      by_cases ht : tok U = true
      · rw [if_pos (by refine ⟨h0, ?_, h3, ?_, ?_⟩; (rw [Hat.out, H2.out]); (rw [hd0.out, ht0.out]); (rw [hu0.out]; exact ht)), if_pos ht, hu0.out]
      · rw [if_neg (by rintro ⟨_, _, _, _, h⟩; rw [hu0.out] at h; exact ht h), if_neg ht]
    refine bodyPost_ret (v := .tuple #[.agg #[.int .i64 V, .string (mk U)], .bool (tok U)]) ?_ rfl ?_
    · rw [results_cell_tmp Tryd.results39]
      go_simp
    · refine ⟨V, mk U, ?_, ?_, BB2.drew⟩
      · rw [hR]; cases htk : tok U <;> rfl
      · intro k u e
        rw [hR] at e
        split at e
        · simp only [Option.some.injEq, Prod.mk.injEq] at e
          exact ⟨by omega, by rw [e.2]⟩
        · cases e
end Go.Proofs.YtejokbfejkkpmaaDoor
