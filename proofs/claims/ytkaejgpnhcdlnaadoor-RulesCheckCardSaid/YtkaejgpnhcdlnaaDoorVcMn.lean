/- The document's own Line of a list of merges, walked. -/
import Derived.Test.YtkaejgpnhcdlnaaDoorVcMp
import Derived.Test.YtkaejgpnhcdlnaaDoorVcRl
namespace Go.Proofs.YtkaejgpnhcdlnaaDoor.Vc
open Go.RowKit Go.Maps Go.WideMaps
theorem rtok_val (s : ByteArray) (b : Bool) (hs : s.size ≤ maxLen) (hb : tok s.data.toList = b) (w : World) : Calls Tryd.prog 50 #[.string s] w fun e w' => e = .returned (.bool b) ∧ w = w' := by
  have h := rtok_any s w hs
  rwa [hb] at h
set_option maxRecDepth 100000 in
set_option maxHeartbeats 4000000 in
theorem rmline_any (s : ByteArray) (w : World) (hs : s.size ≤ maxLen - 1) :
    Calls Tryd.prog 40 #[.string s] w fun e w' => ∃ a b : ByteArray, e = .returned (.tuple #[.agg #[.string a, .string b], .bool (lineM s.data.toList).isSome]) ∧ (∀ p, lineM s.data.toList = some p → a = mk p.1 ∧ b = mk p.2) ∧ Below w.heap.size w w' := by
  unfold maxLen at hs
  have hsl : s.data.toList.length = s.size := by simp
  have b0 := Bl.new w #[.string ⟨#[]⟩, .string ⟨#[]⟩] 85
  have hB0 := below_alloc w (.cells #[.string ⟨#[]⟩, .string ⟨#[]⟩] 85)
  obtain ⟨W, hW⟩ : ∃ W, w.alloc (.cells #[.string ⟨#[]⟩, .string ⟨#[]⟩] 85) = W := ⟨_, rfl⟩
  rw [hW] at b0 hB0
  obtain ⟨N, hN⟩ : ∃ N, w.heap.size = N := ⟨_, rfl⟩
  rw [hN] at b0 hB0
  have HW := Lib.hid hW
  have HN := Lib.hid hN
  have hLR := lineM_ref s.data.toList
  have hKL := k_le s.data.toList
  have hK1 := k_ne s.data.toList
  have hK2 := k_at s.data.toList
  obtain ⟨x, hx⟩ : ∃ x, s.data.toList = x := ⟨_, rfl⟩
  rw [hx] at hsl hLR hKL hK1 hK2 ⊢
  have hge : ∀ (j : Nat) (h : j < s.size), s[j] = x[j]'(by omega) := fun j h => by subst hx; show s.data[j] = _; simp
  obtain ⟨K, hK⟩ : ∃ K, kOf x = K := ⟨_, rfl⟩
  rw [hK] at hLR hKL
  have F1 : ∀ j (h : j < s.size), j < K → ((s[j].toNat : Int) != 32) = true := fun j h hj => by
    have := hK1 j (by rw [hK]; exact hj) (by omega)
    rw [hge j h, bne_iff_ne]
    intro e
    exact this (UInt8.toNat_inj.1 (Int.ofNat_inj.1 e))
  have F2 : ∀ (h : K < s.size), ((s[K].toNat : Int) != 32) = false := fun h => by
    subst hK
    rw [hge _ h, hK2 (by omega)]; rfl
  have HLR := Lib.hid hLR
  have Hx := Lib.hid hx
  have HF1 := Lib.hid F1
  have HF2 := Lib.hid F2
  have Hb0 := Lib.hid b0
  have HB0 := Lib.hid hB0
  have Hsl := Lib.hid hsl
  rw [hsl] at hKL
  clear hLR hx hK1 hK2 b0 hB0 hW hN hge hK F1 F2 hsl
  go_enter Tryd.func40, Tryd.ntmps40
  go_upto_block 0 with fail
  rw [HW.out]
  go_cut [4] from 6 to 17 (fun s4 wx => s4 = .int .i64 K ∧ wx = W)
  case first =>
    go_wp2_with fail
    go_loop [4] (fun kv => ∃ k : Nat, k ≤ K ∧ kv = .int .i64 k) (fun kv => s.size - (intOf kv).toNat)
    case atStart => exact ⟨0, Nat.zero_le _, rfl⟩
    case round =>
      obtain ⟨k, hk, rfl⟩ := hrel
      by_cases hlt : k < s.size
      · by_cases hkK : k < K
        · have h10 := HF1.out k hlt hkK
          go_wp2
          go_round
          case rel => exact ⟨k + 1, by omega, by go_num⟩
          case measure => simp [intOf]; omega
        · obtain rfl : k = K := by omega
          have h10 := HF2.out hlt
          go_wp2
          go_meet
          case rel => exact ⟨rfl, rfl⟩
      · obtain rfl : k = K := by omega
        go_wp2
        go_meet
        case rel => exact ⟨rfl, rfl⟩
  case rest =>
    obtain ⟨rfl, hwc⟩ := hcut
    rw [hwc]
    clear hwc
    try simp only [HN.out]
    have BB0 : Below w.heap.size w W := HN.out.symm ▸ HB0.out
    have y0 := Hb0.out.cell 0
    have y1 := Hb0.out.cell 1
    have f0 := Hb0.out.frozen 0
    have f1 := Hb0.out.frozen 1
    simp at y0 y1
    have hN' : w.heap.size ≤ N := Nat.le_of_eq HN.out
    by_cases h1 : K = s.size
    · have e1 : ((K : Int) == (s.size : Int)) = true := by simp; omega
      have hR : lineM x = none := by rw [HLR.out, if_neg (by rw [Hsl.out]; rintro ⟨h, _⟩; omega)]
      clear HLR
      go_wp2
      have Z2 := (Hb0.out.set 0 (.string ⟨#[]⟩)).set 1 (.string ⟨#[]⟩)
      have BB2 := (BB0.setCell (p := ⟨N, 0, none⟩) hN' (.string ⟨#[]⟩)).setCell (p := ⟨N, 1, none⟩) hN' (.string ⟨#[]⟩)
      have z0 := Z2.cell 0
      have z1 := Z2.cell 1
      simp at z0 z1
      refine bodyPost_ret (v := .tuple #[.agg #[.string ⟨#[]⟩, .string ⟨#[]⟩], .bool false]) ?_ rfl ?_
      · rw [results_cell_tmp Tryd.results40]
        go_simp
      · refine ⟨⟨#[]⟩, ⟨#[]⟩, by rw [hR]; rfl, ?_, BB2⟩
        intro p e; rw [hR] at e; cases e
    · have e1 : ((K : Int) == (s.size : Int)) = false := by simp; omega
      have h1' : K < s.size := by omega
      have hks' : (K : Int) < (s.size : Int) := by omega
      have wr1 : IntKind.i64.wrap ((K : Int) + 1) = (K : Int) + 1 := by rw [Go.IntWalk.i64_left, Go.IntWalk.wrap64_in _ (by omega)]
      have b1 : (0 : Int) ≤ (K : Int) + 1 := by omega
      have b2 : (K : Int) + 1 ≤ (s.size : Int) := by omega
      have b3 : (K : Int) ≤ (s.size : Int) := by omega
      have b4 : ((K : Int) + 1).toNat = K + 1 := by omega
      have en : s.extract 0 K = mk (x.take K) := by
        have e := ext_mk s 0 K
        rw [Nat.zero_add] at e
        rw [e, Hx.out]; rfl
      have ep : s.extract (K + 1) s.size = mk (x.drop (K + 1)) := by
        have e := ext_mk s (K + 1) (s.size - (K + 1))
        rw [show K + 1 + (s.size - (K + 1)) = s.size by omega] at e
        rw [e, Hx.out, List.take_of_length_le (by rw [List.length_drop, Hsl.out]; exact Nat.le_refl _)]
      have hTl : (x.take K).length ≤ 9223372036854775807 := by rw [List.length_take, Hsl.out]; omega
      have hUl : (x.drop (K + 1)).length ≤ 9223372036854775807 := by rw [List.length_drop, Hsl.out]; omega
      have hR : lineM x = if tok (x.take K) = true ∧ tok (x.drop (K + 1)) = true then some (x.take K, x.drop (K + 1)) else none := by
        rw [HLR.out]
        by_cases ht : tok (x.take K) = true ∧ tok (x.drop (K + 1)) = true
        · rw [if_pos ⟨by rw [Hsl.out]; exact h1', ht.1, ht.2⟩, if_pos ht]
        · rw [if_neg (fun h => ht h.2), if_neg ht]
      obtain ⟨T, hT⟩ : ∃ T, x.take K = T := ⟨_, rfl⟩
      obtain ⟨U, hU⟩ : ∃ U, x.drop (K + 1) = U := ⟨_, rfl⟩
      rw [hT] at en hTl hR
      rw [hU] at ep hUl hR
      have HS1 := Lib.hid (show (mk T).size ≤ maxLen by rw [mk_size]; exact hTl)
      have HS2 := Lib.hid (show (mk U).size ≤ maxLen by rw [mk_size]; exact hUl)
      have HRR := Lib.hid hR
      have HBB0 := Lib.hid BB0
      clear hTl hUl hT hU hR BB0
      go_wp2_with fail
      go_region_held3 (fun _ => True) (trivial) ((fail))
      have bX : Bl (W.alloc (.cells #[.string (mk T), .string (mk U)] 85)).drew W.heap.size #[.string (mk T), .string (mk U)] 85 := (Bl.new W #[.string (mk T), .string (mk U)] 85).drew
      have bN : Bl (W.alloc (.cells #[.string (mk T), .string (mk U)] 85)).drew N #[.string ⟨#[]⟩, .string ⟨#[]⟩] 85 := (Hb0.out.alloc _).drew
      have BB1 : Below w.heap.size w (W.alloc (.cells #[.string (mk T), .string (mk U)] 85)).drew := (HBB0.out.alloc HBB0.out.size _).drew
      have HSX := Lib.hid (Hb0.out.lt)
      obtain ⟨X, hX⟩ : ∃ X, W.heap.size = X := ⟨_, rfl⟩
      rw [hX] at HSX
      obtain ⟨W2, hW2⟩ : ∃ W2, (W.alloc (.cells #[.string (mk T), .string (mk U)] 85)).drew = W2 := ⟨_, rfl⟩
      rw [hX, hW2] at bX
      rw [hW2] at bN BB1
      simp only [hX, hW2]
      have x0 := bX.cell 0
      have x1 := bX.cell 1
      have y0' := bN.cell 0
      have y1' := bN.cell 1
      have f0' := bN.frozen 0
      have f1' := bN.frozen 1
      simp at x0 x1 y0' y1'
      have hNX : X ≠ N := by have h1 := bN.lt; have h2 := HSX.out; omega
      have XX := ((bX.other hNX 0 (.string (mk T))).other hNX 1 (.string (mk U))).drew
      have XA := XX.cell 0
      have XB := XX.cell 1
      simp at XA XB
      have HN2 := Lib.hid bN
      have HX2 := Lib.hid bX
      have HBB1 := Lib.hid BB1
      have Z2 := (bN.set 0 (.string (mk T))).set 1 (.string (mk U))
      have BB2 := (BB1.setCell (p := ⟨N, 0, none⟩) hN' (.string (mk T))).setCell (p := ⟨N, 1, none⟩) hN' (.string (mk U))
      simp at Z2
      have HZ2 := Lib.hid Z2
      have HBB2 := Lib.hid BB2
      clear hX hW2 y0 y1 f0 f1 bX bN BB1 Hb0 HB0 HBB0 HW en ep wr1 b1 b2 b3 b4 e1 Z2 BB2
      cases ht : tok T
      · have ht' : tok (mk T).data.toList = false := by rw [mk_data]; exact ht
        have hR : lineM x = none := by rw [HRR.out, if_neg (by rw [ht]; simp)]
        clear HRR HLR ht
        go_upto_region 7 with fail
        refine wp_region_held (S := fun w' => Bl w' X #[.string (mk T), .string (mk U)] 85) (by kernel_rfl) ?_
        change wpAnyH _ _ _ _ _ _ _ _ W2.drew
        have SS : Bl W2.drew X #[.string (mk T), .string (mk U)] 85 := HX2.out
        have ND : Bl W2.drew N #[.string ⟨#[]⟩, .string ⟨#[]⟩] 85 := HN2.out
        obtain ⟨W3, hW3⟩ : ∃ W3, W2.drew = W3 := ⟨_, rfl⟩
        have HB3 : Below w.heap.size w W3 := hW3 ▸ HBB1.out.drew
        rw [hW3] at SS ND ⊢
        clear hW3 x0 x1 y0' y1' f0' f1' XA XB
        refine wpAnyH_take (i := 0) (v := .agg #[.string (mk T), .string (mk U)]) rfl (by kernel_rfl) (by kernel_rfl) (by kernel_rfl) (fun c a w h => h) (.inl ⟨by kernel_rfl, fun w' hS => ?_⟩) ?_ ?_
        · (have hc := hS.cell 0; have hd := hS.cell 1; simp at hc hd; go_simp)
        · exact SS
        try go_simp
        refine wpAnyH_take (i := 1) (v := .pointer (some ⟨X, 0, none⟩)) rfl (by kernel_rfl) (by kernel_rfl) (by kernel_rfl) (fun c a w h => h) (.inl ⟨by kernel_rfl, fun w' hS => ?_⟩) ?_ ?_
        · go_simp
        · exact SS
        try go_simp
        refine wpAnyH_take (i := 2) (v := .string (mk T)) rfl (by kernel_rfl) (by kernel_rfl) (by kernel_rfl) (fun c a w h => h) (.inl ⟨by kernel_rfl, fun w' hS => ?_⟩) ?_ ?_
        · (have hc := hS.cell 0; have hd := hS.cell 1; simp at hc hd; go_simp)
        · exact SS
        try go_simp
        refine wpAnyH_all (rs := [3]) (by kernel_rfl) (by simp) ?_
        intro i hi
        simp only [List.mem_cons, List.not_mem_nil, or_false] at hi
        subst hi
        unfold wpOp
        go_simp
        refine .inl ((rtok_val _ _ HS1.out ht' _).mono ?_)
        rintro e w5 ⟨rfl, rfl⟩
        refine ⟨SS, ?_⟩
        try go_simp
        refine wpAnyH_take (i := 4) (v := .bool false) rfl (by kernel_rfl) (by kernel_rfl) (by kernel_rfl) (fun c a w h => h) (.inl ⟨by kernel_rfl, fun w' hS => ?_⟩) ?_ ?_
        · go_simp
        · exact SS
        try go_simp
        refine wpAnyH_take (i := 5) (v := undef) rfl (by kernel_rfl) (by kernel_rfl) (by kernel_rfl) (fun c a w h => h) (.inr ⟨by kernel_rfl, rfl⟩) SS ?_
        try go_simp
        refine wpAnyH_take (i := 6) (v := undef) rfl (by kernel_rfl) (by kernel_rfl) (by kernel_rfl) (fun c a w h => h) (.inr ⟨by kernel_rfl, rfl⟩) SS ?_
        try go_simp
        refine wpAnyH_take (i := 7) (v := undef) rfl (by kernel_rfl) (by kernel_rfl) (by kernel_rfl) (fun c a w h => h) (.inr ⟨by kernel_rfl, rfl⟩) SS ?_
        try go_simp
        refine wpAnyH_take (i := 8) (v := .bool false) rfl (by kernel_rfl) (by kernel_rfl) (by kernel_rfl) (fun c a w h => h) (.inl ⟨by kernel_rfl, fun w' hS => ?_⟩) ?_ ?_
        · go_simp
        · exact SS
        try go_simp
        refine wpAnyH_all (rs := [9]) (by kernel_rfl) (by simp) ?_
        intro i hi
        simp only [List.mem_cons, List.not_mem_nil, or_false] at hi
        subst hi
        unfold wpOp
        have y0 := ND.cell 0
        have y1 := ND.cell 1
        have f0 := ND.frozen 0
        have f1 := ND.frozen 1
        simp at y0 y1
        go_simp
        have Z2 := (ND.set 0 (.string (mk T))).set 1 (.string (mk U))
        simp at Z2
        have BB2 := (HB3.setCell (p := ⟨N, 0, none⟩) hN' (.string (mk T))).setCell (p := ⟨N, 1, none⟩) hN' (.string (mk U))
        have SS2 := ((SS.other hNX 0 (.string (mk T))).other hNX 1 (.string (mk U)))
        first | refine ⟨SS2, ?_⟩ | refine .inl ⟨SS2, ?_⟩
        replace SS := SS2
        try go_simp
        refine wpAnyH_take (i := 10) (v := .bool false) rfl (by kernel_rfl) (by kernel_rfl) (by kernel_rfl) (fun c a w h => h) (.inl ⟨by kernel_rfl, fun w' hS => ?_⟩) ?_ ?_
        · go_simp
        · exact SS
        try go_simp
        refine wpAnyH_done (by kernel_rfl) ?_ _
        go_wp2
        have z0 := Z2.cell 0
        have z1 := Z2.cell 1
        simp at z0 z1
        refine bodyPost_ret (v := .tuple #[.agg #[.string (mk T), .string (mk U)], .bool false]) ?_ rfl ?_
        · rw [results_cell_tmp Tryd.results40]
          go_simp
        · refine ⟨mk T, mk U, by rw [hR]; rfl, ?_, BB2⟩
          intro p e
          rw [hR] at e
          cases e
      · have ht' : tok (mk T).data.toList = true := by rw [mk_data]; exact ht
        cases hu : tok U
        · have hu' : tok (mk U).data.toList = false := by rw [mk_data]; exact hu
          have hR : lineM x = none := by rw [HRR.out, if_neg (by rw [hu]; simp)]
          clear HRR HLR ht hu
          go_wp2_with fail
          go_region_held3 (fun w' => w'.cell? ⟨X, 0, none⟩ = some (.string (mk T)) ∧ w'.cell? ⟨X, 1, none⟩ = some (.string (mk U))) (first | (go_keep) | (exact ⟨XA, XB⟩))
            ((go_at_call 50; refine (rtok_val _ _ (by first | exact HS1.out | exact HS2.out) (by first | exact ht' | exact hu') _).mono ?_; rintro e w5 ⟨rfl, rfl⟩))
          go_wp2
          have z0 := HZ2.out.cell 0
          have z1 := HZ2.out.cell 1
          simp at z0 z1
          refine bodyPost_ret (v := .tuple #[.agg #[.string (mk T), .string (mk U)], .bool false]) ?_ rfl ?_
          · rw [results_cell_tmp Tryd.results40]
            go_simp
          · refine ⟨mk T, mk U, by rw [hR]; rfl, ?_, HBB2.out.drew⟩
            intro p e
            rw [hR] at e
            cases e
        · have hu' : tok (mk U).data.toList = true := by rw [mk_data]; exact hu
          have hR : lineM x = some (T, U) := by rw [HRR.out, if_pos ⟨ht, hu⟩]
          clear HRR HLR ht hu
          go_wp2_with fail
          go_region_held3 (fun w' => w'.cell? ⟨X, 0, none⟩ = some (.string (mk T)) ∧ w'.cell? ⟨X, 1, none⟩ = some (.string (mk U))) (first | (go_keep) | (exact ⟨XA, XB⟩))
            ((go_at_call 50; refine (rtok_val _ _ (by first | exact HS1.out | exact HS2.out) (by first | exact ht' | exact hu') _).mono ?_; rintro e w5 ⟨rfl, rfl⟩))
          go_wp2
          have z0 := HZ2.out.cell 0
          have z1 := HZ2.out.cell 1
          simp at z0 z1
          refine bodyPost_ret (v := .tuple #[.agg #[.string (mk T), .string (mk U)], .bool true]) ?_ rfl ?_
          · rw [results_cell_tmp Tryd.results40]
            go_simp
          · refine ⟨mk T, mk U, by rw [hR]; rfl, ?_, HBB2.out.drew⟩
            intro p e
            rw [hR] at e
            simp only [Option.some.injEq] at e
            subst e
            exact ⟨rfl, rfl⟩
end Go.Proofs.YtkaejgpnhcdlnaaDoor.Vc
