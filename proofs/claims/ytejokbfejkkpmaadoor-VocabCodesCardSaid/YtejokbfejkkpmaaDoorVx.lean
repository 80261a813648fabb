/- vocab.line, walked. -/
import Derived.Test.YtejokbfejkkpmaaDoorVw
import Derived.OrdersHeld
import Derived.Deep.Cut
namespace Go.Proofs.YtejokbfejkkpmaaDoor
open Go.RowKit Go.Maps Go.WideMaps
set_option maxRecDepth 100000 in
set_option maxHeartbeats 8000000 in
theorem line_any (s : ByteArray) (w : World) (hs : s.size < 4294967281) (E : Envw w) :
    Calls Tryd.prog 38 #[.string s] w fun e w' => ∃ (n : Int) (t : ByteArray), e = .returned (.tuple #[.agg #[.int .i64 n, .string t], .bool (lineV s.data.toList).isSome]) ∧ (∀ k u, lineV s.data.toList = some (k, u) → n = k ∧ t = mk u) ∧ Below w.heap.size w w' := by
  have b0 := Bl.new w #[.int .i64 0, .string ⟨#[]⟩] 31
  have hB0 := below_alloc w (.cells #[.int .i64 0, .string ⟨#[]⟩] 31)
  have E0 := E.below hB0
  have hs0 : w.heap.size < (w.alloc (.cells #[.int .i64 0, .string ⟨#[]⟩] 31)).heap.size := by simp
  obtain ⟨W, hW⟩ : ∃ W, w.alloc (.cells #[.int .i64 0, .string ⟨#[]⟩] 31) = W := ⟨_, rfl⟩
  have hW' := Lib.hid hW
  rw [hW] at b0 hB0 E0 hs0
  obtain ⟨C1, hC1⟩ : ∃ C, (Lib.cut s.data.toList [32]).1 = C := ⟨_, rfl⟩
  obtain ⟨C2, hC2⟩ : ∃ C, (Lib.cut s.data.toList [32]).2.1 = C := ⟨_, rfl⟩
  obtain ⟨ok, hok⟩ : ∃ C, (Lib.cut s.data.toList [32]).2.2 = C := ⟨_, rfl⟩
  have hl := cut_len 32 s.data.toList
  have hsl : s.data.toList.length = s.size := by simp
  have HLV := Lib.hid (show lineV s.data.toList = match Lib.atoiAll C1 with
    | .ok v => if ok = true ∧ 0 ≤ v ∧ v ≤ 1073741824 ∧ Lib.itoa v = C1 ∧ tok C2 = true then some (v.toNat, C2) else none
    | _ => none by subst hC1 hC2 hok; rfl)
  have KC := cutv_any s 32 W hs E0
  rw [hC1, hC2, hok] at KC
  rw [hC1, hC2, hsl] at hl
  have HB0 := Lib.hid hB0
  have HE0 := Lib.hid E0
  have hl1 := Lib.hid hl.1
  have hl2 := Lib.hid hl.2
  have Hs := Lib.hid hs
  obtain ⟨R, hR⟩ : ∃ R, lineV s.data.toList = R := ⟨_, rfl⟩
  rw [hR] at HLV ⊢
  clear hR hC1 hC2 hok hl hsl hB0 E0 E hW hs
  go_enter Tryd.func38, Tryd.ntmps38
  go_wp2_with (go_at_call 37; rw [hW'.out]; refine KC.mono ?_)
  rintro e w1 ⟨rfl, nd, rfl⟩
  clear KC
  have E1 : Envw (W.drewN nd) := HE0.out.below (below_drewN (Below.refl _ _) nd)
  have b1 : Bl (W.drewN nd) w.heap.size #[.int .i64 0, .string ⟨#[]⟩] 31 := b0
  have B1 : Below w.heap.size w (W.drewN nd) := below_drewN HB0.out nd
  obtain ⟨w1, hw1⟩ : ∃ w1, W.drewN nd = w1 := ⟨_, rfl⟩
  rw [hw1] at E1 b1 B1 ⊢
  clear hw1 b0 hW' HB0 HE0 hs0
  clear W
  have KA := atoi_any (mk C1) w1 (by have := hl1.out; have := Hs.out; rw [mk_size]; omega) E1
  rw [mk_data] at KA
  have HE1 := Lib.hid E1
  have HB1 := Lib.hid B1
  clear E1 B1
  go_wp2_with (go_at_call 52; refine KA.mono ?_)
  rintro e w2 ⟨v, er, hA, rfl, hb2⟩
  clear KA
  have E2 := HE1.out.below hb2
  have b2 := b1.below hb2
  have B2 := HB1.out.trans (hb2.mono (Nat.le_trans (Nat.le_of_lt b1.lt) (Nat.le_refl _)))
  have b3 := b2.alloc (.cells #[.int .i64 v, .string (mk C2)] 31)
  have b4 := Bl.new w2 #[.int .i64 v, .string (mk C2)] 31
  have E3 := E2.below (below_alloc w2 (.cells #[.int .i64 v, .string (mk C2)] 31))
  have B3 := B2.alloc (B2.size) (.cells #[.int .i64 v, .string (mk C2)] 31)
  have hne : w.heap.size < w2.heap.size := b2.lt
  obtain ⟨N0, hN0⟩ : ∃ n, w.heap.size = n := ⟨_, rfl⟩
  obtain ⟨N1, hN1⟩ : ∃ n, w2.heap.size = n := ⟨_, rfl⟩
  obtain ⟨w3, hw3⟩ : ∃ w3, w2.alloc (.cells #[.int .i64 v, .string (mk C2)] 31) = w3 := ⟨_, rfl⟩
  have hw3' := Lib.hid hw3
  rw [hw3] at b3 b4 E3 B3
  rw [hN0] at b3 hne B3
  rw [hN1] at b4 hne
  clear hw3
  obtain ⟨w3', hw3e⟩ : ∃ w3', w3.drew = w3' := ⟨_, rfl⟩
  have X := b4.drew
  have Z := b3.drew
  have BB := B3.drew
  have EE := E3.below (below_drew w3.heap.size w3)
  have SS := And.intro BB X
  rw [hw3e] at X Z BB EE SS
  have hN : N0 ≤ N0 := Nat.le_refl _
  have hN' : N0 < w3'.heap.size := Z.lt
  have hXN : N1 ≠ N0 := by omega
  have hXN' : N0 ≠ N1 := by omega
  have h1l := hl1.out
  have h2l := hl2.out
  have hsl := Hs.out
  clear b3 b4 E3 B3 b1 b2 B2 E2 hb2 HE1 HB1
  simp only [hN0]
  go_upto_region 4 with fail
  rw [hw3'.out]
  refine wp_region_held (S := fun w' => Below N0 w w' ∧ Bl w' N1 #[.int .i64 v, .string (mk C2)] 31) (by kernel_rfl) ?_
  change wpAnyH _ _ _ _ _ _ _ _ w3.drew
  rw [hw3e]
  clear hw3e hw3'
  cases ok with
  | false =>
    refine wpAnyH_take (i := 0) (v := .agg #[.int .i64 v, .string (mk C2)]) rfl (by kernel_rfl) (by kernel_rfl) (by kernel_rfl) (fun c a w h => h) (.inl ⟨by kernel_rfl, fun w' hS => ?_⟩) ?_ ?_
    · (have hc := hS.2.cell 0; have hd := hS.2.cell 1; simp at hc hd; go_simp)
    · exact SS
    try go_simp
    refine wpAnyH_take (i := 1) (v := .bool false) rfl (by kernel_rfl) (by kernel_rfl) (by kernel_rfl) (fun c a w h => h) (.inl ⟨by kernel_rfl, fun w' hS => ?_⟩) ?_ ?_
    · go_simp
    · exact SS
    try go_simp
    refine wpAnyH_take (i := 2) (v := .bool false) rfl (by kernel_rfl) (by kernel_rfl) (by kernel_rfl) (fun c a w h => h) (.inl ⟨by kernel_rfl, fun w' hS => ?_⟩) ?_ ?_
    · go_simp
    · exact SS
    try go_simp
    refine wpAnyH_take (i := 3) (v := undef) rfl (by kernel_rfl) (by kernel_rfl) (by kernel_rfl) (fun c a w h => h) (.inr ⟨by kernel_rfl, rfl⟩) SS ?_
    try go_simp
    refine wpAnyH_take (i := 4) (v := undef) rfl (by kernel_rfl) (by kernel_rfl) (by kernel_rfl) (fun c a w h => h) (.inr ⟨by kernel_rfl, rfl⟩) SS ?_
    try go_simp
    refine wpAnyH_take (i := 5) (v := .bool false) rfl (by kernel_rfl) (by kernel_rfl) (by kernel_rfl) (fun c a w h => h) (.inl ⟨by kernel_rfl, fun w' hS => ?_⟩) ?_ ?_
    · go_simp
    · exact SS
    try go_simp
    refine wpAnyH_take (i := 6) (v := .bool false) rfl (by kernel_rfl) (by kernel_rfl) (by kernel_rfl) (fun c a w h => h) (.inl ⟨by kernel_rfl, fun w' hS => ?_⟩) ?_ ?_
    · go_simp
    · exact SS
    try go_simp
    refine wpAnyH_take (i := 7) (v := undef) rfl (by kernel_rfl) (by kernel_rfl) (by kernel_rfl) (fun c a w h => h) (.inr ⟨by kernel_rfl, rfl⟩) SS ?_
    try go_simp
    refine wpAnyH_take (i := 8) (v := undef) rfl (by kernel_rfl) (by kernel_rfl) (by kernel_rfl) (fun c a w h => h) (.inr ⟨by kernel_rfl, rfl⟩) SS ?_
    try go_simp
    refine wpAnyH_take (i := 9) (v := .bool false) rfl (by kernel_rfl) (by kernel_rfl) (by kernel_rfl) (fun c a w h => h) (.inl ⟨by kernel_rfl, fun w' hS => ?_⟩) ?_ ?_
    · go_simp
    · exact SS
    try go_simp
    refine wpAnyH_take (i := 10) (v := .bool false) rfl (by kernel_rfl) (by kernel_rfl) (by kernel_rfl) (fun c a w h => h) (.inl ⟨by kernel_rfl, fun w' hS => ?_⟩) ?_ ?_
    · go_simp
    · exact SS
    try go_simp
    refine wpAnyH_take (i := 11) (v := undef) rfl (by kernel_rfl) (by kernel_rfl) (by kernel_rfl) (fun c a w h => h) (.inr ⟨by kernel_rfl, rfl⟩) SS ?_
    try go_simp
    refine wpAnyH_take (i := 12) (v := undef) rfl (by kernel_rfl) (by kernel_rfl) (by kernel_rfl) (fun c a w h => h) (.inr ⟨by kernel_rfl, rfl⟩) SS ?_
    try go_simp
    refine wpAnyH_take (i := 13) (v := .bool false) rfl (by kernel_rfl) (by kernel_rfl) (by kernel_rfl) (fun c a w h => h) (.inl ⟨by kernel_rfl, fun w' hS => ?_⟩) ?_ ?_
    · go_simp
    · exact SS
    try go_simp
    refine wpAnyH_take (i := 14) (v := .bool false) rfl (by kernel_rfl) (by kernel_rfl) (by kernel_rfl) (fun c a w h => h) (.inl ⟨by kernel_rfl, fun w' hS => ?_⟩) ?_ ?_
    · go_simp
    · exact SS
    try go_simp
    refine wpAnyH_take (i := 15) (v := undef) rfl (by kernel_rfl) (by kernel_rfl) (by kernel_rfl) (fun c a w h => h) (.inr ⟨by kernel_rfl, rfl⟩) SS ?_
    try go_simp
    refine wpAnyH_take (i := 17) (v := undef) rfl (by kernel_rfl) (by kernel_rfl) (by kernel_rfl) (fun c a w h => h) (.inr ⟨by kernel_rfl, rfl⟩) SS ?_
    try go_simp
    refine wpAnyH_take (i := 16) (v := undef) rfl (by kernel_rfl) (by kernel_rfl) (by kernel_rfl) (fun c a w h => h) (.inr ⟨by kernel_rfl, rfl⟩) SS ?_
    try go_simp
    refine wpAnyH_take (i := 18) (v := undef) rfl (by kernel_rfl) (by kernel_rfl) (by kernel_rfl) (fun c a w h => h) (.inr ⟨by kernel_rfl, rfl⟩) SS ?_
    try go_simp
    refine wpAnyH_take (i := 19) (v := .bool false) rfl (by kernel_rfl) (by kernel_rfl) (by kernel_rfl) (fun c a w h => h) (.inl ⟨by kernel_rfl, fun w' hS => ?_⟩) ?_ ?_
    · go_simp
    · exact SS
    try go_simp
    refine wpAnyH_take (i := 20) (v := .bool false) rfl (by kernel_rfl) (by kernel_rfl) (by kernel_rfl) (fun c a w h => h) (.inl ⟨by kernel_rfl, fun w' hS => ?_⟩) ?_ ?_
    · go_simp
    · exact SS
    try go_simp
    refine wpAnyH_take (i := 21) (v := undef) rfl (by kernel_rfl) (by kernel_rfl) (by kernel_rfl) (fun c a w h => h) (.inr ⟨by kernel_rfl, rfl⟩) SS ?_
    try go_simp
    refine wpAnyH_take (i := 22) (v := undef) rfl (by kernel_rfl) (by kernel_rfl) (by kernel_rfl) (fun c a w h => h) (.inr ⟨by kernel_rfl, rfl⟩) SS ?_
    try go_simp
    refine wpAnyH_take (i := 23) (v := .bool false) rfl (by kernel_rfl) (by kernel_rfl) (by kernel_rfl) (fun c a w h => h) (.inl ⟨by kernel_rfl, fun w' hS => ?_⟩) ?_ ?_
    · go_simp
    · exact SS
    try go_simp
    refine wpAnyH_all (rs := [24]) (by kernel_rfl) (by simp) ?_
    intro i hi
    simp only [List.mem_cons, List.not_mem_nil, or_false] at hi
    subst hi
    unfold wpOp
    have y0 := Z.cell 0
    have y1 := Z.cell 1
    have f0 := Z.frozen 0
    have f1 := Z.frozen 1
    simp at y0 y1
    go_simp
    have Z2 := (Z.set 0 (.int .i64 v)).set 1 (.string (mk C2))
    simp at Z2
    have BB2 := (BB.setCell (p := ⟨N0, 0, none⟩) hN (.int .i64 v)).setCell (p := ⟨N0, 1, none⟩) hN (.string (mk C2))
    have SS2 := And.intro BB2 ((X.other hXN 0 (.int .i64 v)).other hXN 1 (.string (mk C2)))
    first | refine ⟨SS2, ?_⟩ | refine .inl ⟨SS2, ?_⟩
    replace SS := SS2
    try go_simp
    refine wpAnyH_take (i := 25) (v := .bool false) rfl (by kernel_rfl) (by kernel_rfl) (by kernel_rfl) (fun c a w h => h) (.inl ⟨by kernel_rfl, fun w' hS => ?_⟩) ?_ ?_
    · go_simp
    · exact SS
    try go_simp
    refine wpAnyH_done (by kernel_rfl) ?_ _
    go_wp2
    have z0 := Z2.cell 0
    have z1 := Z2.cell 1
    simp at z0 z1
    refine bodyPost_ret (v := .tuple #[.agg #[.int .i64 v, .string (mk C2)], .bool false]) ?_ rfl ?_
    · rw [results_cell_tmp Tryd.results38]
      go_simp
    · have hR : R = none := by rw [HLV.out]; split <;> simp
      refine ⟨v, mk C2, by rw [hR]; rfl, ?_, by first | exact SS.1 | (rw [hN0]; exact SS.1)⟩
      intro k u e; rw [hR] at e; cases e
  | true =>
    rcases hA with hA | hA
    rotate_left
    · obtain ⟨N, rfl⟩ := hA.2
      refine wpAnyH_take (i := 0) (v := .agg #[.int .i64 v, .string (mk C2)]) rfl (by kernel_rfl) (by kernel_rfl) (by kernel_rfl) (fun c a w h => h) (.inl ⟨by kernel_rfl, fun w' hS => ?_⟩) ?_ ?_
      · (have hc := hS.2.cell 0; have hd := hS.2.cell 1; simp at hc hd; go_simp)
      · exact SS
      try go_simp
      refine wpAnyH_take (i := 1) (v := .bool true) rfl (by kernel_rfl) (by kernel_rfl) (by kernel_rfl) (fun c a w h => h) (.inl ⟨by kernel_rfl, fun w' hS => ?_⟩) ?_ ?_
      · go_simp
      · exact SS
      try go_simp
      refine wpAnyH_take (i := 2) (v := .bool true) rfl (by kernel_rfl) (by kernel_rfl) (by kernel_rfl) (fun c a w h => h) (.inl ⟨by kernel_rfl, fun w' hS => ?_⟩) ?_ ?_
      · go_simp
      · exact SS
      try go_simp
      refine wpAnyH_take (i := 3) (v := .iface 155 (.pointer (some ⟨N, 0, none⟩))) rfl (by kernel_rfl) (by kernel_rfl) (by kernel_rfl) (fun c a w h => h) (.inl ⟨by kernel_rfl, fun w' hS => ?_⟩) ?_ ?_
      · go_simp
      · exact SS
      try go_simp
      refine wpAnyH_take (i := 4) (v := .bool false) rfl (by kernel_rfl) (by kernel_rfl) (by kernel_rfl) (fun c a w h => h) (.inl ⟨by kernel_rfl, fun w' hS => ?_⟩) ?_ ?_
      · go_simp
      · exact SS
      try go_simp
      refine wpAnyH_take (i := 5) (v := .bool false) rfl (by kernel_rfl) (by kernel_rfl) (by kernel_rfl) (fun c a w h => h) (.inl ⟨by kernel_rfl, fun w' hS => ?_⟩) ?_ ?_
      · go_simp
      · exact SS
      try go_simp
      refine wpAnyH_take (i := 6) (v := .bool false) rfl (by kernel_rfl) (by kernel_rfl) (by kernel_rfl) (fun c a w h => h) (.inl ⟨by kernel_rfl, fun w' hS => ?_⟩) ?_ ?_
      · go_simp
      · exact SS
      try go_simp
      refine wpAnyH_take (i := 7) (v := undef) rfl (by kernel_rfl) (by kernel_rfl) (by kernel_rfl) (fun c a w h => h) (.inr ⟨by kernel_rfl, rfl⟩) SS ?_
      try go_simp
      refine wpAnyH_take (i := 8) (v := undef) rfl (by kernel_rfl) (by kernel_rfl) (by kernel_rfl) (fun c a w h => h) (.inr ⟨by kernel_rfl, rfl⟩) SS ?_
      try go_simp
      refine wpAnyH_take (i := 9) (v := .bool false) rfl (by kernel_rfl) (by kernel_rfl) (by kernel_rfl) (fun c a w h => h) (.inl ⟨by kernel_rfl, fun w' hS => ?_⟩) ?_ ?_
      · go_simp
      · exact SS
      try go_simp
      refine wpAnyH_take (i := 10) (v := .bool false) rfl (by kernel_rfl) (by kernel_rfl) (by kernel_rfl) (fun c a w h => h) (.inl ⟨by kernel_rfl, fun w' hS => ?_⟩) ?_ ?_
      · go_simp
      · exact SS
      try go_simp
      refine wpAnyH_take (i := 11) (v := undef) rfl (by kernel_rfl) (by kernel_rfl) (by kernel_rfl) (fun c a w h => h) (.inr ⟨by kernel_rfl, rfl⟩) SS ?_
      try go_simp
      refine wpAnyH_take (i := 12) (v := undef) rfl (by kernel_rfl) (by kernel_rfl) (by kernel_rfl) (fun c a w h => h) (.inr ⟨by kernel_rfl, rfl⟩) SS ?_
      try go_simp
      refine wpAnyH_take (i := 13) (v := .bool false) rfl (by kernel_rfl) (by kernel_rfl) (by kernel_rfl) (fun c a w h => h) (.inl ⟨by kernel_rfl, fun w' hS => ?_⟩) ?_ ?_
      · go_simp
      · exact SS
      try go_simp
      refine wpAnyH_take (i := 14) (v := .bool false) rfl (by kernel_rfl) (by kernel_rfl) (by kernel_rfl) (fun c a w h => h) (.inl ⟨by kernel_rfl, fun w' hS => ?_⟩) ?_ ?_
      · go_simp
      · exact SS
      try go_simp
      refine wpAnyH_take (i := 15) (v := undef) rfl (by kernel_rfl) (by kernel_rfl) (by kernel_rfl) (fun c a w h => h) (.inr ⟨by kernel_rfl, rfl⟩) SS ?_
      try go_simp
      refine wpAnyH_take (i := 17) (v := undef) rfl (by kernel_rfl) (by kernel_rfl) (by kernel_rfl) (fun c a w h => h) (.inr ⟨by kernel_rfl, rfl⟩) SS ?_
      try go_simp
      refine wpAnyH_take (i := 16) (v := undef) rfl (by kernel_rfl) (by kernel_rfl) (by kernel_rfl) (fun c a w h => h) (.inr ⟨by kernel_rfl, rfl⟩) SS ?_
      try go_simp
      refine wpAnyH_take (i := 18) (v := undef) rfl (by kernel_rfl) (by kernel_rfl) (by kernel_rfl) (fun c a w h => h) (.inr ⟨by kernel_rfl, rfl⟩) SS ?_
      try go_simp
      refine wpAnyH_take (i := 19) (v := .bool false) rfl (by kernel_rfl) (by kernel_rfl) (by kernel_rfl) (fun c a w h => h) (.inl ⟨by kernel_rfl, fun w' hS => ?_⟩) ?_ ?_
      · go_simp
      · exact SS
      try go_simp
      refine wpAnyH_take (i := 20) (v := .bool false) rfl (by kernel_rfl) (by kernel_rfl) (by kernel_rfl) (fun c a w h => h) (.inl ⟨by kernel_rfl, fun w' hS => ?_⟩) ?_ ?_
      · go_simp
      · exact SS
      try go_simp
      refine wpAnyH_take (i := 21) (v := undef) rfl (by kernel_rfl) (by kernel_rfl) (by kernel_rfl) (fun c a w h => h) (.inr ⟨by kernel_rfl, rfl⟩) SS ?_
      try go_simp
      refine wpAnyH_take (i := 22) (v := undef) rfl (by kernel_rfl) (by kernel_rfl) (by kernel_rfl) (fun c a w h => h) (.inr ⟨by kernel_rfl, rfl⟩) SS ?_
      try go_simp
      refine wpAnyH_take (i := 23) (v := .bool false) rfl (by kernel_rfl) (by kernel_rfl) (by kernel_rfl) (fun c a w h => h) (.inl ⟨by kernel_rfl, fun w' hS => ?_⟩) ?_ ?_
      · go_simp
      · exact SS
      try go_simp
      refine wpAnyH_all (rs := [24]) (by kernel_rfl) (by simp) ?_
      intro i hi
      simp only [List.mem_cons, List.not_mem_nil, or_false] at hi
      subst hi
      unfold wpOp
      have y0 := Z.cell 0
      have y1 := Z.cell 1
      have f0 := Z.frozen 0
      have f1 := Z.frozen 1
      simp at y0 y1
      go_simp
      have Z2 := (Z.set 0 (.int .i64 v)).set 1 (.string (mk C2))
      simp at Z2
      have BB2 := (BB.setCell (p := ⟨N0, 0, none⟩) hN (.int .i64 v)).setCell (p := ⟨N0, 1, none⟩) hN (.string (mk C2))
      have SS2 := And.intro BB2 ((X.other hXN 0 (.int .i64 v)).other hXN 1 (.string (mk C2)))
      first | refine ⟨SS2, ?_⟩ | refine .inl ⟨SS2, ?_⟩
      replace SS := SS2
      try go_simp
      refine wpAnyH_take (i := 25) (v := .bool false) rfl (by kernel_rfl) (by kernel_rfl) (by kernel_rfl) (fun c a w h => h) (.inl ⟨by kernel_rfl, fun w' hS => ?_⟩) ?_ ?_
      · go_simp
      · exact SS
      try go_simp
      refine wpAnyH_done (by kernel_rfl) ?_ _
      go_wp2
      have z0 := Z2.cell 0
      have z1 := Z2.cell 1
      simp at z0 z1
      refine bodyPost_ret (v := .tuple #[.agg #[.int .i64 v, .string (mk C2)], .bool false]) ?_ rfl ?_
      · rw [results_cell_tmp Tryd.results38]
        go_simp
      · have hR : R = none := by rw [HLV.out]; split <;> first | rfl | (rename_i x hx; exact absurd hx (hA.1 x))
        refine ⟨v, mk C2, by rw [hR]; rfl, ?_, by first | exact SS.1 | (rw [hN0]; exact SS.1)⟩
        intro k u e; rw [hR] at e; cases e
    obtain rfl := hA.2
    by_cases h0 : 0 ≤ v
    rotate_left
    · refine wpAnyH_take (i := 0) (v := .agg #[.int .i64 v, .string (mk C2)]) rfl (by kernel_rfl) (by kernel_rfl) (by kernel_rfl) (fun c a w h => h) (.inl ⟨by kernel_rfl, fun w' hS => ?_⟩) ?_ ?_
      · (have hc := hS.2.cell 0; have hd := hS.2.cell 1; simp at hc hd; go_simp)
      · exact SS
      try go_simp
      refine wpAnyH_take (i := 1) (v := .bool true) rfl (by kernel_rfl) (by kernel_rfl) (by kernel_rfl) (fun c a w h => h) (.inl ⟨by kernel_rfl, fun w' hS => ?_⟩) ?_ ?_
      · go_simp
      · exact SS
      try go_simp
      refine wpAnyH_take (i := 2) (v := .bool true) rfl (by kernel_rfl) (by kernel_rfl) (by kernel_rfl) (fun c a w h => h) (.inl ⟨by kernel_rfl, fun w' hS => ?_⟩) ?_ ?_
      · go_simp
      · exact SS
      try go_simp
      refine wpAnyH_take (i := 3) (v := .nilIface) rfl (by kernel_rfl) (by kernel_rfl) (by kernel_rfl) (fun c a w h => h) (.inl ⟨by kernel_rfl, fun w' hS => ?_⟩) ?_ ?_
      · go_simp
      · exact SS
      try go_simp
      refine wpAnyH_take (i := 4) (v := .bool true) rfl (by kernel_rfl) (by kernel_rfl) (by kernel_rfl) (fun c a w h => h) (.inl ⟨by kernel_rfl, fun w' hS => ?_⟩) ?_ ?_
      · go_simp
      · exact SS
      try go_simp
      refine wpAnyH_take (i := 5) (v := .bool true) rfl (by kernel_rfl) (by kernel_rfl) (by kernel_rfl) (fun c a w h => h) (.inl ⟨by kernel_rfl, fun w' hS => ?_⟩) ?_ ?_
      · go_simp
      · exact SS
      try go_simp
      refine wpAnyH_take (i := 6) (v := .bool true) rfl (by kernel_rfl) (by kernel_rfl) (by kernel_rfl) (fun c a w h => h) (.inl ⟨by kernel_rfl, fun w' hS => ?_⟩) ?_ ?_
      · go_simp
      · exact SS
      try go_simp
      refine wpAnyH_take (i := 7) (v := .int .i64 v) rfl (by kernel_rfl) (by kernel_rfl) (by kernel_rfl) (fun c a w h => h) (.inl ⟨by kernel_rfl, fun w' hS => ?_⟩) ?_ ?_
      · go_simp
      · exact SS
      try go_simp
      refine wpAnyH_take (i := 8) (v := .bool false) rfl (by kernel_rfl) (by kernel_rfl) (by kernel_rfl) (fun c a w h => h) (.inl ⟨by kernel_rfl, fun w' hS => ?_⟩) ?_ ?_
      · go_simp
      · exact SS
      try go_simp
      refine wpAnyH_take (i := 9) (v := .bool false) rfl (by kernel_rfl) (by kernel_rfl) (by kernel_rfl) (fun c a w h => h) (.inl ⟨by kernel_rfl, fun w' hS => ?_⟩) ?_ ?_
      · go_simp
      · exact SS
      try go_simp
      refine wpAnyH_take (i := 10) (v := .bool false) rfl (by kernel_rfl) (by kernel_rfl) (by kernel_rfl) (fun c a w h => h) (.inl ⟨by kernel_rfl, fun w' hS => ?_⟩) ?_ ?_
      · go_simp
      · exact SS
      try go_simp
      refine wpAnyH_take (i := 11) (v := undef) rfl (by kernel_rfl) (by kernel_rfl) (by kernel_rfl) (fun c a w h => h) (.inr ⟨by kernel_rfl, rfl⟩) SS ?_
      try go_simp
      refine wpAnyH_take (i := 12) (v := undef) rfl (by kernel_rfl) (by kernel_rfl) (by kernel_rfl) (fun c a w h => h) (.inr ⟨by kernel_rfl, rfl⟩) SS ?_
      try go_simp
      refine wpAnyH_take (i := 13) (v := .bool false) rfl (by kernel_rfl) (by kernel_rfl) (by kernel_rfl) (fun c a w h => h) (.inl ⟨by kernel_rfl, fun w' hS => ?_⟩) ?_ ?_
      · go_simp
      · exact SS
      try go_simp
      refine wpAnyH_take (i := 14) (v := .bool false) rfl (by kernel_rfl) (by kernel_rfl) (by kernel_rfl) (fun c a w h => h) (.inl ⟨by kernel_rfl, fun w' hS => ?_⟩) ?_ ?_
      · go_simp
      · exact SS
      try go_simp
      refine wpAnyH_take (i := 15) (v := undef) rfl (by kernel_rfl) (by kernel_rfl) (by kernel_rfl) (fun c a w h => h) (.inr ⟨by kernel_rfl, rfl⟩) SS ?_
      try go_simp
      refine wpAnyH_take (i := 17) (v := undef) rfl (by kernel_rfl) (by kernel_rfl) (by kernel_rfl) (fun c a w h => h) (.inr ⟨by kernel_rfl, rfl⟩) SS ?_
      try go_simp
      refine wpAnyH_take (i := 16) (v := undef) rfl (by kernel_rfl) (by kernel_rfl) (by kernel_rfl) (fun c a w h => h) (.inr ⟨by kernel_rfl, rfl⟩) SS ?_
      try go_simp
      refine wpAnyH_take (i := 18) (v := undef) rfl (by kernel_rfl) (by kernel_rfl) (by kernel_rfl) (fun c a w h => h) (.inr ⟨by kernel_rfl, rfl⟩) SS ?_
      try go_simp
      refine wpAnyH_take (i := 19) (v := .bool false) rfl (by kernel_rfl) (by kernel_rfl) (by kernel_rfl) (fun c a w h => h) (.inl ⟨by kernel_rfl, fun w' hS => ?_⟩) ?_ ?_
      · go_simp
      · exact SS
      try go_simp
      refine wpAnyH_take (i := 20) (v := .bool false) rfl (by kernel_rfl) (by kernel_rfl) (by kernel_rfl) (fun c a w h => h) (.inl ⟨by kernel_rfl, fun w' hS => ?_⟩) ?_ ?_
      · go_simp
      · exact SS
      try go_simp
      refine wpAnyH_take (i := 21) (v := undef) rfl (by kernel_rfl) (by kernel_rfl) (by kernel_rfl) (fun c a w h => h) (.inr ⟨by kernel_rfl, rfl⟩) SS ?_
      try go_simp
      refine wpAnyH_take (i := 22) (v := undef) rfl (by kernel_rfl) (by kernel_rfl) (by kernel_rfl) (fun c a w h => h) (.inr ⟨by kernel_rfl, rfl⟩) SS ?_
      try go_simp
      refine wpAnyH_take (i := 23) (v := .bool false) rfl (by kernel_rfl) (by kernel_rfl) (by kernel_rfl) (fun c a w h => h) (.inl ⟨by kernel_rfl, fun w' hS => ?_⟩) ?_ ?_
      · go_simp
      · exact SS
      try go_simp
      refine wpAnyH_all (rs := [24]) (by kernel_rfl) (by simp) ?_
      intro i hi
      simp only [List.mem_cons, List.not_mem_nil, or_false] at hi
      subst hi
      unfold wpOp
      have y0 := Z.cell 0
      have y1 := Z.cell 1
      have f0 := Z.frozen 0
      have f1 := Z.frozen 1
      simp at y0 y1
      go_simp
      have Z2 := (Z.set 0 (.int .i64 v)).set 1 (.string (mk C2))
      simp at Z2
      have BB2 := (BB.setCell (p := ⟨N0, 0, none⟩) hN (.int .i64 v)).setCell (p := ⟨N0, 1, none⟩) hN (.string (mk C2))
      have SS2 := And.intro BB2 ((X.other hXN 0 (.int .i64 v)).other hXN 1 (.string (mk C2)))
      first | refine ⟨SS2, ?_⟩ | refine .inl ⟨SS2, ?_⟩
      replace SS := SS2
      try go_simp
      refine wpAnyH_take (i := 25) (v := .bool false) rfl (by kernel_rfl) (by kernel_rfl) (by kernel_rfl) (fun c a w h => h) (.inl ⟨by kernel_rfl, fun w' hS => ?_⟩) ?_ ?_
      · go_simp
      · exact SS
      try go_simp
      refine wpAnyH_done (by kernel_rfl) ?_ _
      go_wp2
      have z0 := Z2.cell 0
      have z1 := Z2.cell 1
      simp at z0 z1
      refine bodyPost_ret (v := .tuple #[.agg #[.int .i64 v, .string (mk C2)], .bool false]) ?_ rfl ?_
      · rw [results_cell_tmp Tryd.results38]
        go_simp
      · have hR : R = none := by rw [HLV.out, hA.1]; simp only; rw [if_neg (by rintro ⟨_, h, _⟩; omega)]
        refine ⟨v, mk C2, by rw [hR]; rfl, ?_, by first | exact SS.1 | (rw [hN0]; exact SS.1)⟩
        intro k u e; rw [hR] at e; cases e
    by_cases h1 : v ≤ 1073741824
    rotate_left
    · refine wpAnyH_take (i := 0) (v := .agg #[.int .i64 v, .string (mk C2)]) rfl (by kernel_rfl) (by kernel_rfl) (by kernel_rfl) (fun c a w h => h) (.inl ⟨by kernel_rfl, fun w' hS => ?_⟩) ?_ ?_
      · (have hc := hS.2.cell 0; have hd := hS.2.cell 1; simp at hc hd; go_simp)
      · exact SS
      try go_simp
      refine wpAnyH_take (i := 1) (v := .bool true) rfl (by kernel_rfl) (by kernel_rfl) (by kernel_rfl) (fun c a w h => h) (.inl ⟨by kernel_rfl, fun w' hS => ?_⟩) ?_ ?_
      · go_simp
      · exact SS
      try go_simp
      refine wpAnyH_take (i := 2) (v := .bool true) rfl (by kernel_rfl) (by kernel_rfl) (by kernel_rfl) (fun c a w h => h) (.inl ⟨by kernel_rfl, fun w' hS => ?_⟩) ?_ ?_
      · go_simp
      · exact SS
      try go_simp
      refine wpAnyH_take (i := 3) (v := .nilIface) rfl (by kernel_rfl) (by kernel_rfl) (by kernel_rfl) (fun c a w h => h) (.inl ⟨by kernel_rfl, fun w' hS => ?_⟩) ?_ ?_
      · go_simp
      · exact SS
      try go_simp
      refine wpAnyH_take (i := 4) (v := .bool true) rfl (by kernel_rfl) (by kernel_rfl) (by kernel_rfl) (fun c a w h => h) (.inl ⟨by kernel_rfl, fun w' hS => ?_⟩) ?_ ?_
      · go_simp
      · exact SS
      try go_simp
      refine wpAnyH_take (i := 5) (v := .bool true) rfl (by kernel_rfl) (by kernel_rfl) (by kernel_rfl) (fun c a w h => h) (.inl ⟨by kernel_rfl, fun w' hS => ?_⟩) ?_ ?_
      · go_simp
      · exact SS
      try go_simp
      refine wpAnyH_take (i := 6) (v := .bool true) rfl (by kernel_rfl) (by kernel_rfl) (by kernel_rfl) (fun c a w h => h) (.inl ⟨by kernel_rfl, fun w' hS => ?_⟩) ?_ ?_
      · go_simp
      · exact SS
      try go_simp
      refine wpAnyH_take (i := 7) (v := .int .i64 v) rfl (by kernel_rfl) (by kernel_rfl) (by kernel_rfl) (fun c a w h => h) (.inl ⟨by kernel_rfl, fun w' hS => ?_⟩) ?_ ?_
      · go_simp
      · exact SS
      try go_simp
      refine wpAnyH_take (i := 8) (v := .bool true) rfl (by kernel_rfl) (by kernel_rfl) (by kernel_rfl) (fun c a w h => h) (.inl ⟨by kernel_rfl, fun w' hS => ?_⟩) ?_ ?_
      · go_simp
      · exact SS
      try go_simp
      refine wpAnyH_take (i := 9) (v := .bool true) rfl (by kernel_rfl) (by kernel_rfl) (by kernel_rfl) (fun c a w h => h) (.inl ⟨by kernel_rfl, fun w' hS => ?_⟩) ?_ ?_
      · go_simp
      · exact SS
      try go_simp
      refine wpAnyH_take (i := 10) (v := .bool true) rfl (by kernel_rfl) (by kernel_rfl) (by kernel_rfl) (fun c a w h => h) (.inl ⟨by kernel_rfl, fun w' hS => ?_⟩) ?_ ?_
      · go_simp
      · exact SS
      try go_simp
      refine wpAnyH_take (i := 11) (v := .int .i64 v) rfl (by kernel_rfl) (by kernel_rfl) (by kernel_rfl) (fun c a w h => h) (.inl ⟨by kernel_rfl, fun w' hS => ?_⟩) ?_ ?_
      · go_simp
      · exact SS
      try go_simp
      refine wpAnyH_take (i := 12) (v := .bool false) rfl (by kernel_rfl) (by kernel_rfl) (by kernel_rfl) (fun c a w h => h) (.inl ⟨by kernel_rfl, fun w' hS => ?_⟩) ?_ ?_
      · go_simp
      · exact SS
      try go_simp
      refine wpAnyH_take (i := 13) (v := .bool false) rfl (by kernel_rfl) (by kernel_rfl) (by kernel_rfl) (fun c a w h => h) (.inl ⟨by kernel_rfl, fun w' hS => ?_⟩) ?_ ?_
      · go_simp
      · exact SS
      try go_simp
      refine wpAnyH_take (i := 14) (v := .bool false) rfl (by kernel_rfl) (by kernel_rfl) (by kernel_rfl) (fun c a w h => h) (.inl ⟨by kernel_rfl, fun w' hS => ?_⟩) ?_ ?_
      · go_simp
      · exact SS
      try go_simp
      refine wpAnyH_take (i := 15) (v := undef) rfl (by kernel_rfl) (by kernel_rfl) (by kernel_rfl) (fun c a w h => h) (.inr ⟨by kernel_rfl, rfl⟩) SS ?_
      try go_simp
      refine wpAnyH_take (i := 17) (v := undef) rfl (by kernel_rfl) (by kernel_rfl) (by kernel_rfl) (fun c a w h => h) (.inr ⟨by kernel_rfl, rfl⟩) SS ?_
      try go_simp
      refine wpAnyH_take (i := 16) (v := undef) rfl (by kernel_rfl) (by kernel_rfl) (by kernel_rfl) (fun c a w h => h) (.inr ⟨by kernel_rfl, rfl⟩) SS ?_
      try go_simp
      refine wpAnyH_take (i := 18) (v := undef) rfl (by kernel_rfl) (by kernel_rfl) (by kernel_rfl) (fun c a w h => h) (.inr ⟨by kernel_rfl, rfl⟩) SS ?_
      try go_simp
      refine wpAnyH_take (i := 19) (v := .bool false) rfl (by kernel_rfl) (by kernel_rfl) (by kernel_rfl) (fun c a w h => h) (.inl ⟨by kernel_rfl, fun w' hS => ?_⟩) ?_ ?_
      · go_simp
      · exact SS
      try go_simp
      refine wpAnyH_take (i := 20) (v := .bool false) rfl (by kernel_rfl) (by kernel_rfl) (by kernel_rfl) (fun c a w h => h) (.inl ⟨by kernel_rfl, fun w' hS => ?_⟩) ?_ ?_
      · go_simp
      · exact SS
      try go_simp
      refine wpAnyH_take (i := 21) (v := undef) rfl (by kernel_rfl) (by kernel_rfl) (by kernel_rfl) (fun c a w h => h) (.inr ⟨by kernel_rfl, rfl⟩) SS ?_
      try go_simp
      refine wpAnyH_take (i := 22) (v := undef) rfl (by kernel_rfl) (by kernel_rfl) (by kernel_rfl) (fun c a w h => h) (.inr ⟨by kernel_rfl, rfl⟩) SS ?_
      try go_simp
      refine wpAnyH_take (i := 23) (v := .bool false) rfl (by kernel_rfl) (by kernel_rfl) (by kernel_rfl) (fun c a w h => h) (.inl ⟨by kernel_rfl, fun w' hS => ?_⟩) ?_ ?_
      · go_simp
      · exact SS
      try go_simp
      refine wpAnyH_all (rs := [24]) (by kernel_rfl) (by simp) ?_
      intro i hi
      simp only [List.mem_cons, List.not_mem_nil, or_false] at hi
      subst hi
      unfold wpOp
      have y0 := Z.cell 0
      have y1 := Z.cell 1
      have f0 := Z.frozen 0
      have f1 := Z.frozen 1
      simp at y0 y1
      go_simp
      have Z2 := (Z.set 0 (.int .i64 v)).set 1 (.string (mk C2))
      simp at Z2
      have BB2 := (BB.setCell (p := ⟨N0, 0, none⟩) hN (.int .i64 v)).setCell (p := ⟨N0, 1, none⟩) hN (.string (mk C2))
      have SS2 := And.intro BB2 ((X.other hXN 0 (.int .i64 v)).other hXN 1 (.string (mk C2)))
      first | refine ⟨SS2, ?_⟩ | refine .inl ⟨SS2, ?_⟩
      replace SS := SS2
      try go_simp
      refine wpAnyH_take (i := 25) (v := .bool false) rfl (by kernel_rfl) (by kernel_rfl) (by kernel_rfl) (fun c a w h => h) (.inl ⟨by kernel_rfl, fun w' hS => ?_⟩) ?_ ?_
      · go_simp
      · exact SS
      try go_simp
      refine wpAnyH_done (by kernel_rfl) ?_ _
      go_wp2
      have z0 := Z2.cell 0
      have z1 := Z2.cell 1
      simp at z0 z1
      refine bodyPost_ret (v := .tuple #[.agg #[.int .i64 v, .string (mk C2)], .bool false]) ?_ rfl ?_
      · rw [results_cell_tmp Tryd.results38]
        go_simp
      · have hR : R = none := by rw [HLV.out, hA.1]; simp only; rw [if_neg (by rintro ⟨_, _, h, _⟩; omega)]
        refine ⟨v, mk C2, by rw [hR]; rfl, ?_, by first | exact SS.1 | (rw [hN0]; exact SS.1)⟩
        intro k u e; rw [hR] at e; cases e
    by_cases h2 : Lib.itoa v = C1
    rotate_left
    · refine wpAnyH_take (i := 0) (v := .agg #[.int .i64 v, .string (mk C2)]) rfl (by kernel_rfl) (by kernel_rfl) (by kernel_rfl) (fun c a w h => h) (.inl ⟨by kernel_rfl, fun w' hS => ?_⟩) ?_ ?_
      · (have hc := hS.2.cell 0; have hd := hS.2.cell 1; simp at hc hd; go_simp)
      · exact SS
      try go_simp
      refine wpAnyH_take (i := 1) (v := .bool true) rfl (by kernel_rfl) (by kernel_rfl) (by kernel_rfl) (fun c a w h => h) (.inl ⟨by kernel_rfl, fun w' hS => ?_⟩) ?_ ?_
      · go_simp
      · exact SS
      try go_simp
      refine wpAnyH_take (i := 2) (v := .bool true) rfl (by kernel_rfl) (by kernel_rfl) (by kernel_rfl) (fun c a w h => h) (.inl ⟨by kernel_rfl, fun w' hS => ?_⟩) ?_ ?_
      · go_simp
      · exact SS
      try go_simp
      refine wpAnyH_take (i := 3) (v := .nilIface) rfl (by kernel_rfl) (by kernel_rfl) (by kernel_rfl) (fun c a w h => h) (.inl ⟨by kernel_rfl, fun w' hS => ?_⟩) ?_ ?_
      · go_simp
      · exact SS
      try go_simp
      refine wpAnyH_take (i := 4) (v := .bool true) rfl (by kernel_rfl) (by kernel_rfl) (by kernel_rfl) (fun c a w h => h) (.inl ⟨by kernel_rfl, fun w' hS => ?_⟩) ?_ ?_
      · go_simp
      · exact SS
      try go_simp
      refine wpAnyH_take (i := 5) (v := .bool true) rfl (by kernel_rfl) (by kernel_rfl) (by kernel_rfl) (fun c a w h => h) (.inl ⟨by kernel_rfl, fun w' hS => ?_⟩) ?_ ?_
      · go_simp
      · exact SS
      try go_simp
      refine wpAnyH_take (i := 6) (v := .bool true) rfl (by kernel_rfl) (by kernel_rfl) (by kernel_rfl) (fun c a w h => h) (.inl ⟨by kernel_rfl, fun w' hS => ?_⟩) ?_ ?_
      · go_simp
      · exact SS
      try go_simp
      refine wpAnyH_take (i := 7) (v := .int .i64 v) rfl (by kernel_rfl) (by kernel_rfl) (by kernel_rfl) (fun c a w h => h) (.inl ⟨by kernel_rfl, fun w' hS => ?_⟩) ?_ ?_
      · go_simp
      · exact SS
      try go_simp
      refine wpAnyH_take (i := 8) (v := .bool true) rfl (by kernel_rfl) (by kernel_rfl) (by kernel_rfl) (fun c a w h => h) (.inl ⟨by kernel_rfl, fun w' hS => ?_⟩) ?_ ?_
      · go_simp
      · exact SS
      try go_simp
      refine wpAnyH_take (i := 9) (v := .bool true) rfl (by kernel_rfl) (by kernel_rfl) (by kernel_rfl) (fun c a w h => h) (.inl ⟨by kernel_rfl, fun w' hS => ?_⟩) ?_ ?_
      · go_simp
      · exact SS
      try go_simp
      refine wpAnyH_take (i := 10) (v := .bool true) rfl (by kernel_rfl) (by kernel_rfl) (by kernel_rfl) (fun c a w h => h) (.inl ⟨by kernel_rfl, fun w' hS => ?_⟩) ?_ ?_
      · go_simp
      · exact SS
      try go_simp
      refine wpAnyH_take (i := 11) (v := .int .i64 v) rfl (by kernel_rfl) (by kernel_rfl) (by kernel_rfl) (fun c a w h => h) (.inl ⟨by kernel_rfl, fun w' hS => ?_⟩) ?_ ?_
      · go_simp
      · exact SS
      try go_simp
      refine wpAnyH_take (i := 12) (v := .bool true) rfl (by kernel_rfl) (by kernel_rfl) (by kernel_rfl) (fun c a w h => h) (.inl ⟨by kernel_rfl, fun w' hS => ?_⟩) ?_ ?_
      · go_simp
      · exact SS
      try go_simp
      refine wpAnyH_take (i := 13) (v := .bool true) rfl (by kernel_rfl) (by kernel_rfl) (by kernel_rfl) (fun c a w h => h) (.inl ⟨by kernel_rfl, fun w' hS => ?_⟩) ?_ ?_
      · go_simp
      · exact SS
      try go_simp
      refine wpAnyH_take (i := 14) (v := .bool true) rfl (by kernel_rfl) (by kernel_rfl) (by kernel_rfl) (fun c a w h => h) (.inl ⟨by kernel_rfl, fun w' hS => ?_⟩) ?_ ?_
      · go_simp
      · exact SS
      try go_simp
      refine wpAnyH_take (i := 15) (v := .int .i64 v) rfl (by kernel_rfl) (by kernel_rfl) (by kernel_rfl) (fun c a w h => h) (.inl ⟨by kernel_rfl, fun w' hS => ?_⟩) ?_ ?_
      · go_simp
      · exact SS
      try go_simp
      refine wpAnyH_take (i := 17) (v := .string (mk C1)) rfl (by kernel_rfl) (by kernel_rfl) (by kernel_rfl) (fun c a w h => h) (.inl ⟨by kernel_rfl, fun w' hS => ?_⟩) ?_ ?_
      · go_simp
      · exact SS
      try go_simp
      refine wpAnyH_all (rs := [16]) (by kernel_rfl) (by simp) ?_
      intro i hi
      simp only [List.mem_cons, List.not_mem_nil, or_false] at hi
      subst hi
      unfold wpOp
      go_simp
      refine .inl ((itoa_any v (by omega) (by omega) _ EE).mono ?_)
      rintro e w4 ⟨rfl, hb4⟩
      have Z2 := Z.below hb4
      have X2 := X.below hb4
      have BB2 := BB.trans (hb4.mono (Nat.le_trans (Nat.le_of_lt hN') (Nat.le_refl _)))
      have SS2 := And.intro BB2 X2
      refine ⟨SS2, ?_⟩
      clear SS hb4 EE
      replace Z := Z2
      replace X := X2
      replace BB := BB2
      have SS := SS2
      try go_simp
      refine wpAnyH_take (i := 18) (v := .bool false) rfl (by kernel_rfl) (by kernel_rfl) (by kernel_rfl) (fun c a w h => h) (.inl ⟨by kernel_rfl, fun w' hS => ?_⟩) ?_ ?_
      · (go_simp; rw [ByteArray.toList_eq, ByteArray.toList_eq, mk_data, mk_data]; exact h2)
      · exact SS
      try go_simp
      refine wpAnyH_take (i := 19) (v := .bool false) rfl (by kernel_rfl) (by kernel_rfl) (by kernel_rfl) (fun c a w h => h) (.inl ⟨by kernel_rfl, fun w' hS => ?_⟩) ?_ ?_
      · go_simp
      · exact SS
      try go_simp
      refine wpAnyH_take (i := 20) (v := .bool false) rfl (by kernel_rfl) (by kernel_rfl) (by kernel_rfl) (fun c a w h => h) (.inl ⟨by kernel_rfl, fun w' hS => ?_⟩) ?_ ?_
      · go_simp
      · exact SS
      try go_simp
      refine wpAnyH_take (i := 21) (v := undef) rfl (by kernel_rfl) (by kernel_rfl) (by kernel_rfl) (fun c a w h => h) (.inr ⟨by kernel_rfl, rfl⟩) SS ?_
      try go_simp
      refine wpAnyH_take (i := 22) (v := undef) rfl (by kernel_rfl) (by kernel_rfl) (by kernel_rfl) (fun c a w h => h) (.inr ⟨by kernel_rfl, rfl⟩) SS ?_
      try go_simp
      refine wpAnyH_take (i := 23) (v := .bool false) rfl (by kernel_rfl) (by kernel_rfl) (by kernel_rfl) (fun c a w h => h) (.inl ⟨by kernel_rfl, fun w' hS => ?_⟩) ?_ ?_
      · go_simp
      · exact SS
      try go_simp
      refine wpAnyH_all (rs := [24]) (by kernel_rfl) (by simp) ?_
      intro i hi
      simp only [List.mem_cons, List.not_mem_nil, or_false] at hi
      subst hi
      unfold wpOp
      have y0 := Z.cell 0
      have y1 := Z.cell 1
      have f0 := Z.frozen 0
      have f1 := Z.frozen 1
      simp at y0 y1
      go_simp
      have Z2 := (Z.set 0 (.int .i64 v)).set 1 (.string (mk C2))
      simp at Z2
      have BB2 := (BB.setCell (p := ⟨N0, 0, none⟩) hN (.int .i64 v)).setCell (p := ⟨N0, 1, none⟩) hN (.string (mk C2))
      have SS2 := And.intro BB2 ((X.other hXN 0 (.int .i64 v)).other hXN 1 (.string (mk C2)))
      first | refine ⟨SS2, ?_⟩ | refine .inl ⟨SS2, ?_⟩
      replace SS := SS2
      try go_simp
      refine wpAnyH_take (i := 25) (v := .bool false) rfl (by kernel_rfl) (by kernel_rfl) (by kernel_rfl) (fun c a w h => h) (.inl ⟨by kernel_rfl, fun w' hS => ?_⟩) ?_ ?_
      · go_simp
      · exact SS
      try go_simp
      refine wpAnyH_done (by kernel_rfl) ?_ _
      go_wp2
      have z0 := Z2.cell 0
      have z1 := Z2.cell 1
      simp at z0 z1
      refine bodyPost_ret (v := .tuple #[.agg #[.int .i64 v, .string (mk C2)], .bool false]) ?_ rfl ?_
      · rw [results_cell_tmp Tryd.results38]
        go_simp
      · have hR : R = none := by rw [HLV.out, hA.1]; simp only; rw [if_neg (by rintro ⟨_, _, _, h, _⟩; exact h2 h)]
        refine ⟨v, mk C2, by rw [hR]; rfl, ?_, by first | exact SS.1 | (rw [hN0]; exact SS.1)⟩
        intro k u e; rw [hR] at e; cases e
    refine wpAnyH_take (i := 0) (v := .agg #[.int .i64 v, .string (mk C2)]) rfl (by kernel_rfl) (by kernel_rfl) (by kernel_rfl) (fun c a w h => h) (.inl ⟨by kernel_rfl, fun w' hS => ?_⟩) ?_ ?_
    · (have hc := hS.2.cell 0; have hd := hS.2.cell 1; simp at hc hd; go_simp)
    · exact SS
    try go_simp
    refine wpAnyH_take (i := 1) (v := .bool true) rfl (by kernel_rfl) (by kernel_rfl) (by kernel_rfl) (fun c a w h => h) (.inl ⟨by kernel_rfl, fun w' hS => ?_⟩) ?_ ?_
    · go_simp
    · exact SS
    try go_simp
    refine wpAnyH_take (i := 2) (v := .bool true) rfl (by kernel_rfl) (by kernel_rfl) (by kernel_rfl) (fun c a w h => h) (.inl ⟨by kernel_rfl, fun w' hS => ?_⟩) ?_ ?_
    · go_simp
    · exact SS
    try go_simp
    refine wpAnyH_take (i := 3) (v := .nilIface) rfl (by kernel_rfl) (by kernel_rfl) (by kernel_rfl) (fun c a w h => h) (.inl ⟨by kernel_rfl, fun w' hS => ?_⟩) ?_ ?_
    · go_simp
    · exact SS
    try go_simp
    refine wpAnyH_take (i := 4) (v := .bool true) rfl (by kernel_rfl) (by kernel_rfl) (by kernel_rfl) (fun c a w h => h) (.inl ⟨by kernel_rfl, fun w' hS => ?_⟩) ?_ ?_
    · go_simp
    · exact SS
    try go_simp
    refine wpAnyH_take (i := 5) (v := .bool true) rfl (by kernel_rfl) (by kernel_rfl) (by kernel_rfl) (fun c a w h => h) (.inl ⟨by kernel_rfl, fun w' hS => ?_⟩) ?_ ?_
    · go_simp
    · exact SS
    try go_simp
    refine wpAnyH_take (i := 6) (v := .bool true) rfl (by kernel_rfl) (by kernel_rfl) (by kernel_rfl) (fun c a w h => h) (.inl ⟨by kernel_rfl, fun w' hS => ?_⟩) ?_ ?_
    · go_simp
    · exact SS
    try go_simp
    refine wpAnyH_take (i := 7) (v := .int .i64 v) rfl (by kernel_rfl) (by kernel_rfl) (by kernel_rfl) (fun c a w h => h) (.inl ⟨by kernel_rfl, fun w' hS => ?_⟩) ?_ ?_
    · go_simp
    · exact SS
    try go_simp
    refine wpAnyH_take (i := 8) (v := .bool true) rfl (by kernel_rfl) (by kernel_rfl) (by kernel_rfl) (fun c a w h => h) (.inl ⟨by kernel_rfl, fun w' hS => ?_⟩) ?_ ?_
    · go_simp
    · exact SS
    try go_simp
    refine wpAnyH_take (i := 9) (v := .bool true) rfl (by kernel_rfl) (by kernel_rfl) (by kernel_rfl) (fun c a w h => h) (.inl ⟨by kernel_rfl, fun w' hS => ?_⟩) ?_ ?_
    · go_simp
    · exact SS
    try go_simp
    refine wpAnyH_take (i := 10) (v := .bool true) rfl (by kernel_rfl) (by kernel_rfl) (by kernel_rfl) (fun c a w h => h) (.inl ⟨by kernel_rfl, fun w' hS => ?_⟩) ?_ ?_
    · go_simp
    · exact SS
    try go_simp
    refine wpAnyH_take (i := 11) (v := .int .i64 v) rfl (by kernel_rfl) (by kernel_rfl) (by kernel_rfl) (fun c a w h => h) (.inl ⟨by kernel_rfl, fun w' hS => ?_⟩) ?_ ?_
    · go_simp
    · exact SS
    try go_simp
    refine wpAnyH_take (i := 12) (v := .bool true) rfl (by kernel_rfl) (by kernel_rfl) (by kernel_rfl) (fun c a w h => h) (.inl ⟨by kernel_rfl, fun w' hS => ?_⟩) ?_ ?_
    · go_simp
    · exact SS
    try go_simp
    refine wpAnyH_take (i := 13) (v := .bool true) rfl (by kernel_rfl) (by kernel_rfl) (by kernel_rfl) (fun c a w h => h) (.inl ⟨by kernel_rfl, fun w' hS => ?_⟩) ?_ ?_
    · go_simp
    · exact SS
    try go_simp
    refine wpAnyH_take (i := 14) (v := .bool true) rfl (by kernel_rfl) (by kernel_rfl) (by kernel_rfl) (fun c a w h => h) (.inl ⟨by kernel_rfl, fun w' hS => ?_⟩) ?_ ?_
    · go_simp
    · exact SS
    try go_simp
    refine wpAnyH_take (i := 15) (v := .int .i64 v) rfl (by kernel_rfl) (by kernel_rfl) (by kernel_rfl) (fun c a w h => h) (.inl ⟨by kernel_rfl, fun w' hS => ?_⟩) ?_ ?_
    · go_simp
    · exact SS
    try go_simp
    refine wpAnyH_take (i := 17) (v := .string (mk C1)) rfl (by kernel_rfl) (by kernel_rfl) (by kernel_rfl) (fun c a w h => h) (.inl ⟨by kernel_rfl, fun w' hS => ?_⟩) ?_ ?_
    · go_simp
    · exact SS
    try go_simp
    refine wpAnyH_all (rs := [16]) (by kernel_rfl) (by simp) ?_
    intro i hi
    simp only [List.mem_cons, List.not_mem_nil, or_false] at hi
    subst hi
    unfold wpOp
    go_simp
    refine .inl ((itoa_any v (by omega) (by omega) _ EE).mono ?_)
    rintro e w4 ⟨rfl, hb4⟩
    have Z2 := Z.below hb4
    have X2 := X.below hb4
    have BB2 := BB.trans (hb4.mono (Nat.le_trans (Nat.le_of_lt hN') (Nat.le_refl _)))
    have SS2 := And.intro BB2 X2
    refine ⟨SS2, ?_⟩
    clear SS hb4 EE
    replace Z := Z2
    replace X := X2
    replace BB := BB2
    have SS := SS2
    try go_simp
    refine wpAnyH_take (i := 18) (v := .bool true) rfl (by kernel_rfl) (by kernel_rfl) (by kernel_rfl) (fun c a w h => h) (.inl ⟨by kernel_rfl, fun w' hS => ?_⟩) ?_ ?_
    · go_simp
    · exact SS
    try go_simp
    refine wpAnyH_take (i := 19) (v := .bool true) rfl (by kernel_rfl) (by kernel_rfl) (by kernel_rfl) (fun c a w h => h) (.inl ⟨by kernel_rfl, fun w' hS => ?_⟩) ?_ ?_
    · go_simp
    · exact SS
    try go_simp
    refine wpAnyH_take (i := 20) (v := .bool true) rfl (by kernel_rfl) (by kernel_rfl) (by kernel_rfl) (fun c a w h => h) (.inl ⟨by kernel_rfl, fun w' hS => ?_⟩) ?_ ?_
    · go_simp
    · exact SS
    try go_simp
    refine wpAnyH_take (i := 21) (v := .string (mk C2)) rfl (by kernel_rfl) (by kernel_rfl) (by kernel_rfl) (fun c a w h => h) (.inl ⟨by kernel_rfl, fun w' hS => ?_⟩) ?_ ?_
    · go_simp
    · exact SS
    try go_simp
    refine wpAnyH_all (rs := [22]) (by kernel_rfl) (by simp) ?_
    intro i hi
    simp only [List.mem_cons, List.not_mem_nil, or_false] at hi
    subst hi
    unfold wpOp
    go_simp
    refine .inl ((tok_any (mk C2) _ (by rw [mk_size]; unfold maxLen; omega)).mono ?_)
    rintro e w5 ⟨rfl, rfl⟩
    refine ⟨SS, ?_⟩
    try go_simp
    refine wpAnyH_take (i := 23) (v := .bool (tok (mk C2).data.toList)) rfl (by kernel_rfl) (by kernel_rfl) (by kernel_rfl) (fun c a w h => h) (.inl ⟨by kernel_rfl, fun w' hS => ?_⟩) ?_ ?_
    · go_simp
    · exact SS
    try go_simp
    refine wpAnyH_all (rs := [24]) (by kernel_rfl) (by simp) ?_
    intro i hi
    simp only [List.mem_cons, List.not_mem_nil, or_false] at hi
    subst hi
    unfold wpOp
    have y0 := Z.cell 0
    have y1 := Z.cell 1
    have f0 := Z.frozen 0
    have f1 := Z.frozen 1
    simp at y0 y1
    go_simp
    have Z2 := (Z.set 0 (.int .i64 v)).set 1 (.string (mk C2))
    simp at Z2
    have BB2 := (BB.setCell (p := ⟨N0, 0, none⟩) hN (.int .i64 v)).setCell (p := ⟨N0, 1, none⟩) hN (.string (mk C2))
    have SS2 := And.intro BB2 ((X.other hXN 0 (.int .i64 v)).other hXN 1 (.string (mk C2)))
    first | refine ⟨SS2, ?_⟩ | refine .inl ⟨SS2, ?_⟩
    replace SS := SS2
    try go_simp
    refine wpAnyH_take (i := 25) (v := .bool (tok C2)) rfl (by kernel_rfl) (by kernel_rfl) (by kernel_rfl) (fun c a w h => h) (.inl ⟨by kernel_rfl, fun w' hS => ?_⟩) ?_ ?_
    · (go_simp; try rw [mk_data])
    · exact SS
    try go_simp
    refine wpAnyH_done (by kernel_rfl) ?_ _
    go_wp2
    have z0 := Z2.cell 0
    have z1 := Z2.cell 1
    simp at z0 z1
    refine bodyPost_ret (v := .tuple #[.agg #[.int .i64 v, .string (mk C2)], .bool (tok C2)]) ?_ rfl ?_
    · rw [results_cell_tmp Tryd.results38]
      go_simp
    · have hR : R = if tok C2 = true then some (v.toNat, C2) else none := by
        rw [HLV.out, hA.1]
        simp only
        by_cases ht : tok C2 = true
        · rw [if_pos ⟨trivial, h0, h1, h2, ht⟩, if_pos ht]
        · rw [if_neg (fun h => ht h.2.2.2.2), if_neg ht]
      refine ⟨v, mk C2, ?_, ?_, by first | exact SS.1 | (rw [hN0]; exact SS.1)⟩
      · rw [hR]; cases htk : tok C2 <;> rfl
      · intro k u e
        rw [hR] at e
        split at e
        · simp only [Option.some.injEq, Prod.mk.injEq] at e
          exact ⟨by omega, by rw [e.2]⟩
        · cases e
end Go.Proofs.YtejokbfejkkpmaaDoor
