/- sector.Disk: Read out of range and without power, Write, walked. -/
import Derived.Test.YtcmcdddnckcpcaaGreatDoorDz
import Derived.Test.YtcmcdddnckcpcaaGreatDoorOs
namespace Go.Proofs.YtcmcdddnckcpcaaGreatDoor
open Go.RowKit
theorem read_out (X : List Nat) (D : Nat) (d : DS) (i : Int) (w : World) (h : Dsk w X D d) (hi : ¬ (0 ≤ i ∧ i < d.L.length)) :
    Calls Tryz.prog 33 #[.pointer (some ⟨D, 0, none⟩), .int .i64 i] w fun e w' => e = .returned (.tuple #[.string ⟨#[]⟩, .int .i64 1]) ∧ w' = w := by
  have K := has_any X D d i w h
  rw [decide_eq_false hi] at K
  clear h hi
  go_enter Tryz.func33, Tryz.ntmps33
  go_wp2_with (go_at_call 71; refine K.mono ?_; rintro e w1 ⟨rfl, rfl⟩)
  go_wp2
  go_ret2
  exact ⟨rfl, rfl⟩
theorem read_dark (X : List Nat) (D : Nat) (d : DS) (i : Nat) (w : World) (h : Dsk w X D d) (hi : i < d.L.length) (ho : d.off = true) :
    Calls Tryz.prog 33 #[.pointer (some ⟨D, 0, none⟩), .int .i64 i] w fun e w' => e = .returned (.tuple #[.string ⟨#[]⟩, .int .i64 7]) ∧ w' = w := by
  have K := has_any X D d i w h
  rw [show decide (0 ≤ (i : Int) ∧ (i : Int) < d.L.length) = true by simp; omega] at K
  obtain ⟨gL, cL, vS, vC, cnt, hB, _⟩ := h.blk
  have x3 := hB.cell 3
  simp at x3
  rw [ho] at x3
  clear h hi ho hB
  go_enter Tryz.func33, Tryz.ntmps33
  go_wp2_with (go_at_call 71; refine K.mono ?_; rintro e w1 ⟨rfl, hw⟩; obtain rfl := hw.symm)
  go_wp2
  go_ret2
  exact ⟨rfl, rfl⟩
theorem full_length (d : Bs) (h : d.length ≤ 512) : (fullB d).length = 512 := by unfold fullB; rw [List.length_append, List.length_replicate]; omega
theorem info141 : (Tryz.prog.info? 141).map (fun i => (i.zero, i.size, i.bytes)) = some (some (.agg #[.int .i64 0, .string ⟨#[]⟩]), 2, 24) := by kernel_rfl
theorem step_num (d : DS) : d.step.1 = 0 ∨ d.step.1 = 7 := by
  unfold DS.step
  split
  · exact .inr rfl
  · split
    · exact .inl rfl
    · split
      · exact .inr rfl
      · exact .inl rfl
theorem step_len (d : DS) : d.step.2.L.length = d.L.length := by
  unfold DS.step
  split
  · rfl
  · split
    · rfl
    · split
      · exact overK_length _ _ _ _
      · rfl
theorem step_S (d : DS) (h : d.step.1 = 0) : d.step.2.S = d.S ∧ d.step.2.L = d.L ∧ d.step.2.off = false ∧ d.off = false := by
  unfold DS.step at h ⊢
  cases ho : d.off with
  | true => rw [ho] at h; simp at h
  | false =>
    rw [ho] at h
    simp only [Bool.false_eq_true, if_false] at h ⊢
    split at h
    · exact ⟨rfl, rfl, ho, trivial⟩
    · split at h
      · cases h
      · rename_i hn; simp [hn]
theorem CutAt.mono {w : World} {X Y : List Nat} {v : Value} {o : Option (Nat × List Int)} (h : CutAt w X v o) (hXY : ∀ x ∈ X, x ∈ Y) : CutAt w Y v o := by
  cases o with
  | none => exact h
  | some p =>
    obtain ⟨n, keep⟩ := p
    obtain ⟨h1, h2, h3, C, A, c, h4, h5, h6, h7, h8, h9⟩ := h
    exact ⟨h1, h2, h3, C, A, c, h4, hXY _ h5, h6, h7, h8, fun a ha => hXY _ (h9 a ha)⟩
theorem CutAt.below {w w' : World} {X : List Nat} {v : Value} {o : Option (Nat × List Int)} (h : CutAt w X v o) (hb : Below w.heap.size w w') : CutAt w' X v o := h.frm (Frm.of_below [] hb) (fun _ _ => by simp)
set_option maxRecDepth 100000 in
set_option maxHeartbeats 1000000 in
theorem write_any (XB : List Nat) (D : Nat) (ds : DS) (i : Nat) (d : Bs) (w : World) (h : Dsk w XB D ds) (hi : i < ds.L.length) (hd : d.length ≤ 512) (hS : ds.S.length ≤ 1000000) :
    Calls Tryz.prog 56 #[.pointer (some ⟨D, 0, none⟩), .int .i64 i, .string (mk d)] w fun e w' => e = .returned (.int .i64 ((ds.write i d).1 : Nat)) ∧ ∃ X', Dsk w' X' D (ds.write i d).2 ∧ Mv XB X' w w' := by
  have K := has_any XB D ds i w h
  rw [show decide (0 ≤ (i : Int) ∧ (i : Int) < ds.L.length) = true by simp; omega] at K
  have KS := step_any XB D ds w h
  have KF := fun w => full_any d w hd
  rcases step_num ds with hs0 | hs7
  case inr =>
    have hwr : ds.write i d = ds.step := by unfold DS.write; rw [if_neg (by omega)]
    rw [hwr]
    obtain ⟨d7, hd7⟩ : ∃ q, ds.step.2 = q := ⟨_, rfl⟩
    rw [hs7, hd7] at KS
    rw [hs7, hd7]
    have zd : (mk d).size = d.length := mk_size d
    have hdl : ¬ ((512 : Int) < (d.length : Int)) := by omega
    obtain ⟨n, hn⟩ : ∃ n, d.length = n := ⟨_, rfl⟩
    obtain ⟨ii, hii⟩ : ∃ ii : Int, (i : Int) = ii := ⟨_, rfl⟩
    obtain ⟨X, hX⟩ : ∃ X, mk d = X := ⟨_, rfl⟩
    rw [hX, hn] at zd
    rw [hX]
    rw [hn] at hdl
    rw [hii] at K ⊢
    clear h hs7 hd7 hwr hX hii hn hi hd hS KF
    go_enter Tryz.func56, Tryz.ntmps56
    go_wp2_with (first
      | (go_at_call 71; refine K.mono ?_; rintro e w1 ⟨rfl, hw⟩; obtain rfl := hw.symm)
      | (go_at_call 95; refine KS.mono ?_; rintro e w2 ⟨rfl, hD2, hF2⟩))
    go_wp2
    go_ret
    exact ⟨rfl, XB, hD2, .of_frm hF2⟩
  have hwr : ds.write i d = (0, ⟨ds.step.2.L, ds.step.2.S ++ [(i, fullB d)], ds.step.2.cut, ds.step.2.off⟩) := by unfold DS.write; rw [if_pos hs0]
  have hln := step_len ds
  have hSe := (step_S ds hs0).1
  rw [hwr]
  rw [← hSe] at hS
  rw [← hln] at hi
  obtain ⟨d1, hd1⟩ : ∃ q, ds.step.2 = q := ⟨_, rfl⟩
  rw [hs0, hd1] at KS
  rw [hd1] at hS hi
  rw [hd1]
  clear hs0 hwr hln hSe hd1
  obtain ⟨i141, hi0, hi1, hi2, hi3⟩ := info_parts info141
  have zd : (mk d).size = d.length := mk_size d
  have hdl : ¬ ((512 : Int) < (d.length : Int)) := by omega
  obtain ⟨ii, hii⟩ : ∃ ii : Int, (i : Int) = ii := ⟨_, rfl⟩
  obtain ⟨X, hX⟩ : ∃ X, mk d = X := ⟨_, rfl⟩
  obtain ⟨R, hR⟩ : ∃ X, mk (fullB d) = X := ⟨_, rfl⟩
  rw [hX] at zd
  rw [hX, hR] at KF
  rw [hX]
  have HR := Lib.hid hR
  obtain ⟨m, hm⟩ : ∃ m, d1.S.length = m := ⟨_, rfl⟩
  rw [hm] at hS
  have HM := Lib.hid hm
  rw [hii] at K ⊢
  have HII := Lib.hid hii
  clear h hX hR hm hii
  go_enter Tryz.func56, Tryz.ntmps56
  go_upto_region 6 with (first
    | (go_at_call 71; refine K.mono ?_; rintro e w1 ⟨rfl, hw⟩; obtain rfl := hw.symm)
    | (go_at_call 95; refine KS.mono ?_; rintro e w2 ⟨rfl, hD2, hF2⟩))
  obtain ⟨gL, cL, vS, vC, cnt, hB, hL, hvS, hC, hgX, hvX⟩ := hD2.blk
  obtain ⟨n, hn⟩ : ∃ n, d1.L.length = n := ⟨_, rfl⟩
  rw [hn] at hB hL
  obtain ⟨off, hoff⟩ : ∃ n, d1.off = n := ⟨_, rfl⟩
  rw [hoff] at hB
  have HN := Lib.hid (And.intro hn hoff)
  clear hn hoff
  obtain ⟨W0, hW0⟩ : ∃ u, w2.drew = u := ⟨_, rfl⟩
  have hB0 : Blk W0 D #[.slice (some ⟨gL, 0, none⟩) n cL, vS, vC, .bool off, .int .i64 cnt] 123 := by rw [← hW0]; exact hB
  have hL0 : W0.ownsRow 0 9 1 (.slice (some ⟨gL, 0, none⟩) n cL) n (txc d1.L) := by rw [← hW0]; exact hL
  have hS0 : W0.ownsRow 0 141 2 vS m (scells d1.S) := by rw [← hW0, ← HM.out]; exact hvS
  have hC0 : CutAt W0 XB vC d1.cut := by rw [← hW0]; exact hC
  have hF0 : Frm XB w W0 := by rw [← hW0]; exact hF2.drew
  have hz0 : w2.heap.size ≤ W0.heap.size := by rw [← hW0]; exact Nat.le_refl _
  have HGX := Lib.hid (And.intro hgX hvX)
  clear hC hgX hvX
  have HD := Lib.hid hD2
  clear hD2 hF2 hB hL hvS K KS
  have mixed : Tryz.prog.follows Departure.mixedOrders = true := by kernel_rfl
  refine wp_region_S 13 (fun _ => True) (fun w' => w'.cell? ⟨D, 1, none⟩ = some vS) mixed ?_
  change wpAnyS _ _ _ _ _ _ _ _ _ _ w2.drew
  rw [hW0]
  clear hW0
  have x0 := hB0.cell 1
  simp at x0
  have HE0 : ∀ L : Array Bool, HeldS 13 (fun _ => True) (fun w' => w'.cell? ⟨D, 1, none⟩ = some vS) L W0 := fun L => ⟨trivial, fun _ => x0⟩
  refine wpAnyS_take (i := 0) (v := .pointer (some ⟨D, 0, none⟩)) rfl (by decide) (by kernel_rfl) (by kernel_rfl) (by kernel_rfl) (fun c a w h => h) (.inl ⟨by kernel_rfl, fun w' hS => ?_⟩) (HE0 _) ?_
  · clear hS; go_simp
  try go_simp
  refine wpAnyS_take (i := 1) (v := .pointer (some ⟨D, 0, none⟩)) rfl (by decide) (by kernel_rfl) (by kernel_rfl) (by kernel_rfl) (fun c a w h => h) (.inl ⟨by kernel_rfl, fun w' hS => ?_⟩) (HE0 _) ?_
  · clear hS; go_simp
  try go_simp
  refine wpAnyS_take (i := 2) (v := .pointer (some ⟨D, 0, none⟩)) rfl (by decide) (by kernel_rfl) (by kernel_rfl) (by kernel_rfl) (fun c a w h => h) (.inl ⟨by kernel_rfl, fun w' hS => ?_⟩) (HE0 _) ?_
  · clear hS; go_simp
  try go_simp
  refine wpAnyS_take (i := 3) (v := .pointer (some ⟨D, 1, none⟩)) rfl (by decide) (by kernel_rfl) (by kernel_rfl) (by kernel_rfl) (fun c a w h => h) (.inl ⟨by kernel_rfl, fun w' hS => ?_⟩) (HE0 _) ?_
  · clear hS; go_simp
  try go_simp
  refine wpAnyS_take2 (i := 4) (v := vS) rfl (by decide) rfl (by kernel_rfl) (by kernel_rfl) (by kernel_rfl) (by kernel_rfl) (by kernel_rfl) (fun c a w h => h) (.inl ⟨by kernel_rfl, fun w' hS => ?_⟩) (HE0 _) ?_
  · have hS0 := hS.2; go_simp
  try go_simp
  refine wpAnyS_take (i := 5) (v := .int .i64 ii) rfl (by decide) (by kernel_rfl) (by kernel_rfl) (by kernel_rfl) (fun c a w h => h) (.inl ⟨by kernel_rfl, fun w' hS => ?_⟩) (HE0 _) ?_
  · clear hS; go_simp
  try go_simp
  refine wpAnyS_take (i := 6) (v := .string X) rfl (by decide) (by kernel_rfl) (by kernel_rfl) (by kernel_rfl) (fun c a w h => h) (.inl ⟨by kernel_rfl, fun w' hS => ?_⟩) (HE0 _) ?_
  · clear hS; go_simp
  try go_simp
  refine wpAnyS_all (rs := [7]) (by kernel_rfl) (by simp) ?_
  intro i hi
  simp only [List.mem_cons, List.not_mem_nil, or_false] at hi
  subst hi
  unfold wpOp
  go_simp
  refine .inl ?_
  go_at_call 72
  refine (KF _).mono ?_
  rintro e W1 ⟨rfl, hb1⟩
  have hB1 := hB0.below hb1
  have hL1 := own_below hL0 hb1
  have hS1 := own_below hS0 hb1
  have hF1 := hF0.trans (Frm.of_below [] hb1) (by simp)
  have hC1 := hC0.below hb1
  have x1 := hB1.cell 1
  simp at x1
  have HE1 : ∀ L : Array Bool, HeldS 13 (fun _ => True) (fun w' => w'.cell? ⟨D, 1, none⟩ = some vS) L W1 := fun L => ⟨trivial, fun _ => x1⟩
  refine ⟨HE1 _, ?_⟩
  try go_simp
  refine wpAnyS_take (i := 8) (v := .agg #[.int .i64 ii, .string R]) rfl (by decide) (by kernel_rfl) (by kernel_rfl) (by kernel_rfl) (fun c a w h => h) (.inl ⟨by kernel_rfl, fun w' hS => ?_⟩) (HE1 _) ?_
  · clear hS; go_simp
  try go_simp
  refine wpAnyS_all (rs := [9]) (by kernel_rfl) (by simp) ?_
  intro i hi
  simp only [List.mem_cons, List.not_mem_nil, or_false] at hi
  subst hi
  unfold wpOp
  go_simp
  have hN := World.news_of_block (cs := #[.int .i64 ii, .string R]) (heap_alloc_new W1 (.cells #[.int .i64 ii, .string R] 141))
  have hB2 := hB1.alloc (.cells #[.int .i64 ii, .string R] 141)
  have hL2 := World.ownsRow.alloc hL1 (.cells #[.int .i64 ii, .string R] 141)
  have hS2 := World.ownsRow.alloc hS1 (.cells #[.int .i64 ii, .string R] 141)
  have hF2 := hF1.alloc (.cells #[.int .i64 ii, .string R] 141)
  have hC2 := hC1.alloc (.cells #[.int .i64 ii, .string R] 141)
  obtain ⟨Z, hZ⟩ : ∃ Z, W1.heap.size = Z := ⟨_, rfl⟩
  obtain ⟨W2, hW2⟩ : ∃ u, W1.alloc (.cells #[.int .i64 ii, .string R] 141) = u := ⟨_, rfl⟩
  rw [hZ] at hN
  rw [hW2] at hN hB2 hL2 hS2 hF2 hC2
  try rw [hZ]
  rw [hW2]
  have hz2 : W1.heap.size ≤ W2.heap.size := by rw [← hW2]; simp
  clear hW2 hZ
  have x2 := hB2.cell 1
  simp at x2
  have HE2 : ∀ L : Array Bool, HeldS 13 (fun _ => True) (fun w' => w'.cell? ⟨D, 1, none⟩ = some vS) L W2 := fun L => ⟨trivial, fun _ => x2⟩
  first | refine .inl ⟨HE2 _, ?_⟩ | refine ⟨HE2 _, ?_⟩
  refine wpAnyS_all (rs := [10]) (by kernel_rfl) (by simp) ?_
  intro i hi
  simp only [List.mem_cons, List.not_mem_nil, or_false] at hi
  subst hi
  refine wpOp_of rfl rfl (wp_append_lies (P := Tryz.prog) W2 (.tmp 26) (.tmp 31) 116 rfl 0 141 i141 _ 2 24 Tryz.underlying116 hi0 hi1 hi2 hi3 (by rfl) (by decide) vS m (scells d1.S) (by rfl) hS2 ⟨Z, 0, none⟩ 1 1 [.int .i64 ii, .string R] (by rfl) (by rfl) hN (by simp [Value.oneCell']) (by omega) (by unfold maxLen; omega) (by omega) (Nat.zero_le _) W2.heap.size rfl ?_)
  intro g3 c3 W3 hS3 hg3 hat3 _
  have hne := own_ne_blk hS2 hB2 (by decide)
  have hB3 := hB2.grown hg3 hne
  have hL3 := hL2.kept hg3 (row_ne_row hL2 hS2 (by decide))
  have hF3 := hF2.grown hg3 (fun k hk => .inl (HGX.out.2 k hk))
  have hC3 := hC2.grown hg3 (fun g hg => by
    obtain ⟨c, fr, hc⟩ := row_kind hS2 g hg
    exact ⟨c, 141, fr, hc, by decide, by decide⟩)
  have x3 := hB3.cell 1
  have f3 := hB3.frozen 1
  simp at x3
  have HE3 : ∀ L : Array Bool, HeldS 13 (fun _ => True) (fun w' => w'.cell? ⟨D, 1, none⟩ = some vS) L W3 := fun L => ⟨trivial, fun _ => x3⟩
  refine ⟨HE3 _, ?_⟩
  try go_simp
  refine wpAnyS_take (i := 11) (v := .pointer (some ⟨D, 0, none⟩)) rfl (by decide) (by kernel_rfl) (by kernel_rfl) (by kernel_rfl) (fun c a w h => h) (.inl ⟨by kernel_rfl, fun w' hS => ?_⟩) (HE3 _) ?_
  · clear hS; go_simp
  try go_simp
  refine wpAnyS_take (i := 12) (v := .pointer (some ⟨D, 1, none⟩)) rfl (by decide) (by kernel_rfl) (by kernel_rfl) (by kernel_rfl) (fun c a w h => h) (.inl ⟨by kernel_rfl, fun w' hS => ?_⟩) (HE3 _) ?_
  · clear hS; go_simp
  try go_simp
  refine wpAnyS_all (rs := [13]) (by kernel_rfl) (by simp) ?_
  intro i hi
  simp only [List.mem_cons, List.not_mem_nil, or_false] at hi
  subst hi
  unfold wpOp
  go_simp
  have HE4 : ∀ L : Array Bool, L.getD 13 false = true → HeldS 13 (fun _ => True) (fun w' => w'.cell? ⟨D, 1, none⟩ = some vS) L (W3.setCell ⟨D, 1, none⟩ (.slice (some ⟨g3, 0, none⟩) (m + 1) c3)) := fun L hL => ⟨trivial, fun e => by rw [hL] at e; cases e⟩
  first | refine .inl ⟨HE4 _ (by kernel_rfl), ?_⟩ | refine ⟨HE4 _ (by kernel_rfl), ?_⟩
  refine wpAnyS_done (by kernel_rfl) ?_ _
  have hB4 := hB3.set 1 (.slice (some ⟨g3, 0, none⟩) (m + 1) c3)
  simp at hB4
  have hL4 := own_set hL3 hB3 (by decide) 1 (.slice (some ⟨g3, 0, none⟩) (m + 1) c3)
  have hS4 := own_set hS3 hB3 (by decide) 1 (.slice (some ⟨g3, 0, none⟩) (m + 1) c3)
  have hF4 := hF3.setCell (p := ⟨D, 1, none⟩) (.inl HD.out.mem) (.slice (some ⟨g3, 0, none⟩) (m + 1) c3)
  have hC4 := hC3.set hB3 (by decide) (by decide) 1 (.slice (some ⟨g3, 0, none⟩) (m + 1) c3)
  have hs2 := hF2.size
  have hg3l := (hS4.lt g3 rfl).2
  have HFIN := Lib.hid (show ∃ X', Dsk (W3.setCell ⟨D, 1, none⟩ (.slice (some ⟨g3, 0, none⟩) (m + 1) c3)) X' D ⟨d1.L, d1.S ++ [(i, fullB d)], d1.cut, d1.off⟩ ∧ Mv XB X' w (W3.setCell ⟨D, 1, none⟩ (.slice (some ⟨g3, 0, none⟩) (m + 1) c3)) from by
    refine ⟨g3 :: XB, ⟨⟨gL, cL, .slice (some ⟨g3, 0, none⟩) (m + 1) c3, vC, cnt, ?_, ?_, ?_, hC4.mono (fun x hx => List.mem_cons_of_mem _ hx), List.mem_cons_of_mem _ HGX.out.1, fun g hg => ?_⟩, ⟨HD.out.good.lasts, fun x hx => ?_, HD.out.good.small⟩, List.mem_cons_of_mem _ HD.out.mem, fun x hx => ?_⟩, hF4, fun x hx => ?_⟩
    · simp only [HN.out.1, HN.out.2]; exact hB4
    · simp only [HN.out.1]; exact hL4
    · rw [scells_snoc, List.length_append, HM.out]
      simp only [HII.out, HR.out]
      exact hS4
    · simp only [Value.ownBlock, Option.some.injEq] at hg
      subst hg
      exact List.mem_cons_self ..
    · rcases List.mem_append.1 hx with hx | hx
      · exact HD.out.good.wrote x hx
      · rw [List.mem_singleton] at hx
        subst hx
        exact ⟨hi, full_length d hd⟩
    · rcases List.mem_cons.1 hx with rfl | hx
      · exact hg3l
      · exact Nat.lt_of_lt_of_le (HD.out.lt x hx) (by have := hb1.size; have := hg3.size; simp; omega)
    · rcases List.mem_cons.1 hx with rfl | hx
      · rcases hat3 with e | e
        · exact .inl (HGX.out.2 _ e)
        · exact .inr (by omega)
      · exact .inl hx)
  clear hB0 hB1 hB2 hB3 hB4 hL0 hL1 hL2 hL3 hL4 hS0 hS1 hS2 hS3 hS4 hF0 hF1 hF2 hF3 hF4 hC0 hC1 hC2 hC3 hC4 HE0 HE1 HE2 HE3 HE4 x0 x1 x2 x3 f3 hat3 hne hg3 hN KF
  go_wp2
  go_ret
  exact ⟨rfl, HFIN.out⟩
end Go.Proofs.YtcmcdddnckcpcaaGreatDoor
