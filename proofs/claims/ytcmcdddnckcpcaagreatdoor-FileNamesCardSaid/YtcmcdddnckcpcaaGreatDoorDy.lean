/- sector.Disk: Sync, walked. -/
import Derived.Test.YtcmcdddnckcpcaaGreatDoorDw
namespace Go.Proofs.YtcmcdddnckcpcaaGreatDoor
open Go.RowKit
theorem over_take (L : List Bs) (S : List (Nat × Bs)) (k : Nat) (h : k < S.length) : overlay L (S.take (k + 1)) = (overlay L (S.take k)).set S[k].1 S[k].2 := by
  rw [List.take_succ_eq_append_getElem h, overlay_snoc]
theorem over_good (n : Nat) (S : List (Nat × Bs)) : ∀ L, (∀ x ∈ L, x.length = 512) → (∀ x ∈ S, x.1 < n ∧ x.2.length = 512) → ∀ x ∈ overlay L S, x.length = 512 := by
  induction S with
  | nil => intro L h _; exact h
  | cons y S ih =>
    intro L h hS
    unfold overlay at ih ⊢
    rw [List.foldl_cons]
    refine ih _ (fun x hx => ?_) (fun z hz => hS z (List.mem_cons_of_mem _ hz))
    rcases List.mem_or_eq_of_mem_set hx with hx | rfl
    · exact h x hx
    · exact (hS y (List.mem_cons_self ..)).2
set_option maxRecDepth 100000 in
set_option maxHeartbeats 2000000 in
theorem sync_any (XB : List Nat) (D : Nat) (ds : DS) (w : World) (h : Dsk w XB D ds) :
    Calls Tryz.prog 57 #[.pointer (some ⟨D, 0, none⟩)] w fun e w' => e = .returned (.int .i64 (ds.sync.1 : Nat)) ∧ Dsk w' XB D ds.sync.2 ∧ Frm XB w w' := by
  have KS := step_any XB D ds w h
  rcases step_num ds with hs0 | hs7
  case inr =>
    have hwr : ds.sync = ds.step := by unfold DS.sync; rw [if_neg (by omega)]
    rw [hwr]
    obtain ⟨d7, hd7⟩ : ∃ q, ds.step.2 = q := ⟨_, rfl⟩
    rw [hs7, hd7] at KS
    rw [hs7, hd7]
    clear h hs7 hd7 hwr
    go_enter Tryz.func57, Tryz.ntmps57
    go_wp2_with (go_at_call 95; refine KS.mono ?_; rintro e w2 ⟨rfl, hD2, hF2⟩)
    go_wp2
    go_ret
    exact ⟨rfl, hD2, hF2⟩
  have hwr : ds.sync = (0, ⟨overlay ds.step.2.L ds.step.2.S, [], ds.step.2.cut, ds.step.2.off⟩) := by unfold DS.sync; rw [if_pos hs0]
  rw [hwr]
  obtain ⟨d1, hd1⟩ : ∃ q, ds.step.2 = q := ⟨_, rfl⟩
  rw [hs0, hd1] at KS
  rw [hd1]
  have HLT := Lib.hid h.lt
  clear hs0 hwr hd1 h
  obtain ⟨L, S, ct, off⟩ := d1
  dsimp only
  go_enter Tryz.func57, Tryz.ntmps57
  have mixed : Tryz.prog.follows Departure.mixedOrders = true := by kernel_rfl
  go_upto_region 6 with (go_at_call 95; refine KS.mono ?_; rintro e w2 ⟨rfl, hD2, hF2⟩)
  obtain ⟨gL, cL, vS, vC, cnt, hB, hL, hSr, hC, hgX, hvX⟩ := hD2.blk
  have HGD := Lib.hid (And.intro hD2.good (And.intro hD2.mem (And.intro hD2.lt (And.intro hgX hvX))))
  dsimp only at hB hL hSr hC
  obtain ⟨n, hn⟩ : ∃ n, L.length = n := ⟨_, rfl⟩
  obtain ⟨m, hm⟩ : ∃ m, S.length = m := ⟨_, rfl⟩
  rw [hn] at hB hL
  rw [hm] at hSr
  obtain ⟨A, c, hvS⟩ : ∃ A c, vS = .slice A m c := row_form hSr
  rw [hvS] at hB hSr
  have hm63 : m ≤ 9223372036854775807 := len63 hSr
  have HLN := Lib.hid hn
  have HM := Lib.hid hm
  have HWR := Lib.hid (show (∀ x ∈ L, x.length = 512) ∧ (∀ x ∈ S, x.1 < n ∧ x.2.length = 512) ∧ n ≤ 4096 by
    have := hD2.good
    exact ⟨this.lasts, fun x hx => by have := this.wrote x hx; dsimp only at this; rwa [hn] at this, by have := this.small; dsimp only at this; rwa [hn] at this⟩)
  have x1 := hB.cell 1
  simp at x1
  have HB := Lib.hid hB
  have HL := Lib.hid hL
  have HSr := Lib.hid hSr
  have HC := Lib.hid hC
  have HF := Lib.hid hF2
  clear hD2 hF2 hB hL hSr KS hC hgX hvX hn hm hvS
  go_wp2
  clear x1
  go_loopw [18] (fun kv wr => ∃ k : Nat, k ≤ m ∧ kv = .int .i64 k ∧ Blk wr D #[.slice (some ⟨gL, 0, none⟩) n cL, .slice A m c, vC, .bool off, .int .i64 cnt] 123 ∧ wr.ownsRow 0 9 1 (.slice (some ⟨gL, 0, none⟩) n cL) n (txc (overlay L (S.take k))) ∧ wr.ownsRow 0 141 2 (.slice A m c) m (scells S) ∧ CutAt wr XB vC ct ∧ Frm XB w wr) (fun kv _ => m - (intOf kv).toNat)
  case atStart => exact ⟨0, by omega, rfl, HB.out, by simpa [overlay] using HL.out, HSr.out, HC.out, HF.out⟩
  case round =>
    obtain ⟨k, hk, rfl, hB, hL, hSr, hC, hF⟩ := hrel
    by_cases hkm : k < m
    · have hkl : k < S.length := by have := HM.out; omega
      obtain ⟨g, c', hA, s0, s1⟩ := since_at hSr HM.out k hkl
      injection hA with hA1 _ hA3
      subst hA1 hA3
      obtain ⟨hq, _⟩ := HWR.out.2.1 _ (List.getElem_mem hkl)
      have HOT := Lib.hid (over_take L S k hkl)
      obtain ⟨z, hz⟩ : ∃ z, S[k].1 = z := ⟨_, rfl⟩
      obtain ⟨X, hX⟩ : ∃ X, mk S[k].2 = X := ⟨_, rfl⟩
      rw [hz] at s0 hq
      rw [hX] at s1
      have HZX := Lib.hid (And.intro hz hX)
      clear hz hX
      have HB := Lib.hid hB
      have HL := Lib.hid hL
      have HSr := Lib.hid hSr
      have HF := Lib.hid hF
      have HC := Lib.hid hC
      have k0 : (0 : Int) ≤ (k : Int) := by omega
      have k1 : (k : Int) < (m : Int) := by omega
      have z0 : (0 : Int) ≤ (z : Int) := by omega
      have z1 : (z : Int) < (n : Int) := by omega
      clear hB hL hSr hF hC
      go_wp2
      have hB1 := HB.out.alloc (.cells #[.int .i64 z, .string X] 141)
      have hL1 := World.ownsRow.alloc HL.out (.cells #[.int .i64 z, .string X] 141)
      have hS1 := World.ownsRow.alloc HSr.out (.cells #[.int .i64 z, .string X] 141)
      have hF1 := (HF.out.alloc (.cells #[.int .i64 z, .string X] 141)).drew
      have hC1 := (HC.out.alloc (.cells #[.int .i64 z, .string X] 141)).drew
      have hZ1 := Blk.new wr #[.int .i64 z, .string X] 141
      obtain ⟨Z, hZ⟩ : ∃ Z, wr.heap.size = Z := ⟨_, rfl⟩
      rw [hZ] at hZ1
      simp only [hZ]
      clear hZ
      refine wp_region_held (S := fun w' => Blk w' D #[.slice (some ⟨gL, 0, none⟩) n cL, .slice (some ⟨g, 0, none⟩) m c, vC, .bool off, .int .i64 cnt] 123 ∧ Blk w' Z #[.int .i64 z, .string X] 141) mixed ?_
      change wpAnyH _ _ _ _ _ _ _ _ (wr.alloc (.cells #[.int .i64 z, .string X] 141)).drew
      have hB2 : Blk (wr.alloc (.cells #[.int .i64 z, .string X] 141)).drew D #[.slice (some ⟨gL, 0, none⟩) n cL, .slice (some ⟨g, 0, none⟩) m c, vC, .bool off, .int .i64 cnt] 123 := hB1
      have hL2 : (wr.alloc (.cells #[.int .i64 z, .string X] 141)).drew.ownsRow 0 9 1 (.slice (some ⟨gL, 0, none⟩) n cL) n (txc (overlay L (S.take k))) := hL1
      have hS2 : (wr.alloc (.cells #[.int .i64 z, .string X] 141)).drew.ownsRow 0 141 2 (.slice (some ⟨g, 0, none⟩) m c) m (scells S) := hS1
      have hZ2 : Blk (wr.alloc (.cells #[.int .i64 z, .string X] 141)).drew Z #[.int .i64 z, .string X] 141 := hZ1
      obtain ⟨W, hW⟩ : ∃ u, (wr.alloc (.cells #[.int .i64 z, .string X] 141)).drew = u := ⟨_, rfl⟩
      rw [hW] at hB2 hL2 hS2 hZ2 hF1 hC1 ⊢
      clear hW hB1 hL1 hS1 hZ1 s0 s1
      have hS0 := And.intro hB2 hZ2
      refine wpAnyH_take (i := 0) (v := .pointer (some ⟨D, 0, none⟩)) rfl (by kernel_rfl) (by kernel_rfl) (by kernel_rfl) (fun c a w h => h) (.inl ⟨by kernel_rfl, fun w' hS => ?_⟩) hS0 ?_
      · clear hS; go_simp
      try go_simp
      refine wpAnyH_take (i := 1) (v := .pointer (some ⟨D, 0, none⟩)) rfl (by kernel_rfl) (by kernel_rfl) (by kernel_rfl) (fun c a w h => h) (.inl ⟨by kernel_rfl, fun w' hS => ?_⟩) hS0 ?_
      · clear hS; go_simp
      try go_simp
      refine wpAnyH_take (i := 2) (v := .pointer (some ⟨D, 0, none⟩)) rfl (by kernel_rfl) (by kernel_rfl) (by kernel_rfl) (fun c a w h => h) (.inl ⟨by kernel_rfl, fun w' hS => ?_⟩) hS0 ?_
      · clear hS; go_simp
      try go_simp
      refine wpAnyH_take (i := 3) (v := .slice (some ⟨gL, 0, none⟩) n cL) rfl (by kernel_rfl) (by kernel_rfl) (by kernel_rfl) (fun c a w h => h) (.inl ⟨by kernel_rfl, fun w' hS => ?_⟩) hS0 ?_
      · have q0 := hS.1.cell 0; simp at q0; go_simp
      try go_simp
      refine wpAnyH_take (i := 4) (v := .pointer (some ⟨Z, 0, none⟩)) rfl (by kernel_rfl) (by kernel_rfl) (by kernel_rfl) (fun c a w h => h) (.inl ⟨by kernel_rfl, fun w' hS => ?_⟩) hS0 ?_
      · clear hS; go_simp
      try go_simp
      refine wpAnyH_take (i := 5) (v := .int .i64 z) rfl (by kernel_rfl) (by kernel_rfl) (by kernel_rfl) (fun c a w h => h) (.inl ⟨by kernel_rfl, fun w' hS => ?_⟩) hS0 ?_
      · have q0 := hS.2.cell 0; simp at q0; go_simp
      try go_simp
      refine wpAnyH_take (i := 6) (v := .pointer (some ⟨Z, 1, none⟩)) rfl (by kernel_rfl) (by kernel_rfl) (by kernel_rfl) (fun c a w h => h) (.inl ⟨by kernel_rfl, fun w' hS => ?_⟩) hS0 ?_
      · clear hS; go_simp
      try go_simp
      refine wpAnyH_take (i := 7) (v := .string X) rfl (by kernel_rfl) (by kernel_rfl) (by kernel_rfl) (fun c a w h => h) (.inl ⟨by kernel_rfl, fun w' hS => ?_⟩) hS0 ?_
      · have q0 := hS.2.cell 1; simp at q0; go_simp
      try go_simp
      refine wpAnyH_take (i := 8) (v := .pointer (some ⟨gL, z, none⟩)) rfl (by kernel_rfl) (by kernel_rfl) (by kernel_rfl) (fun c a w h => h) (.inl ⟨by kernel_rfl, fun w' hS => ?_⟩) hS0 ?_
      · clear hS; go_simp
      try go_simp
      refine wpAnyH_all (rs := [9]) (by kernel_rfl) (by simp) ?_
      intro i hi
      simp only [List.mem_cons, List.not_mem_nil, or_false] at hi
      subst hi
      have hz63 : z < n := by omega
      have r0 := hL2.cellAt z (by omega)
      have f0 := hL2.frozenAt z
      rw [txc_at _ z (by rw [overlay_length, HLN.out]; exact hz63)] at r0
      unfold wpOp
      go_simp
      have hne : gL ≠ D := fun e => own_ne_blk hL2 hB2 (by decide) (by rw [e]; rfl)
      have hneZ : gL ≠ Z := fun e => own_ne_blk hL2 hZ2 (by decide) (by rw [e]; rfl)
      have hgr := grown_set W gL z (.string X)
      have hB3 := hB2.grown hgr (by simpa using hne)
      have hZ3 := hZ2.grown hgr (by simpa using hneZ)
      have hL3 := (World.ownsRow.stored hL2 z (.string X)).1
      have hS3 := hS2.kept hgr (by
        rcases row_ne_row hS2 hL2 (by decide) with e | e
        · exact .inl e
        · exact .inr e)
      have hF3 := hF1.setCell (p := ⟨gL, z, none⟩) (.inl HGD.out.2.2.2.1) (.string X)
      have hC3 := (by
        obtain ⟨cs, fr, hc⟩ := row_blk hL2
        exact hC1.set hc (by decide) (by decide) z (.string X) : CutAt (W.setCell ⟨gL, z, none⟩ (.string X)) XB vC ct)
      have hL4 : (W.setCell ⟨gL, z, none⟩ (.string X)).ownsRow 0 9 1 (.slice (some ⟨gL, 0, none⟩) n cL) n (txc (overlay L (S.take (k + 1)))) := by
        rw [HOT.out, txc_set, HZX.out.1, HZX.out.2]; exact hL3
      have HFN := Lib.hid (And.intro hB3 (And.intro hL4 (And.intro hS3 (And.intro hC3 hF3))))
      first | refine .inl ⟨⟨hB3, hZ3⟩, ?_⟩ | refine ⟨⟨hB3, hZ3⟩, ?_⟩
      refine wpAnyH_done (by kernel_rfl) ?_ _
      clear hB2 hL2 hS2 hZ2 hF1 hC1 hS0 r0 f0 hne hneZ hgr hB3 hZ3 hL3 hS3 hF3 hC3 hL4
      go_wp2
      go_roundw
      case rel => exact ⟨k + 1, by omega, by go_num, HFN.out⟩
      case measure => simp [intOf]; omega
    · obtain rfl : k = m := by omega
      have x1 := hB.cell 1
      have f1 := hB.frozen 1
      simp at x1
      have hB1 := hB.set 1 (.slice none 0 0)
      simp at hB1
      have hL1 := own_set hL hB (by decide) 1 (.slice none 0 0)
      have hF1 := hF.setCell (p := ⟨D, 1, none⟩) (.inl HGD.out.2.1) (.slice none 0 0)
      have hC1 := hC.set hB (by decide) (by decide) 1 (.slice none 0 0)
      rw [List.take_of_length_le (by rw [HM.out]; exact Nat.le_refl _)] at hL1
      have hon : (overlay L S).length = n := by rw [overlay_length, HLN.out]
      have HFN := Lib.hid (show Dsk (wr.setCell ⟨D, 1, none⟩ (.slice none 0 0)) XB D ⟨overlay L S, [], ct, off⟩ ∧ Frm XB w (wr.setCell ⟨D, 1, none⟩ (.slice none 0 0)) from
        ⟨⟨⟨gL, cL, .slice none 0 0, vC, cnt, by simp only [hon]; exact hB1, by simp only [hon]; exact hL1, World.ownsRow_nil _ _ _ _, hC1, HGD.out.2.2.2.1, fun g e => (by cases e)⟩,
          ⟨over_good n S L HWR.out.1 HWR.out.2.1, fun x hx => (by cases hx), by simp only [hon]; exact HWR.out.2.2⟩, HGD.out.2.1, fun x hx => Nat.lt_of_lt_of_le (HLT.out x hx) hF1.size⟩, hF1⟩)
      clear hB hL hSr hF hB1 hL1 hF1 hC hC1 hon
      go_wp2
      go_ret
      exact ⟨rfl, HFN.out⟩
end Go.Proofs.YtcmcdddnckcpcaaGreatDoor
