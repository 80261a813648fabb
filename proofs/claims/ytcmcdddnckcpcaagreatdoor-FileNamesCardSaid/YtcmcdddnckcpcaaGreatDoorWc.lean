/- wal.Commit, walked. -/
import Derived.Test.YtcmcdddnckcpcaaGreatDoorWo
namespace Go.Proofs.YtcmcdddnckcpcaaGreatDoor
open Go.RowKit
/-- Where the images stand. -/
def imgs (x : List (Nat × Bs)) (f : Nat) : List (Nat × Bs) := x.zipIdx.map fun c => (f + 1 + c.2, c.1.2)
theorem imgs_length (x : List (Nat × Bs)) (f : Nat) : (imgs x f).length = x.length := by simp [imgs]
theorem imgs_at (x : List (Nat × Bs)) (f k : Nat) (h : k < x.length) (h2 : k < (imgs x f).length) : (imgs x f)[k] = (f + 1 + k, x[k].2) := by simp [imgs]
/-- What Commit does. -/
def commitC (x : List (Nat × Bs)) (f : Nat) : List Cmd := (wrs (imgs x f) ++ [.sy]) ++ ([.wr f (headW x), .sy] ++ ((wrs x ++ [.sy]) ++ [.wr f [], .sy]))
def RunP (l : List Cmd) (X : List Nat) (D : Nat) (ds : DS) (w : World) (e : Ending) (w' : World) : Prop :=
  e = .returned (.int .i64 ((DS.run l ds).1 : Nat)) ∧ ∃ X', Dsk w' X' D (DS.run l ds).2 ∧ Mv X X' w w'
theorem TB.mv {w w' : World} {X Y : List Nat} (h : TB w) (hm : Mv X Y w w') (hw : 0 < w.heap.size) (h0 : 0 ∉ X) : TB w' ∧ 0 < w'.heap.size ∧ 0 ∉ Y :=
  ⟨fun k hk => (hm.frm.cell (p := ⟨0, k, none⟩) hw h0).trans (h k hk), Nat.lt_of_lt_of_le hw hm.size, hm.apart h0 hw⟩
set_option maxRecDepth 100000 in
set_option maxHeartbeats 4000000 in
theorem commit_any (X : List Nat) (D : Nat) (ds : DS) (b f s : Nat) (A : Option Addr) (cap : Nat) (x : List (Nat × Bs)) (w : World) (hD : Dsk w X D ds) (hW : WLog w b D f s) (hb : b ∉ X) (hA : Lies w A (scells x)) (hAX : ∀ a, A = some a → a.block ∉ X)
    (hx : ∀ c ∈ x, mayB ds.L.length f s c.1 = true ∧ c.2.length ≤ 512) (hn : x.length ≤ 64) (hn1 : 1 ≤ x.length) (hns : x.length < s) (hf : f + s ≤ ds.L.length) (hS : ds.S.length ≤ 980000) (hT : TB w) (hw : 0 < w.heap.size) (h0X : 0 ∉ X) :
    Calls Tryz.prog 90 #[.pointer (some ⟨b, 0, none⟩), .slice A x.length cap] w (RunP (commitC x f) X D ds w) := by
  have hsm := hD.good.small
  have hxm : ∀ c ∈ x, c.1 < ds.L.length ∧ c.2.length ≤ 512 := fun c hc => by
    have := (hx c hc).1
    unfold mayB at this
    simp only [Bool.and_eq_true, decide_eq_true_eq] at this
    exact ⟨this.1, (hx c hc).2⟩
  have hwrs := run_len (wrs (imgs x f)) ds
  rw [wrs_length, imgs_length] at hwrs
  unfold RunP
  have hcm : DS.run (commitC x f) ds = if (DS.run (wrs (imgs x f) ++ [.sy]) ds).1 = 0 then (if (DS.run [.wr f (headW x), .sy] (DS.run (wrs (imgs x f) ++ [.sy]) ds).2).1 = 0 then (if (DS.run (wrs x ++ [.sy]) (DS.run [.wr f (headW x), .sy] (DS.run (wrs (imgs x f) ++ [.sy]) ds).2).2).1 = 0 then DS.run [.wr f [], .sy] (DS.run (wrs x ++ [.sy]) (DS.run [.wr f (headW x), .sy] (DS.run (wrs (imgs x f) ++ [.sy]) ds).2).2).2 else DS.run (wrs x ++ [.sy]) (DS.run [.wr f (headW x), .sy] (DS.run (wrs (imgs x f) ++ [.sy]) ds).2).2) else DS.run [.wr f (headW x), .sy] (DS.run (wrs (imgs x f) ++ [.sy]) ds).2) else DS.run (wrs (imgs x f) ++ [.sy]) ds := by
    unfold commitC
    rw [run_append (wrs (imgs x f) ++ [Cmd.sy]) _ ds, run_append [Cmd.wr f (headW x), Cmd.sy], run_append (wrs x ++ [Cmd.sy])]
  have HNX := Lib.hid (fun k hk h0 => wrs_next (imgs x f) [.sy] ds k hk h0)
  have HAL := Lib.hid (wrs_all (imgs x f) ds)
  have HLN := Lib.hid (fun k => wrs_len (imgs x f) k ds)
  have hl1 := run_len (wrs (imgs x f) ++ [.sy]) ds
  rw [List.length_append, wrs_length, imgs_length] at hl1
  have hl2 := run_len [.wr f (headW x), .sy] (DS.run (wrs (imgs x f) ++ [.sy]) ds).2
  have hl3 := run_len (wrs x ++ [.sy]) (DS.run [.wr f (headW x), .sy] (DS.run (wrs (imgs x f) ++ [.sy]) ds).2).2
  rw [List.length_append, wrs_length] at hl3
  simp only [List.length_cons, List.length_nil] at hl1 hl2 hl3
  have hn2 := run_num (wrs (imgs x f) ++ [.sy]) ds
  have hfl : (headW x).length ≤ 512 := by rw [headW_length]; omega
  -- the parts
  have KSAY := fun (X1 : List Nat) (w1 : World) hD1 hW1 hb1 => say_any X1 D (DS.run (wrs (imgs x f) ++ [.sy]) ds).2 b f s (headW x) w1 hD1 hW1 hb1 (by rw [hl1.1]; omega) hfl (by omega)
  have KMAKE := fun (X1 : List Nat) (w1 : World) hD1 hW1 hb1 hA1 hX1 => make_any X1 D (DS.run [.wr f (headW x), .sy] (DS.run (wrs (imgs x f) ++ [.sy]) ds).2).2 b f s A cap x w1 hD1 hW1 hb1 hA1 hX1 (fun c hc => by rw [hl2.1, hl1.1]; exact hxm c hc) hn (by omega)
  have KEND := fun (X1 : List Nat) (w1 : World) hD1 hW1 hb1 => say_any X1 D (DS.run (wrs x ++ [.sy]) (DS.run [.wr f (headW x), .sy] (DS.run (wrs (imgs x f) ++ [.sy]) ds).2).2).2 b f s [] w1 hD1 hW1 hb1 (by rw [hl3.1, hl2.1, hl1.1]; omega) (by simp) (by omega)
  rw [show mk [] = ⟨#[]⟩ from rfl] at KEND
  -- their names
  obtain ⟨R, hR⟩ : ∃ q, DS.run (commitC x f) ds = q := ⟨_, rfl⟩
  rw [hR] at hcm ⊢
  obtain ⟨r1, hr1⟩ : ∃ q, DS.run (wrs (imgs x f) ++ [.sy]) ds = q := ⟨_, rfl⟩
  rw [hr1] at hcm hn2 HNX HAL
  simp only [hr1] at KSAY KMAKE KEND
  obtain ⟨n1, d1⟩ := r1
  dsimp only at KSAY KMAKE KEND hcm hn2
  have hn3 := run_num [.wr f (headW x), .sy] d1
  obtain ⟨r2, hr2⟩ : ∃ q, DS.run [.wr f (headW x), .sy] d1 = q := ⟨_, rfl⟩
  rw [hr2] at hcm hn3
  simp only [hr2] at KSAY KMAKE KEND
  obtain ⟨n2, d2⟩ := r2
  dsimp only at KSAY KMAKE KEND hcm hn3
  have hn4 := run_num (wrs x ++ [.sy]) d2
  obtain ⟨r3, hr3⟩ : ∃ q, DS.run (wrs x ++ [.sy]) d2 = q := ⟨_, rfl⟩
  rw [hr3] at hcm hn4
  simp only [hr3] at KMAKE KEND
  obtain ⟨n3, d3⟩ := r3
  dsimp only at KMAKE KEND hcm hn4
  obtain ⟨r4, hr4⟩ : ∃ q, DS.run [.wr f [], .sy] d3 = q := ⟨_, rfl⟩
  rw [hr4] at hcm
  simp only [hr4] at KEND
  obtain ⟨n4, d4⟩ := r4
  dsimp only at KEND
  have HX := Lib.hid hx
  have HXM := Lib.hid hxm
  have HSZ := Lib.hid (And.intro hn hf)
  have HSL := Lib.hid hS
  have KH := fun (w1 : World) (hA1 : Lies w1 A (scells x)) (hT1 : TB w1) (hw1 : 0 < w1.heap.size) => whead_any A cap x w1 hA1 hn (fun c hc => ⟨by have := (hxm c hc).1; omega, (hxm c hc).2⟩) hT1 hw1
  obtain ⟨HS, hHS⟩ : ∃ q, mk (headW x) = q := ⟨_, rfl⟩
  simp only [hHS] at KH KSAY
  have HA := Lib.hid (And.intro hA hAX)
  have HWB := Lib.hid (And.intro hW hb)
  have HD := Lib.hid hD
  have HTW := Lib.hid (And.intro hT (And.intro hw h0X))
  have KMO := most_any b D f s w hW (by omega)
  obtain ⟨s1, hs1⟩ : ∃ q, s - 1 = q := ⟨_, rfl⟩
  rw [hs1] at KMO
  obtain ⟨n, hnn⟩ : ∃ q, x.length = q := ⟨_, rfl⟩
  rw [hnn] at hn hn1 hns
  simp only [hnn] at KMAKE KH
  rw [hnn]
  have HN := Lib.hid hnn
  have b0 : ¬ ((s1 : Int) < (n : Int)) := by omega
  have b0n : ¬ (s1 < n) := by omega
  have b1 : ¬ ((n : Int) = 0) := by omega
  have b1b : ((n : Int) == 0) = false := by simp; omega
  have b2 : ¬ (n = 0) := by omega
  have hfb : f ≤ 5000 := by omega
  have hsb : s ≤ 5000 := by omega
  have mixed : Tryz.prog.follows Departure.mixedOrders = true := by kernel_rfl
  clear hD hW hb hA hAX hx hxm hf hS hT hw h0X hsm hwrs hl1 hl2 hl3 hfl hR hr1 hr2 hr3 hr4 hHS hs1 hnn
  go_enter Tryz.func90, Tryz.ntmps90
  go_wp2_with (go_at_call 115; refine KMO.mono ?_; rintro e w1 ⟨rfl, hw⟩; obtain rfl := hw.symm)
  go_loopw [29] (fun i wr => ∃ k : Nat, k ≤ n ∧ i = .int .i64 k ∧ Below w.heap.size w wr) (fun i _ => n - (intOf i).toNat)
  case atStart => exact ⟨0, Nat.zero_le _, rfl, Below.refl _ _⟩
  case round =>
    obtain ⟨k, hk, rfl, hb⟩ := hrel
    by_cases hlt : k < n
    · have hkl : k < x.length := by rw [HN.out]; exact hlt
      obtain ⟨g, off, rfl, hgl, hcs⟩ := HA.out.1 (by rw [scells_length]; omega)
      obtain ⟨s0, s1'⟩ := scells_at x k hkl
      have d0 := (hb.cell (p := ⟨g, off + k * 2, none⟩) hgl).trans (hcs _ _ s0)
      have d1' := (hb.cell (p := ⟨g, off + (k * 2 + 1), none⟩) hgl).trans (hcs _ _ s1')
      have hgr : g < wr.heap.size := Nat.lt_of_lt_of_le hgl hb.size
      obtain ⟨hm, hq⟩ := HX.out x[k] (List.getElem_mem hkl)
      obtain ⟨z, hz⟩ : ∃ z, x[k].1 = z := ⟨_, rfl⟩
      obtain ⟨y, hy⟩ : ∃ z, x[k].2 = z := ⟨_, rfl⟩
      rw [hz] at d0 hm
      rw [hy, ← Nat.add_assoc] at d1'
      rw [hy] at hq
      have zy := mk_size y
      obtain ⟨Y, hY⟩ : ∃ z, mk y = z := ⟨_, rfl⟩
      obtain ⟨yl, hyl⟩ : ∃ z, y.length = z := ⟨_, rfl⟩
      rw [hY, hyl] at zy
      rw [hY] at d1'
      rw [hyl] at hq
      have hbw2 := hb.alloc hb.size (.cells #[.int .i64 z, .string Y] 156)
      have KY := may_any X D ds b f s z (wr.alloc (.cells #[.int .i64 z, .string Y] 156)) (HD.out.below hbw2) (HWB.out.1.below hbw2) (by omega) (by omega)
      rw [hm] at KY
      have hqq : ¬ ((512 : Int) < (yl : Int)) := by omega
      have hqn : ¬ (512 < yl) := by omega
      have HBW := Lib.hid hbw2
      have k0 : (0 : Int) ≤ (k : Int) := by omega
      have k1 : (k : Int) < (n : Int) := by omega
      clear hb hbw2 hcs hz hy hY hyl s0 s1' hm hq hkl
      go_wp2_with (go_at_call 116; refine KY.mono ?_; rintro e w1 ⟨rfl, q, rfl⟩)
      go_roundw
      case rel => exact ⟨k + 1, by omega, by go_num, bdN HBW.out _⟩
      case measure => simp [intOf]; omega
    · obtain rfl : n = k := by omega
      have HB0 := Lib.hid hb
      clear hb hlt
      rename World => wA
      go_wp2
      go_loopw [47] (fun i wr => ∃ k : Nat, k ≤ n ∧ i = .int .i64 k ∧ (DS.run (wrs ((imgs x f).take k)) ds).1 = 0 ∧ ∃ X', Dsk wr X' D (DS.run (wrs ((imgs x f).take k)) ds).2 ∧ Mv X X' w wr) (fun i _ => n - (intOf i).toNat)
      case atStart => exact ⟨0, Nat.zero_le _, rfl, rfl, X, HD.out.below HB0.out, Mv.of_below _ HB0.out⟩
      case round =>
        obtain ⟨k, hk, rfl, h0, X1, hD1, hM1⟩ := hrel
        by_cases hlt : k < n
        · have hkl : k < x.length := by rw [HN.out]; exact hlt
          have hki : k < (imgs x f).length := by rw [imgs_length]; exact hkl
          have hat := imgs_at x f k hkl hki
          obtain ⟨g, off, rfl, hgl, hcs⟩ := HA.out.1 (by rw [scells_length]; omega)
          obtain ⟨s0, s1'⟩ := scells_at x k hkl
          have hgX : g ∉ X := HA.out.2 _ rfl
          have d0 := (hM1.frm.cell (p := ⟨g, off + k * 2, none⟩) hgl hgX).trans (hcs _ _ s0)
          have d1' := (hM1.frm.cell (p := ⟨g, off + (k * 2 + 1), none⟩) hgl hgX).trans (hcs _ _ s1')
          have hgr : g < wr.heap.size := Nat.lt_of_lt_of_le hgl hM1.size
          have hq := (HX.out x[k] (List.getElem_mem hkl)).2
          obtain ⟨hnx, hst⟩ := HNX.out k hki h0
          obtain ⟨hl1, hl2⟩ := HLN.out k
          rw [hat] at hnx hst
          have HRK := Lib.hid hnx
          have HST := Lib.hid hst
          obtain ⟨dk, hdk⟩ : ∃ q, (DS.run (wrs ((imgs x f).take k)) ds).2 = q := ⟨_, rfl⟩
          rw [hdk] at hD1 HRK HST hl1 hl2
          obtain ⟨z, hz⟩ : ∃ z, x[k].1 = z := ⟨_, rfl⟩
          obtain ⟨y, hy⟩ : ∃ z, x[k].2 = z := ⟨_, rfl⟩
          rw [hz] at d0
          rw [hy, ← Nat.add_assoc] at d1'
          rw [hy] at hq HRK HST
          dsimp only at HRK HST
          have hW1 := hM1.blk HWB.out.1 HWB.out.2
          have hbX1 := hM1.apart HWB.out.2 (Blk.lt HWB.out.1)
          have hnum := write_num dk (f + 1 + k) y
          obtain ⟨Y, hY⟩ : ∃ q, mk y = q := ⟨_, rfl⟩
          rw [hY] at d1'
          have hD2 := (hD1.below (below_alloc wr (.cells #[.int .i64 z, .string Y] 156))).drew
          have hsz := HSZ.out
          have hsl := HSL.out
          have KW := write_any X1 D dk (f + 1 + k) y _ hD2 (by omega) hq (by omega)
          rw [hY, show ((f + 1 + k : Nat) : Int) = (f : Int) + 1 + (k : Int) by omega] at KW
          obtain ⟨d1p, hd1p⟩ : ∃ q, dk.write (f + 1 + k) y = q := ⟨_, rfl⟩
          rw [hd1p] at KW hnum HRK HST
          obtain ⟨num, dn⟩ := d1p
          dsimp only at KW hnum HST
          have HM1 := Lib.hid hM1
          have HLT := Lib.hid hD1.lt
          have k0 : (0 : Int) ≤ (k : Int) := by omega
          have k1 : (k : Int) < (n : Int) := by omega
          have w1 : IntKind.i64.wrap ((f : Int) + 1) = (f : Int) + 1 := by rw [Go.IntWalk.i64_left, Go.IntWalk.wrap64_in _ (by omega)]
          have w2 : IntKind.i64.wrap ((f : Int) + 1 + (k : Int)) = (f : Int) + 1 + (k : Int) := by rw [Go.IntWalk.i64_left, Go.IntWalk.wrap64_in _ (by omega)]
          have HW1 := Lib.hid w1
          have HW2 := Lib.hid w2
          clear hnx hst hdk hz hy hD1 hM1 hcs s0 s1' hq hl1 hl2 hY hD2 hd1p h0 hgX hkl hki hat hsz hsl w1 w2
          go_wp2
          have hW2 : WLog (wr.alloc (.cells #[.int .i64 z, .string Y] 156)).drew b D f s := Blk.alloc hW1 _
          have hZ1 := Blk.new wr #[.int .i64 z, .string Y] 156
          have hA2 := ((below_alloc wr (.cells #[.int .i64 z, .string Y] 156))).drew
          obtain ⟨V, hV⟩ : ∃ V, wr.heap.size = V := ⟨_, rfl⟩
          rw [hV] at hZ1
          simp only [hV]
          refine wp_region_held (S := fun w' => WLog w' b D f s ∧ Blk w' V #[.int .i64 z, .string Y] 156) mixed ?_
          change wpAnyH _ _ _ _ _ _ _ _ (wr.alloc (.cells #[.int .i64 z, .string Y] 156)).drew
          have hZ2 : Blk (wr.alloc (.cells #[.int .i64 z, .string Y] 156)).drew V _ 156 := hZ1
          obtain ⟨W, hWW⟩ : ∃ u, (wr.alloc (.cells #[.int .i64 z, .string Y] 156)).drew = u := ⟨_, rfl⟩
          rw [hWW] at hZ2 hA2 hW2 KW ⊢
          have HV := Lib.hid hV
          have hVX : V ∉ X1 := fun hx => by have := HLT.out V hx; have := HV.out; omega
          clear hWW hZ1 d0 d1' hV
          have hS0 := And.intro hW2 hZ2
          refine wpAnyH_take (i := 0) (v := .pointer (some ⟨b, 0, none⟩)) rfl (by kernel_rfl) (by kernel_rfl) (by kernel_rfl) (fun c a w h => h) (.inl ⟨by kernel_rfl, fun w' hS => ?_⟩) hS0 ?_
          · clear hS; go_simp
          try go_simp
          refine wpAnyH_take (i := 1) (v := .pointer (some ⟨b, 0, none⟩)) rfl (by kernel_rfl) (by kernel_rfl) (by kernel_rfl) (fun c a w h => h) (.inl ⟨by kernel_rfl, fun w' hS => ?_⟩) hS0 ?_
          · clear hS; go_simp
          try go_simp
          refine wpAnyH_take (i := 2) (v := .pointer (some ⟨b, 0, none⟩)) rfl (by kernel_rfl) (by kernel_rfl) (by kernel_rfl) (fun c a w h => h) (.inl ⟨by kernel_rfl, fun w' hS => ?_⟩) hS0 ?_
          · clear hS; go_simp
          try go_simp
          refine wpAnyH_take (i := 3) (v := .pointer (some ⟨D, 0, none⟩)) rfl (by kernel_rfl) (by kernel_rfl) (by kernel_rfl) (fun c a w h => h) (.inl ⟨by kernel_rfl, fun w' hS => ?_⟩) hS0 ?_
          · have q0 := Blk.cell hS.1 0; simp at q0; go_simp
          try go_simp
          refine wpAnyH_take (i := 4) (v := .pointer (some ⟨b, 0, none⟩)) rfl (by kernel_rfl) (by kernel_rfl) (by kernel_rfl) (fun c a w h => h) (.inl ⟨by kernel_rfl, fun w' hS => ?_⟩) hS0 ?_
          · clear hS; go_simp
          try go_simp
          refine wpAnyH_take (i := 5) (v := .pointer (some ⟨b, 0, none⟩)) rfl (by kernel_rfl) (by kernel_rfl) (by kernel_rfl) (fun c a w h => h) (.inl ⟨by kernel_rfl, fun w' hS => ?_⟩) hS0 ?_
          · clear hS; go_simp
          try go_simp
          refine wpAnyH_take (i := 6) (v := .pointer (some ⟨b, 1, none⟩)) rfl (by kernel_rfl) (by kernel_rfl) (by kernel_rfl) (fun c a w h => h) (.inl ⟨by kernel_rfl, fun w' hS => ?_⟩) hS0 ?_
          · clear hS; go_simp
          try go_simp
          refine wpAnyH_take (i := 7) (v := .int .i64 (f : Int)) rfl (by kernel_rfl) (by kernel_rfl) (by kernel_rfl) (fun c a w h => h) (.inl ⟨by kernel_rfl, fun w' hS => ?_⟩) hS0 ?_
          · have q0 := Blk.cell hS.1 1; simp at q0; go_simp
          try go_simp
          refine wpAnyH_take (i := 8) (v := .int .i64 ((f : Int) + 1)) rfl (by kernel_rfl) (by kernel_rfl) (by kernel_rfl) (fun c a w h => h) (.inl ⟨by kernel_rfl, fun w' hS => ?_⟩) hS0 ?_
          · clear hS; have w1 := HW1.out; go_simp
          try go_simp
          refine wpAnyH_take (i := 9) (v := .int .i64 (k : Int)) rfl (by kernel_rfl) (by kernel_rfl) (by kernel_rfl) (fun c a w h => h) (.inl ⟨by kernel_rfl, fun w' hS => ?_⟩) hS0 ?_
          · clear hS; go_simp
          try go_simp
          refine wpAnyH_take (i := 10) (v := .int .i64 ((f : Int) + 1 + (k : Int))) rfl (by kernel_rfl) (by kernel_rfl) (by kernel_rfl) (fun c a w h => h) (.inl ⟨by kernel_rfl, fun w' hS => ?_⟩) hS0 ?_
          · clear hS; have w2 := HW2.out; go_simp
          try go_simp
          refine wpAnyH_take (i := 11) (v := .pointer (some ⟨V, 1, none⟩)) rfl (by kernel_rfl) (by kernel_rfl) (by kernel_rfl) (fun c a w h => h) (.inl ⟨by kernel_rfl, fun w' hS => ?_⟩) hS0 ?_
          · clear hS; go_simp
          try go_simp
          refine wpAnyH_take (i := 12) (v := .string Y) rfl (by kernel_rfl) (by kernel_rfl) (by kernel_rfl) (fun c a w h => h) (.inl ⟨by kernel_rfl, fun w' hS => ?_⟩) hS0 ?_
          · have q0 := Blk.cell hS.2 1; simp at q0; go_simp
          try go_simp
          refine wpAnyH_all (rs := [13]) (by kernel_rfl) (by simp) ?_
          intro i hi
          simp only [List.mem_cons, List.not_mem_nil, or_false] at hi
          subst hi
          unfold wpOp
          go_simp
          refine .inl ?_
          go_at_call 56
          refine KW.mono ?_
          rintro e W1 ⟨rfl, X2, hD3, hM2⟩
          have hS1 : WLog W1 b D f s ∧ Blk W1 V #[.int .i64 z, .string Y] 156 := ⟨hM2.blk hW2 hbX1, hM2.blk hZ2 hVX⟩
          refine ⟨hS1, ?_⟩
          rcases hnum with rfl | rfl
          ·
            refine wpAnyH_take (i := 14) (v := .int .i64 0) rfl (by kernel_rfl) (by kernel_rfl) (by kernel_rfl) (fun c a w h => h) (.inl ⟨by kernel_rfl, fun w' hS => ?_⟩) hS1 ?_
            · clear hS; go_simp
            try go_simp
            refine wpAnyH_done (by kernel_rfl) ?_ _
            have HD3 := Lib.hid hD3
            have HMF := Lib.hid (HM1.out.trans ((Mv.of_below X1 hA2).trans hM2))
            clear hW2 hZ2 hS0 hS1 hD3 hM2 hA2 KW hW1 hVX HST
            go_wp2
            go_roundw
            case rel => exact ⟨k + 1, by omega, by go_num, by rw [HRK.out], X2, by rw [HRK.out]; exact HD3.out, HMF.out⟩
            case measure => simp [intOf]; omega
          ·
            refine wpAnyH_take (i := 14) (v := .int .i64 7) rfl (by kernel_rfl) (by kernel_rfl) (by kernel_rfl) (fun c a w h => h) (.inl ⟨by kernel_rfl, fun w' hS => ?_⟩) hS1 ?_
            · clear hS; go_simp
            try go_simp
            refine wpAnyH_done (by kernel_rfl) ?_ _
            have HD3 := Lib.hid hD3
            have HMF := Lib.hid (HM1.out.trans ((Mv.of_below X1 hA2).trans hM2))
            have h7 := HST.out (by decide)
            injection h7 with h71 h72
            subst h71 h72
            rw [if_neg (by decide)] at hcm
            subst hcm
            clear hW2 hZ2 hS0 hS1 hD3 hM2 hA2 KW hW1 hVX HST
            go_wp2
            go_ret
            exact ⟨rfl, X2, HD3.out, HMF.out⟩
        · obtain rfl : n = k := by omega
          have hil : (imgs x f).length = n := by rw [imgs_length]; exact HN.out
          have hal := HAL.out (by rw [hil]; exact h0)
          rw [hil] at hal
          obtain ⟨dk, hdk⟩ : ∃ q, (DS.run (wrs ((imgs x f).take n)) ds).2 = q := ⟨_, rfl⟩
          rw [hdk] at hD1 hal
          have KS := sync_any X1 D dk wr hD1
          rw [← hal] at KS
          dsimp only at KS
          have hW1 := hM1.blk HWB.out.1 HWB.out.2
          have hbX1 := hM1.apart HWB.out.2 (Blk.lt HWB.out.1)
          have hbl := Blk.lt hW1
          have hLA := hM1.lies HA.out.1 HA.out.2
          have hAX1 : ∀ a, A = some a → a.block ∉ X1 ∧ a.block < wr.heap.size := fun a ha => by
            obtain ⟨g, o, hA, hg, _⟩ := HA.out.1 (by rw [scells_length, HN.out]; omega)
            rw [ha] at hA
            cases hA
            exact ⟨hM1.apart (HA.out.2 _ ha) hg, Nat.lt_of_lt_of_le hg hM1.size⟩
          have x0 := Blk.cell hW1 0
          simp at x0
          have HM := Lib.hid hM1
          have HW1 := Lib.hid (And.intro hW1 hbX1)
          have HLA := Lib.hid (And.intro hLA hAX1)
          clear hM1 hD1 hW1 hbX1 hLA hAX1 hal hdk h0 hil HNX HAL HLN
          rcases hn2 with rfl | rfl
          case inr =>
            rw [if_neg (by decide)] at hcm
            subst hcm
            go_wp2_with (go_at_call 57; refine KS.mono ?_; rintro e W2 ⟨rfl, hD2, hF2⟩)
            go_ret
            exact ⟨rfl, X1, hD2, HM.out.trans (.of_frm hF2)⟩
          rw [if_pos rfl] at hcm
          go_upto_region 19 with (go_at_call 57; refine KS.mono ?_; rintro e W2 ⟨rfl, hD2, hF2⟩)
          have hMF := HM.out.trans (.of_frm hF2)
          have hT2 := HTW.out.1.mv hMF HTW.out.2.1 HTW.out.2.2
          have hm2 : Mv X1 X1 wr W2 := .of_frm hF2
          have hLA2 := hm2.lies HLA.out.1 (fun a ha => (HLA.out.2 a ha).1)
          have K117 := KH W2 hLA2 hT2.1 hT2.2.1
          have HW2 := Lib.hid (And.intro (show WLog W2 b D f s from hm2.blk HW1.out.1 HW1.out.2) HW1.out.2)
          have K98 := fun (w3 : World) (hb3 : Below W2.heap.size W2 w3) => KSAY X1 w3 (hD2.below hb3) (Blk.below HW2.out.1 hb3) HW2.out.2
          have HSZ2 := Lib.hid hm2.size
          have HMF := Lib.hid hMF
          have HLA2 := Lib.hid hLA2
          clear hMF hT2 hm2 hLA2 hD2 hF2 KH KSAY KS
          rcases hn3 with rfl | rfl
          case inr =>
            rw [if_neg (by decide)] at hcm
            subst hcm
            go_wp2_with (first
              | (go_at_call 117; refine K117.mono ?_; rintro e w3 ⟨rfl, hb3⟩; have K := K98 w3 hb3; have HB3 := Lib.hid hb3; clear hb3 K98 K117)
              | (go_at_call 98; refine K.mono ?_; rintro e w4 ⟨rfl, X2, hD4, hM4⟩))
            go_ret
            exact ⟨rfl, X2, hD4, (HMF.out.below HB3.out).trans hM4⟩
          rw [if_pos rfl] at hcm
          go_upto_region 22 with (first
              | (go_at_call 117; refine K117.mono ?_; rintro e w3 ⟨rfl, hb3⟩; have K := K98 w3 hb3; have HB3 := Lib.hid hb3; clear hb3 K98 K117)
              | (go_at_call 98; refine K.mono ?_; rintro e w4 ⟨rfl, X2, hD4, hM4⟩))
          have hM24 := (Mv.of_below X1 HB3.out).trans hM4
          have hW4 : WLog w4 b D f s := hM24.blk HW2.out.1 HW2.out.2
          have hbX2 := hM24.apart HW2.out.2 (Blk.lt HW2.out.1)
          have hmF := HMF.out.trans hM24
          have hLA4 := hM24.lies HLA2.out (fun a ha => (HLA.out.2 a ha).1)
          have hAX2 : ∀ a, A = some a → a.block ∉ X2 := fun a ha => hM24.apart (HLA.out.2 a ha).1 (Nat.lt_of_lt_of_le (HLA.out.2 a ha).2 HSZ2.out)
          have K97 := KMAKE X2 w4 hD4 hW4 hbX2 hLA4 hAX2
          have HW4 := Lib.hid (And.intro hW4 hbX2)
          have HMF4 := Lib.hid hmF
          clear hM24 hW4 hbX2 hmF hLA4 hAX2 hD4 hM4 KMAKE K
          rcases hn4 with rfl | rfl
          case inr =>
            rw [if_neg (by decide)] at hcm
            subst hcm
            go_wp2_with (go_at_call 97; refine K97.mono ?_; rintro e w5 ⟨rfl, X3, hD5, hM5⟩)
            go_ret
            exact ⟨rfl, X3, hD5, HMF4.out.trans hM5⟩
          rw [if_pos rfl] at hcm
          subst hcm
          go_wp2_with (first
            | (go_at_call 97; refine K97.mono ?_; rintro e w5 ⟨rfl, X3, hD5, hM5⟩; have K6 := KEND X3 w5 hD5 (hM5.blk HW4.out.1 HW4.out.2) (hM5.apart HW4.out.2 (Blk.lt HW4.out.1)); have HM5 := Lib.hid hM5; clear hD5 hM5 K97 KEND)
            | (go_at_call 98; refine K6.mono ?_; rintro e w6 ⟨rfl, X4, hD6, hM6⟩))
          go_ret
          exact ⟨rfl, X4, hD6, (HMF4.out.trans HM5.out).trans hM6⟩
end Go.Proofs.YtcmcdddnckcpcaaGreatDoor
