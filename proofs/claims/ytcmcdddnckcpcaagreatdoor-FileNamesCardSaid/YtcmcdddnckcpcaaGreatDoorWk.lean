/- wal: make, walked. -/
import Derived.Test.YtcmcdddnckcpcaaGreatDoorWs
namespace Go.Proofs.YtcmcdddnckcpcaaGreatDoor
open Go.RowKit
def wrs (x : List (Nat × Bs)) : List Cmd := x.map fun c => .wr c.1 c.2
theorem wrs_snoc (x : List (Nat × Bs)) (k : Nat) (h : k < x.length) : wrs (x.take (k + 1)) = wrs (x.take k) ++ [.wr x[k].1 x[k].2] := by
  unfold wrs; rw [List.take_succ_eq_append_getElem h, List.map_append]; rfl
theorem wrs_split (x : List (Nat × Bs)) (k : Nat) : wrs x = wrs (x.take k) ++ wrs (x.drop k) := by unfold wrs; rw [← List.map_append, List.take_append_drop]
theorem wrs_length (x : List (Nat × Bs)) : (wrs x).length = x.length := by simp [wrs]
/-- Behind k writes of commands that are done: what the next one does, and what comes of all. -/
theorem wrs_next (x : List (Nat × Bs)) (l : List Cmd) (ds : DS) (k : Nat) (h : k < x.length) (h0 : (DS.run (wrs (x.take k)) ds).1 = 0) :
    DS.run (wrs (x.take (k + 1))) ds = (DS.run (wrs (x.take k)) ds).2.write x[k].1 x[k].2 ∧ (((DS.run (wrs (x.take k)) ds).2.write x[k].1 x[k].2).1 ≠ 0 → DS.run (wrs x ++ l) ds = (DS.run (wrs (x.take k)) ds).2.write x[k].1 x[k].2) := by
  have e : DS.run (wrs (x.take (k + 1))) ds = (DS.run (wrs (x.take k)) ds).2.write x[k].1 x[k].2 := by rw [wrs_snoc x k h, run_snoc _ _ _ h0]; rfl
  refine ⟨e, fun h1 => ?_⟩
  rw [wrs_split x (k + 1), List.append_assoc, run_stop _ _ _ (by rw [e]; exact h1), e]
theorem wrs_all (x : List (Nat × Bs)) (ds : DS) (h0 : (DS.run (wrs (x.take x.length)) ds).1 = 0) : DS.run (wrs x ++ [.sy]) ds = (DS.run (wrs (x.take x.length)) ds).2.sync := by
  rw [List.take_of_length_le (Nat.le_refl _)] at h0 ⊢
  rw [run_snoc _ _ _ h0]; rfl
theorem wrs_len (x : List (Nat × Bs)) (k : Nat) (ds : DS) : (DS.run (wrs (x.take k)) ds).2.L.length = ds.L.length ∧ (DS.run (wrs (x.take k)) ds).2.S.length ≤ ds.S.length + k := by
  have := run_len (wrs (x.take k)) ds
  rw [wrs_length, List.length_take] at this
  exact ⟨this.1, by omega⟩
theorem Mv.lies {X Y : List Nat} {w w' : World} (h : Mv X Y w w') {A : Option Addr} {xs : List Value} (hl : Lies w A xs) (hx : ∀ a, A = some a → a.block ∉ X) : Lies w' A xs := h.frm.lies hl hx
theorem Dsk.drew {X : List Nat} {w : World} {D : Nat} {d : DS} (h : Dsk w X D d) : Dsk w.drew X D d := h.frm (Y := []) (Frm.refl _ w).drew (fun _ _ => by simp)
theorem Mv.of_drew {X Y : List Nat} {w w' : World} (h : Mv X Y w.drew w') : Mv X Y w w' := ⟨⟨h.frm.os, h.frm.tape, h.frm.output, h.frm.size, h.frm.block⟩, h.sub⟩
set_option maxRecDepth 100000 in
set_option maxHeartbeats 1000000 in
theorem make_any (X : List Nat) (D : Nat) (ds : DS) (b f s : Nat) (A : Option Addr) (cap : Nat) (x : List (Nat × Bs)) (w : World) (hD : Dsk w X D ds) (hW : WLog w b D f s) (hb : b ∉ X) (hA : Lies w A (scells x)) (hAX : ∀ a, A = some a → a.block ∉ X)
    (hx : ∀ c ∈ x, c.1 < ds.L.length ∧ c.2.length ≤ 512) (hn : x.length ≤ 64) (hS : ds.S.length ≤ 999000) :
    Calls Tryz.prog 97 #[.pointer (some ⟨b, 0, none⟩), .slice A x.length cap] w fun e w' => e = .returned (.int .i64 ((DS.run (wrs x ++ [.sy]) ds).1 : Nat)) ∧ ∃ X', Dsk w' X' D (DS.run (wrs x ++ [.sy]) ds).2 ∧ Mv X X' w w' := by
  have HNX := Lib.hid (fun k hk h0 => wrs_next x [.sy] ds k hk h0)
  have HAL := Lib.hid (wrs_all x ds)
  have HLN := Lib.hid (fun k => wrs_len x k ds)
  obtain ⟨R, hR⟩ : ∃ q, DS.run (wrs x ++ [.sy]) ds = q := ⟨_, rfl⟩
  rw [hR] at HNX HAL ⊢
  have HX := Lib.hid hx
  have HAX := Lib.hid hAX
  obtain ⟨n, hnn⟩ : ∃ n, x.length = n := ⟨_, rfl⟩
  rw [hnn] at hn HAL ⊢
  have HN := Lib.hid hnn
  have HL := Lib.hid hA
  have HBX := Lib.hid hb
  have HW := Lib.hid hW
  have HD := Lib.hid hD
  have mixed : Tryz.prog.follows Departure.mixedOrders = true := by kernel_rfl
  clear hD hW hb hA hAX hx hnn hR
  go_enter Tryz.func97, Tryz.ntmps97
  go_wp2
  go_loopw [10] (fun i wr => ∃ k : Nat, k ≤ n ∧ i = .int .i64 k ∧ (DS.run (wrs (x.take k)) ds).1 = 0 ∧ ∃ X', Dsk wr X' D (DS.run (wrs (x.take k)) ds).2 ∧ Mv X X' w wr) (fun i _ => n - (intOf i).toNat)
  case atStart => exact ⟨0, Nat.zero_le _, rfl, rfl, X, HD.out, Mv.refl _ _⟩
  case round =>
    obtain ⟨k, hk, rfl, h0, X1, hD1, hM1⟩ := hrel
    have hsz := hM1.size
    by_cases hlt : k < n
    · have hkl : k < x.length := by rw [HN.out]; exact hlt
      obtain ⟨g, off, rfl, hgl, hcs⟩ := HL.out (by rw [scells_length]; omega)
      obtain ⟨s0, s1⟩ := scells_at x k hkl
      have hgX : g ∉ X := HAX.out _ rfl
      have d0 := (hM1.frm.cell (p := ⟨g, off + k * 2, none⟩) hgl hgX).trans (hcs _ _ s0)
      have d1 := (hM1.frm.cell (p := ⟨g, off + (k * 2 + 1), none⟩) hgl hgX).trans (hcs _ _ s1)
      have hgr : g < wr.heap.size := by omega
      obtain ⟨hq1, hq2⟩ := HX.out x[k] (List.getElem_mem hkl)
      obtain ⟨hnx, hst⟩ := HNX.out k hkl h0
      obtain ⟨hl1, hl2⟩ := HLN.out k
      have HRK := Lib.hid hnx
      have HST := Lib.hid hst
      obtain ⟨dk, hdk⟩ : ∃ q, (DS.run (wrs (x.take k)) ds).2 = q := ⟨_, rfl⟩
      rw [hdk] at hD1 HRK HST hl1 hl2
      obtain ⟨z, hz⟩ : ∃ z, x[k].1 = z := ⟨_, rfl⟩
      obtain ⟨y, hy⟩ : ∃ z, x[k].2 = z := ⟨_, rfl⟩
      rw [hz] at d0 hq1 HRK HST
      rw [hy, ← Nat.add_assoc] at d1
      rw [hy] at hq2 HRK HST
      have hW1 := hM1.blk HW.out HBX.out
      have hbX1 := hM1.apart HBX.out (Blk.lt HW.out)
      have hnum := write_num dk z y
      obtain ⟨Y, hY⟩ : ∃ q, mk y = q := ⟨_, rfl⟩
      rw [hY] at d1
      have hD2 := (hD1.below (below_alloc wr (.cells #[.int .i64 z, .string Y] 156))).drew
      have KW := write_any X1 D dk z y _ hD2 (by omega) hq2 (by omega)
      rw [hY] at KW
      obtain ⟨d1p, hd1p⟩ : ∃ q, dk.write z y = q := ⟨_, rfl⟩
      rw [hd1p] at KW hnum HRK HST
      obtain ⟨num, d2⟩ := d1p
      dsimp only at KW hnum HST
      have HM1 := Lib.hid hM1
      have HLT := Lib.hid hD1.lt
      have k0 : (0 : Int) ≤ (k : Int) := by omega
      have k1 : (k : Int) < (n : Int) := by omega
      clear hnx hst hdk hz hy hD1 hM1 hcs s0 s1 hq1 hq2 hl1 hl2 hY hD2 hd1p h0 hgX hkl
      go_wp2
      have hW2 : WLog (wr.alloc (.cells #[.int .i64 z, .string Y] 156)).drew b D f s := Blk.alloc hW1 _
      have hZ1 := Blk.new wr #[.int .i64 z, .string Y] 156
      have hA2 := ((below_alloc wr (.cells #[.int .i64 z, .string Y] 156))).drew
      obtain ⟨V, hV⟩ : ∃ V, wr.heap.size = V := ⟨_, rfl⟩
      rw [hV] at hZ1
      simp only [hV]
      refine wp_region_held (S := fun w' => WLog w' b D f s ∧ Blk w' V #[.int .i64 z, .string Y] 156) mixed ?_
      change wpAnyH _ _ _ _ _ _ _ _ (wr.alloc (.cells #[.int .i64 z, .string Y] 156)).drew
      have hZ2 : Blk (wr.alloc (.cells #[.int .i64 z, .string Y] 156)).drew V _ 156 := hZ1
      obtain ⟨W, hWW⟩ : ∃ u, (wr.alloc (.cells #[.int .i64 z, .string Y] 156)).drew = u := ⟨_, rfl⟩
      rw [hWW] at hZ2 hA2 hW2 KW ⊢
      have HV := Lib.hid hV
      have hVX : V ∉ X1 := fun hx => by have := HLT.out V hx; have := HV.out; omega
      clear hWW hZ1 d0 d1 hV
      have hS0 := And.intro hW2 hZ2
      refine wpAnyH_take (i := 0) (v := .pointer (some ⟨b, 0, none⟩)) rfl (by kernel_rfl) (by kernel_rfl) (by kernel_rfl) (fun c a w h => h) (.inl ⟨by kernel_rfl, fun w' hS => ?_⟩) hS0 ?_
      · clear hS; go_simp
      try go_simp
      refine wpAnyH_take (i := 1) (v := .pointer (some ⟨b, 0, none⟩)) rfl (by kernel_rfl) (by kernel_rfl) (by kernel_rfl) (fun c a w h => h) (.inl ⟨by kernel_rfl, fun w' hS => ?_⟩) hS0 ?_
      · clear hS; go_simp
      try go_simp
      refine wpAnyH_take (i := 2) (v := .pointer (some ⟨b, 0, none⟩)) rfl (by kernel_rfl) (by kernel_rfl) (by kernel_rfl) (fun c a w h => h) (.inl ⟨by kernel_rfl, fun w' hS => ?_⟩) hS0 ?_
      · clear hS; go_simp
      try go_simp
      refine wpAnyH_take (i := 3) (v := .pointer (some ⟨D, 0, none⟩)) rfl (by kernel_rfl) (by kernel_rfl) (by kernel_rfl) (fun c a w h => h) (.inl ⟨by kernel_rfl, fun w' hS => ?_⟩) hS0 ?_
      · have q0 := Blk.cell hS.1 0; simp at q0; go_simp
      try go_simp
      refine wpAnyH_take (i := 4) (v := .pointer (some ⟨V, 0, none⟩)) rfl (by kernel_rfl) (by kernel_rfl) (by kernel_rfl) (fun c a w h => h) (.inl ⟨by kernel_rfl, fun w' hS => ?_⟩) hS0 ?_
      · clear hS; go_simp
      try go_simp
      refine wpAnyH_take (i := 5) (v := .int .i64 (z : Int)) rfl (by kernel_rfl) (by kernel_rfl) (by kernel_rfl) (fun c a w h => h) (.inl ⟨by kernel_rfl, fun w' hS => ?_⟩) hS0 ?_
      · have q0 := Blk.cell hS.2 0; simp at q0; go_simp
      try go_simp
      refine wpAnyH_take (i := 6) (v := .pointer (some ⟨V, 1, none⟩)) rfl (by kernel_rfl) (by kernel_rfl) (by kernel_rfl) (fun c a w h => h) (.inl ⟨by kernel_rfl, fun w' hS => ?_⟩) hS0 ?_
      · clear hS; go_simp
      try go_simp
      refine wpAnyH_take (i := 7) (v := .string Y) rfl (by kernel_rfl) (by kernel_rfl) (by kernel_rfl) (fun c a w h => h) (.inl ⟨by kernel_rfl, fun w' hS => ?_⟩) hS0 ?_
      · have q0 := Blk.cell hS.2 1; simp at q0; go_simp
      try go_simp
      refine wpAnyH_all (rs := [8]) (by kernel_rfl) (by simp) ?_
      intro i hi
      simp only [List.mem_cons, List.not_mem_nil, or_false] at hi
      subst hi
      unfold wpOp
      go_simp
      refine .inl ?_
      go_at_call 56
      refine KW.mono ?_
      rintro e W1 ⟨rfl, X2, hD3, hM2⟩
      have hS1 : WLog W1 b D f s ∧ Blk W1 V #[.int .i64 z, .string Y] 156 := ⟨hM2.blk hW2 hbX1, hM2.blk hZ2 hVX⟩
      refine ⟨hS1, ?_⟩
      rcases hnum with rfl | rfl
      ·
        refine wpAnyH_take (i := 9) (v := .int .i64 0) rfl (by kernel_rfl) (by kernel_rfl) (by kernel_rfl) (fun c a w h => h) (.inl ⟨by kernel_rfl, fun w' hS => ?_⟩) hS1 ?_
        · clear hS; go_simp
        try go_simp
        refine wpAnyH_done (by kernel_rfl) ?_ _
        have HD3 := Lib.hid hD3
        have HMF := Lib.hid (HM1.out.trans ((Mv.of_below X1 hA2).trans hM2))
        clear hW2 hZ2 hS0 hS1 hD3 hM2 hA2 KW hW1 hVX HST
        go_wp2
        go_roundw
        case rel => exact ⟨k + 1, by omega, by go_num, by rw [HRK.out], X2, by rw [HRK.out]; exact HD3.out, HMF.out⟩
        case measure => simp [intOf]; omega
      ·
        refine wpAnyH_take (i := 9) (v := .int .i64 7) rfl (by kernel_rfl) (by kernel_rfl) (by kernel_rfl) (fun c a w h => h) (.inl ⟨by kernel_rfl, fun w' hS => ?_⟩) hS1 ?_
        · clear hS; go_simp
        try go_simp
        refine wpAnyH_done (by kernel_rfl) ?_ _
        have HD3 := Lib.hid hD3
        have HMF := Lib.hid (HM1.out.trans ((Mv.of_below X1 hA2).trans hM2))
        have HRE := Lib.hid (HST.out (by decide))
        clear hW2 hZ2 hS0 hS1 hD3 hM2 hA2 KW hW1 hVX HST
        go_wp2
        go_ret
        exact ⟨by rw [HRE.out]; rfl, X2, by rw [HRE.out]; exact HD3.out, HMF.out⟩
    · obtain rfl : n = k := by omega
      have hal := HAL.out (by simpa using h0)
      obtain ⟨dk, hdk⟩ : ∃ q, (DS.run (wrs (x.take n)) ds).2 = q := ⟨_, rfl⟩
      rw [hdk] at hD1 hal
      have HRE := Lib.hid hal
      have KS := sync_any X1 D dk wr hD1
      have hW1 := hM1.blk HW.out HBX.out
      have x0 := Blk.cell hW1 0
      simp at x0
      have HM := Lib.hid hM1
      clear hM1 hD1 hW1 hal hdk h0
      go_wp2_with (go_at_call 57; refine KS.mono ?_; rintro e W2 ⟨rfl, hD2, hF2⟩)
      go_wp2
      go_ret
      exact ⟨by rw [HRE.out]; rfl, X1, by rw [HRE.out]; exact hD2, HM.out.trans (.of_frm hF2)⟩
end Go.Proofs.YtcmcdddnckcpcaaGreatDoor
