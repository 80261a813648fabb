/- wal: say, make, walked. -/
import Derived.Test.YtcmcdddnckcpcaaGreatDoorWm
namespace Go.Proofs.YtcmcdddnckcpcaaGreatDoor
open Go.RowKit
theorem write_num (d : DS) (i : Nat) (b : Bs) : (d.write i b).1 = 0 ∨ (d.write i b).1 = 7 := by
  unfold DS.write
  split
  · exact .inl rfl
  · exact step_num d
theorem sync_num (d : DS) : d.sync.1 = 0 ∨ d.sync.1 = 7 := by
  unfold DS.sync
  split
  · exact .inl rfl
  · exact step_num d
theorem run_num (l : List Cmd) : ∀ d, (DS.run l d).1 = 0 ∨ (DS.run l d).1 = 7 := by
  induction l with
  | nil => intro d; exact .inl rfl
  | cons c l ih =>
    intro d
    rw [DS.run]
    split
    · exact ih _
    · cases c with
      | wr i b => exact write_num d i b
      | sy => exact sync_num d
set_option maxRecDepth 100000 in
set_option maxHeartbeats 1000000 in
theorem say_any (X : List Nat) (D : Nat) (ds : DS) (b f s : Nat) (h : Bs) (w : World) (hD : Dsk w X D ds) (hW : WLog w b D f s) (hb : b ∉ X) (hf : f < ds.L.length) (hh : h.length ≤ 512) (hS : ds.S.length ≤ 1000000) :
    Calls Tryz.prog 98 #[.pointer (some ⟨b, 0, none⟩), .string (mk h)] w fun e w' => e = .returned (.int .i64 ((DS.run [.wr f h, .sy] ds).1 : Nat)) ∧ ∃ X', Dsk w' X' D (DS.run [.wr f h, .sy] ds).2 ∧ Mv X X' w w' := by
  have KW := write_any X D ds f h w.drew (hD.frm (Y := []) (Frm.refl _ w).drew (fun _ _ => by simp)) hf hh hS
  have HR0 := Lib.hid (fun (h0 : (ds.write f h).1 = 0) => (show DS.run [.wr f h, .sy] ds = (ds.write f h).2.sync by rw [DS.run, show ds.cmd (.wr f h) = ds.write f h from rfl, if_pos h0, run_one]; rfl))
  have HR7 := Lib.hid (fun (h0 : (ds.write f h).1 = 7) => (show DS.run [.wr f h, .sy] ds = ds.write f h by rw [DS.run, show ds.cmd (.wr f h) = ds.write f h from rfl, if_neg (by omega)]))
  have hnum := write_num ds f h
  obtain ⟨d1, hd1⟩ : ∃ q, ds.write f h = q := ⟨_, rfl⟩
  obtain ⟨R, hR⟩ : ∃ q, DS.run [.wr f h, .sy] ds = q := ⟨_, rfl⟩
  rw [hd1] at KW HR0 HR7 hnum
  rw [hR] at HR0 HR7 ⊢
  obtain ⟨Y, hY⟩ : ∃ q, mk h = q := ⟨_, rfl⟩
  rw [hY] at KW ⊢
  have HBX := Lib.hid hb
  obtain ⟨d1n, d1⟩ := d1
  dsimp only at KW HR0 HR7 hnum
  have mixed : Tryz.prog.follows Departure.mixedOrders = true := by kernel_rfl
  clear hD hb hf hh hS hd1 hR hY
  rcases hnum with rfl | rfl
  · have HRE := Lib.hid (HR0.out rfl)
    clear HR0 HR7
    go_enter Tryz.func98, Tryz.ntmps98
    go_upto_region 1 with (fail)
    refine wp_region_held (S := fun w' => WLog w' b D f s) mixed ?_
    change wpAnyH _ _ _ _ _ _ _ _ w.drew
    have hW1 : WLog w.drew b D f s := hW
    refine wpAnyH_take (i := 0) (v := .pointer (some ⟨b, 0, none⟩)) rfl (by kernel_rfl) (by kernel_rfl) (by kernel_rfl) (fun c a w h => h) (.inl ⟨by kernel_rfl, fun w' hS => ?_⟩) hW1 ?_
    · clear hS; go_simp
    try go_simp
    refine wpAnyH_take (i := 1) (v := .pointer (some ⟨b, 0, none⟩)) rfl (by kernel_rfl) (by kernel_rfl) (by kernel_rfl) (fun c a w h => h) (.inl ⟨by kernel_rfl, fun w' hS => ?_⟩) hW1 ?_
    · clear hS; go_simp
    try go_simp
    refine wpAnyH_take (i := 2) (v := .pointer (some ⟨b, 0, none⟩)) rfl (by kernel_rfl) (by kernel_rfl) (by kernel_rfl) (fun c a w h => h) (.inl ⟨by kernel_rfl, fun w' hS => ?_⟩) hW1 ?_
    · clear hS; go_simp
    try go_simp
    refine wpAnyH_take (i := 3) (v := .pointer (some ⟨D, 0, none⟩)) rfl (by kernel_rfl) (by kernel_rfl) (by kernel_rfl) (fun c a w h => h) (.inl ⟨by kernel_rfl, fun w' hS => ?_⟩) hW1 ?_
    · have q0 := Blk.cell hS 0; simp at q0; go_simp
    try go_simp
    refine wpAnyH_take (i := 4) (v := .pointer (some ⟨b, 0, none⟩)) rfl (by kernel_rfl) (by kernel_rfl) (by kernel_rfl) (fun c a w h => h) (.inl ⟨by kernel_rfl, fun w' hS => ?_⟩) hW1 ?_
    · clear hS; go_simp
    try go_simp
    refine wpAnyH_take (i := 5) (v := .pointer (some ⟨b, 0, none⟩)) rfl (by kernel_rfl) (by kernel_rfl) (by kernel_rfl) (fun c a w h => h) (.inl ⟨by kernel_rfl, fun w' hS => ?_⟩) hW1 ?_
    · clear hS; go_simp
    try go_simp
    refine wpAnyH_take (i := 6) (v := .pointer (some ⟨b, 1, none⟩)) rfl (by kernel_rfl) (by kernel_rfl) (by kernel_rfl) (fun c a w h => h) (.inl ⟨by kernel_rfl, fun w' hS => ?_⟩) hW1 ?_
    · clear hS; go_simp
    try go_simp
    refine wpAnyH_take (i := 7) (v := .int .i64 (f : Int)) rfl (by kernel_rfl) (by kernel_rfl) (by kernel_rfl) (fun c a w h => h) (.inl ⟨by kernel_rfl, fun w' hS => ?_⟩) hW1 ?_
    · have q0 := Blk.cell hS 1; simp at q0; go_simp
    try go_simp
    refine wpAnyH_take (i := 8) (v := .string Y) rfl (by kernel_rfl) (by kernel_rfl) (by kernel_rfl) (fun c a w h => h) (.inl ⟨by kernel_rfl, fun w' hS => ?_⟩) hW1 ?_
    · clear hS; go_simp
    try go_simp
    refine wpAnyH_all (rs := [9]) (by kernel_rfl) (by simp) ?_
    intro i hi
    simp only [List.mem_cons, List.not_mem_nil, or_false] at hi
    subst hi
    unfold wpOp
    go_simp
    refine .inl ?_
    go_at_call 56
    refine KW.mono ?_
    rintro e W1 ⟨rfl, X1, hD1, hM1⟩
    have hW2 : WLog W1 b D f s := hM1.blk hW1 HBX.out
    refine ⟨hW2, ?_⟩
    refine wpAnyH_take (i := 10) (v := .int .i64 0) rfl (by kernel_rfl) (by kernel_rfl) (by kernel_rfl) (fun c a w h => h) (.inl ⟨by kernel_rfl, fun w' hS => ?_⟩) hW2 ?_
    · clear hS; go_simp
    try go_simp
    refine wpAnyH_done (by kernel_rfl) ?_ _
    have KS := sync_any X1 D d1 W1 hD1
    have x0 := Blk.cell hW2 0
    simp at x0
    have HM := Lib.hid hM1
    clear hM1 hD1 hW hW1 hW2 KW
    go_wp2_with (go_at_call 57; refine KS.mono ?_; rintro e W2 ⟨rfl, hD2, hF2⟩)
    go_wp2
    go_ret
    exact ⟨by rw [HRE.out]; rfl, X1, by rw [HRE.out]; exact hD2, (Mv.trans (b := W1) ⟨⟨HM.out.frm.os, HM.out.frm.tape, HM.out.frm.output, HM.out.frm.size, HM.out.frm.block⟩, HM.out.sub⟩ (.of_frm hF2))⟩
  · have HRE := Lib.hid (HR7.out rfl)
    clear HR0 HR7
    go_enter Tryz.func98, Tryz.ntmps98
    go_upto_region 1 with (fail)
    refine wp_region_held (S := fun w' => WLog w' b D f s) mixed ?_
    change wpAnyH _ _ _ _ _ _ _ _ w.drew
    have hW1 : WLog w.drew b D f s := hW
    refine wpAnyH_take (i := 0) (v := .pointer (some ⟨b, 0, none⟩)) rfl (by kernel_rfl) (by kernel_rfl) (by kernel_rfl) (fun c a w h => h) (.inl ⟨by kernel_rfl, fun w' hS => ?_⟩) hW1 ?_
    · clear hS; go_simp
    try go_simp
    refine wpAnyH_take (i := 1) (v := .pointer (some ⟨b, 0, none⟩)) rfl (by kernel_rfl) (by kernel_rfl) (by kernel_rfl) (fun c a w h => h) (.inl ⟨by kernel_rfl, fun w' hS => ?_⟩) hW1 ?_
    · clear hS; go_simp
    try go_simp
    refine wpAnyH_take (i := 2) (v := .pointer (some ⟨b, 0, none⟩)) rfl (by kernel_rfl) (by kernel_rfl) (by kernel_rfl) (fun c a w h => h) (.inl ⟨by kernel_rfl, fun w' hS => ?_⟩) hW1 ?_
    · clear hS; go_simp
    try go_simp
    refine wpAnyH_take (i := 3) (v := .pointer (some ⟨D, 0, none⟩)) rfl (by kernel_rfl) (by kernel_rfl) (by kernel_rfl) (fun c a w h => h) (.inl ⟨by kernel_rfl, fun w' hS => ?_⟩) hW1 ?_
    · have q0 := Blk.cell hS 0; simp at q0; go_simp
    try go_simp
    refine wpAnyH_take (i := 4) (v := .pointer (some ⟨b, 0, none⟩)) rfl (by kernel_rfl) (by kernel_rfl) (by kernel_rfl) (fun c a w h => h) (.inl ⟨by kernel_rfl, fun w' hS => ?_⟩) hW1 ?_
    · clear hS; go_simp
    try go_simp
    refine wpAnyH_take (i := 5) (v := .pointer (some ⟨b, 0, none⟩)) rfl (by kernel_rfl) (by kernel_rfl) (by kernel_rfl) (fun c a w h => h) (.inl ⟨by kernel_rfl, fun w' hS => ?_⟩) hW1 ?_
    · clear hS; go_simp
    try go_simp
    refine wpAnyH_take (i := 6) (v := .pointer (some ⟨b, 1, none⟩)) rfl (by kernel_rfl) (by kernel_rfl) (by kernel_rfl) (fun c a w h => h) (.inl ⟨by kernel_rfl, fun w' hS => ?_⟩) hW1 ?_
    · clear hS; go_simp
    try go_simp
    refine wpAnyH_take (i := 7) (v := .int .i64 (f : Int)) rfl (by kernel_rfl) (by kernel_rfl) (by kernel_rfl) (fun c a w h => h) (.inl ⟨by kernel_rfl, fun w' hS => ?_⟩) hW1 ?_
    · have q0 := Blk.cell hS 1; simp at q0; go_simp
    try go_simp
    refine wpAnyH_take (i := 8) (v := .string Y) rfl (by kernel_rfl) (by kernel_rfl) (by kernel_rfl) (fun c a w h => h) (.inl ⟨by kernel_rfl, fun w' hS => ?_⟩) hW1 ?_
    · clear hS; go_simp
    try go_simp
    refine wpAnyH_all (rs := [9]) (by kernel_rfl) (by simp) ?_
    intro i hi
    simp only [List.mem_cons, List.not_mem_nil, or_false] at hi
    subst hi
    unfold wpOp
    go_simp
    refine .inl ?_
    go_at_call 56
    refine KW.mono ?_
    rintro e W1 ⟨rfl, X1, hD1, hM1⟩
    have hW2 : WLog W1 b D f s := hM1.blk hW1 HBX.out
    refine ⟨hW2, ?_⟩
    refine wpAnyH_take (i := 10) (v := .int .i64 7) rfl (by kernel_rfl) (by kernel_rfl) (by kernel_rfl) (fun c a w h => h) (.inl ⟨by kernel_rfl, fun w' hS => ?_⟩) hW2 ?_
    · clear hS; go_simp
    try go_simp
    refine wpAnyH_done (by kernel_rfl) ?_ _
    have HM := Lib.hid hM1
    have HD1 := Lib.hid hD1
    clear hM1 hD1 hW hW1 hW2 KW
    go_wp2
    go_ret
    exact ⟨by rw [HRE.out]; rfl, X1, by rw [HRE.out]; exact HD1.out, ⟨⟨HM.out.frm.os, HM.out.frm.tape, HM.out.frm.output, HM.out.frm.size, HM.out.frm.block⟩, HM.out.sub⟩⟩
end Go.Proofs.YtcmcdddnckcpcaaGreatDoor
