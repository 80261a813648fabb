/- file: lay, walked. -/
import Derived.Test.YtcmcdddnckcpcaaGreatDoorSe
namespace Go.Proofs.YtcmcdddnckcpcaaGreatDoor
open Go.RowKit Go.Maps
/-- What is laid where. -/
def layX (l : List Nat) (data : Bs) : List (Nat × Bs) := l.zipIdx.map fun c => (c.1, (data.drop (512 * c.2)).take 512)
def layC (l : List Nat) (data : Bs) : List Cmd := if l = [] then [] else wrs (layX l data) ++ [.sy]
theorem layX_length (l : List Nat) (data : Bs) : (layX l data).length = l.length := by simp [layX]
theorem layX_at (l : List Nat) (data : Bs) (k : Nat) (h : k < l.length) (h2 : k < (layX l data).length) : (layX l data)[k] = (l[k], (data.drop (512 * k)).take 512) := by simp [layX]
set_option maxRecDepth 100000 in
set_option maxHeartbeats 4000000 in
theorem lay_any (X : List Nat) (S D Lg M : Nat) (m : StoM) (A : Option Addr) (cap : Nat) (l : List Nat) (data : Bs) (w : World) (h : Sto w X S D Lg M m) (hA : Lies w A (ncells l)) (hAX : ∀ a, A = some a → a.block ∉ X) (hl : ∀ i ∈ l, i < m.ds.L.length) (hn : l.length ≤ 100000) (hd : data.length ≤ 1099511627776) (hS : m.ds.S.length ≤ 800000) :
    Calls Tryz.prog 80 #[.pointer (some ⟨S, 0, none⟩), .slice A l.length cap, .string (mk data)] w fun e w' => e = .returned (.int .i64 ((DS.run (layC l data) m.ds).1 : Nat)) ∧ ∃ X', Dsk w' X' D (DS.run (layC l data) m.ds).2 ∧ Mv X X' w w' := by
  have HNX := Lib.hid (fun k hk h0 => wrs_next (layX l data) [.sy] m.ds k hk h0)
  have HAL := Lib.hid (wrs_all (layX l data) m.ds)
  have HLN := Lib.hid (fun k => wrs_len (layX l data) k m.ds)
  have HC := Lib.hid (show layC l data = if l = [] then [] else wrs (layX l data) ++ [.sy] from rfl)
  obtain ⟨R, hR⟩ : ∃ q, DS.run (wrs (layX l data) ++ [.sy]) m.ds = q := ⟨_, rfl⟩
  rw [hR] at HNX HAL
  have HR := Lib.hid hR
  obtain ⟨R0, hR0⟩ : ∃ q, DS.run (layC l data) m.ds = q := ⟨_, rfl⟩
  rw [hR0]
  have HR0 := Lib.hid hR0
  have HXL := Lib.hid (layX_length l data)
  have HXA := Lib.hid (fun k hk h2 => layX_at l data k hk h2)
  obtain ⟨n, hnn⟩ : ∃ n, l.length = n := ⟨_, rfl⟩
  rw [hnn] at hn HXL ⊢
  have HN := Lib.hid hnn
  have HA := Lib.hid (And.intro hA hAX)
  have HLM := Lib.hid hl
  have HSB := Lib.hid (And.intro h.blk h.apart.1)
  have HD := Lib.hid h.dsk
  obtain ⟨ds, hds⟩ : ∃ q, m.ds = q := ⟨_, rfl⟩
  rw [hds] at HNX HAL HLN HR HR0 HLM HD hS
  have HDL := Lib.hid hd
  have HSS := Lib.hid hS
  obtain ⟨cells, hcells⟩ : ∃ q, stoCells D Lg M m.T m.most m.off = q := ⟨_, rfl⟩
  rw [hcells] at HSB
  have HC0 := Lib.hid (show cells[0]? = some (.pointer (some ⟨D, 0, none⟩)) by rw [← hcells]; rfl)
  have mixed : Tryz.prog.follows Departure.mixedOrders = true := by kernel_rfl
  have hstart : (mk data) = mk (data.drop (512 * 0)) := rfl
  obtain ⟨S0, hS0⟩ : ∃ q, mk data = q := ⟨_, rfl⟩
  rw [hS0] at hstart ⊢
  have HST := Lib.hid hstart
  clear h hA hAX hl hnn hR hR0 hds hd hS hcells hstart hS0
  go_enter Tryz.func80, Tryz.ntmps80
  go_wp2
  go_loopw [2, 13] (fun dv i wr => ∃ k : Nat, k ≤ n ∧ i = .int .i64 k ∧ dv = .string (mk (data.drop (512 * k))) ∧ (DS.run (wrs ((layX l data).take k)) ds).1 = 0 ∧ ∃ X', Dsk wr X' D (DS.run (wrs ((layX l data).take k)) ds).2 ∧ Mv X X' w wr) (fun _ i _ => n - (intOf i).toNat)
  case atStart => exact ⟨0, Nat.zero_le _, rfl, by rw [HST.out], rfl, X, HD.out, Mv.refl _ _⟩
  case round =>
    obtain ⟨k, hk, rfl, rfl, h0, X1, hD1, hM1⟩ := hrel
    by_cases hlt : k < n
    · have hkl : k < l.length := by rw [HN.out]; exact hlt
      have hki : k < (layX l data).length := by rw [HXL.out]; exact hlt
      obtain ⟨g, off, rfl, hgl, hcs⟩ := HA.out.1 (by rw [ncells_length]; omega)
      have hgX : g ∉ X := HA.out.2 _ rfl
      have d0 := (hM1.frm.cell (p := ⟨g, off + k, none⟩) hgl hgX).trans (hcs _ _ (ncells_at l k hkl))
      have hgr : g < wr.heap.size := Nat.lt_of_lt_of_le hgl hM1.size
      have hq1 := HLM.out l[k] (List.getElem_mem hkl)
      obtain ⟨hnx, hst⟩ := HNX.out k hki h0
      obtain ⟨hl1, hl2⟩ := HLN.out k
      rw [HXA.out k hkl hki] at hnx hst
      obtain ⟨dk, hdk⟩ : ∃ q, (DS.run (wrs ((layX l data).take k)) ds).2 = q := ⟨_, rfl⟩
      rw [hdk] at hD1 hnx hst hl1 hl2
      obtain ⟨z, hz⟩ : ∃ z, l[k] = z := ⟨_, rfl⟩
      rw [hz] at d0 hq1 hnx hst
      dsimp only at hnx hst
      obtain ⟨dd, hdd⟩ : ∃ q, data.drop (512 * k) = q := ⟨_, rfl⟩
      have hdl : dd.length ≤ 1099511627776 := by rw [← hdd, List.length_drop]; have := HDL.out; omega
      have hnext : data.drop (512 * (k + 1)) = dd.drop 512 := by rw [← hdd, List.drop_drop]; congr 1
      rw [hdd] at hnx hst
      rw [hdd]
      have HNXT := Lib.hid hnext
      have zq := mk_size dd
      obtain ⟨q, hq⟩ : ∃ q, dd.length = q := ⟨_, rfl⟩
      rw [hq] at zq hdl
      obtain ⟨nn, hnn⟩ : ∃ t, min q 512 = t := ⟨_, rfl⟩
      have hmin : min (q : Int) 512 = (nn : Int) := by omega
      have hnq : nn ≤ q := by omega
      have hn5 : nn ≤ 512 := by omega
      have hsl1 := fun (w : World) => run_slice_string_h (P := Tryz.prog) (w := w) (t := 9) (s := mk dd) Tryz.underlying9 .i64 (nn : Int) (by omega) (by rw [zq]; omega)
      have hsl2 := fun (w : World) => run_slice_string_l (P := Tryz.prog) (w := w) (t := 9) (s := mk dd) Tryz.underlying9 .i64 (nn : Int) (by omega) (by rw [zq]; omega)
      have e1 : (mk dd).extract 0 nn = mk (dd.take 512) := by
        have := ext_mk' (mk dd) 0 nn
        rw [Nat.zero_add, mk_data, List.drop_zero] at this
        rw [this]
        by_cases h5 : q ≤ 512
        · rw [List.take_of_length_le (by omega), List.take_of_length_le (by omega)]
        · rw [show nn = 512 by omega]
      have e2 : (mk dd).extract nn q = mk (dd.drop 512) := by
        have := ext_mk' (mk dd) nn (q - nn)
        rw [Nat.add_sub_cancel' hnq, mk_data] at this
        rw [this, List.take_of_length_le (by rw [List.length_drop]; omega)]
        by_cases h5 : q ≤ 512
        · rw [List.drop_eq_nil_of_le (by omega), List.drop_eq_nil_of_le (by omega)]
        · rw [show nn = 512 by omega]
      rw [Int.toNat_natCast, e1] at hsl1
      rw [Int.toNat_natCast, zq, e2] at hsl2
      obtain ⟨pc, hpc⟩ : ∃ t, dd.take 512 = t := ⟨_, rfl⟩
      have hpl : pc.length ≤ 512 := by rw [← hpc, List.length_take]; omega
      rw [hpc] at hnx hst hsl1
      obtain ⟨DD, hDD⟩ : ∃ t, mk dd = t := ⟨_, rfl⟩
      obtain ⟨PC, hPC⟩ : ∃ t, mk pc = t := ⟨_, rfl⟩
      obtain ⟨NX, hNX⟩ : ∃ t, mk (dd.drop 512) = t := ⟨_, rfl⟩
      rw [hDD] at hsl1 hsl2 zq ⊢
      rw [hPC] at hsl1
      rw [hNX] at hsl2
      have HNX2 := Lib.hid hNX
      have hB1 := hM1.blk HSB.out.1 HSB.out.2
      have hSX1 := hM1.apart HSB.out.2 (Blk.lt HSB.out.1)
      have hx0 := (hB1.cell 0).trans HC0.out
      have hSl := hB1.lt
      have hnum := write_num dk z pc
      have hD2 := hD1.drew
      have KW := write_any X1 D dk z pc wr.drew hD2 (by rw [hl1]; exact hq1) hpl (by have := HSS.out; omega)
      rw [hPC] at KW
      obtain ⟨d1p, hd1p⟩ : ∃ q, dk.write z pc = q := ⟨_, rfl⟩
      rw [hd1p] at KW hnum hnx hst
      obtain ⟨num, d2⟩ := d1p
      dsimp only at KW hnum hst
      have HRK := Lib.hid hnx
      have HSTP := Lib.hid hst
      have HM1 := Lib.hid hM1
      have k0 : (0 : Int) ≤ (k : Int) := by omega
      have k1 : (k : Int) < (n : Int) := by omega
      have hX0 := hx0
      have hZ := Lib.hid (And.intro hB1 hSX1)
      have q0i : (0 : Int) ≤ (q : Int) := by omega
      have HSL2 := Lib.hid hsl2
      have HSL1 := Lib.hid hsl1
      clear hnx hst hdk hz hdd hnext hdl hq hnn e1 e2 hpc hDD hPC hNX hd1p hD1 hM1 hcs hq1 hl1 hl2 hD2 h0 hgX hkl hki hpl hB1 hSX1 hX0
      go_upto_region 5 with (fail)
      refine wp_region_held (S := fun w' => w'.cell? ⟨S, 0, none⟩ = some (.pointer (some ⟨D, 0, none⟩))) mixed ?_
      change wpAnyH _ _ _ _ _ _ _ _ wr.drew
      have hS1 : wr.drew.cell? ⟨S, 0, none⟩ = some (.pointer (some ⟨D, 0, none⟩)) := hx0
      clear hx0 hsl1 hsl2
      refine wpAnyH_take (i := 0) (v := .pointer (some ⟨S, 0, none⟩)) rfl (by kernel_rfl) (by kernel_rfl) (by kernel_rfl) (fun c a w h => h) (.inl ⟨by kernel_rfl, fun w' hS => ?_⟩) hS1 ?_
      · clear hS; go_simp
      try go_simp
      refine wpAnyH_take (i := 1) (v := .pointer (some ⟨S, 0, none⟩)) rfl (by kernel_rfl) (by kernel_rfl) (by kernel_rfl) (fun c a w h => h) (.inl ⟨by kernel_rfl, fun w' hS => ?_⟩) hS1 ?_
      · clear hS; go_simp
      try go_simp
      refine wpAnyH_take (i := 2) (v := .pointer (some ⟨S, 0, none⟩)) rfl (by kernel_rfl) (by kernel_rfl) (by kernel_rfl) (fun c a w h => h) (.inl ⟨by kernel_rfl, fun w' hS => ?_⟩) hS1 ?_
      · clear hS; go_simp
      try go_simp
      refine wpAnyH_take (i := 3) (v := .pointer (some ⟨D, 0, none⟩)) rfl (by kernel_rfl) (by kernel_rfl) (by kernel_rfl) (fun c a w h => h) (.inl ⟨by kernel_rfl, fun w' hS => ?_⟩) hS1 ?_
      · have q0 := hS; go_simp
      try go_simp
      refine wpAnyH_take (i := 4) (v := .int .i64 (z : Int)) rfl (by kernel_rfl) (by kernel_rfl) (by kernel_rfl) (fun c a w h => h) (.inl ⟨by kernel_rfl, fun w' hS => ?_⟩) hS1 ?_
      · clear hS; go_simp
      try go_simp
      refine wpAnyH_take (i := 5) (v := .string DD) rfl (by kernel_rfl) (by kernel_rfl) (by kernel_rfl) (fun c a w h => h) (.inl ⟨by kernel_rfl, fun w' hS => ?_⟩) hS1 ?_
      · clear hS; go_simp
      try go_simp
      refine wpAnyH_take (i := 6) (v := .int .i64 (nn : Int)) rfl (by kernel_rfl) (by kernel_rfl) (by kernel_rfl) (fun c a w h => h) (.inl ⟨by kernel_rfl, fun w' hS => ?_⟩) hS1 ?_
      · clear hS; go_simp
      try go_simp
      refine wpAnyH_take (i := 7) (v := .string PC) rfl (by kernel_rfl) (by kernel_rfl) (by kernel_rfl) (fun c a w h => h) (.inl ⟨by kernel_rfl, fun w' hS => ?_⟩) hS1 ?_
      · clear hS; have hs1 := HSL1.out; go_simp
      try go_simp
      refine wpAnyH_all (rs := [8]) (by kernel_rfl) (by simp) ?_
      intro i hi
      simp only [List.mem_cons, List.not_mem_nil, or_false] at hi
      subst hi
      unfold wpOp
      go_simp
      refine .inl ?_
      go_at_call 56
      refine KW.mono ?_
      rintro e W1 ⟨rfl, X2, hD3, hM2⟩
      have hS2 : W1.cell? ⟨S, 0, none⟩ = some (.pointer (some ⟨D, 0, none⟩)) := (hM2.frm.cell (p := ⟨S, 0, none⟩) hSl hZ.out.2).trans hS1
      refine ⟨hS2, ?_⟩
      rcases hnum with rfl | rfl
      ·
        refine wpAnyH_take (i := 9) (v := .int .i64 0) rfl (by kernel_rfl) (by kernel_rfl) (by kernel_rfl) (fun c a w h => h) (.inl ⟨by kernel_rfl, fun w' hS => ?_⟩) hS2 ?_
        · clear hS; go_simp
        try go_simp
        refine wpAnyH_done (by kernel_rfl) ?_ _
        have HD3 := Lib.hid hD3
        have HMF := Lib.hid (HM1.out.trans hM2.of_drew)
        have hsl2 := HSL2.out
        clear hS1 hS2 hD3 hM2 KW HSTP hnq hn5
        go_wp2
        go_roundw
        case rel => exact ⟨k + 1, by omega, by go_num, by rw [HNXT.out, HNX2.out], by rw [HRK.out], X2, by rw [HRK.out]; exact HD3.out, HMF.out⟩
        case measure => simp [intOf]; omega
      ·
        refine wpAnyH_take (i := 9) (v := .int .i64 7) rfl (by kernel_rfl) (by kernel_rfl) (by kernel_rfl) (fun c a w h => h) (.inl ⟨by kernel_rfl, fun w' hS => ?_⟩) hS2 ?_
        · clear hS; go_simp
        try go_simp
        refine wpAnyH_done (by kernel_rfl) ?_ _
        have HD3 := Lib.hid hD3
        have HMF := Lib.hid (HM1.out.trans hM2.of_drew)
        have HRE := Lib.hid (show R0 = (7, d2) by
          rw [← HR0.out, HC.out, if_neg (fun e => by have := HN.out; rw [e] at this; simp at this; omega), HR.out, HSTP.out (by decide)])
        clear hS1 hS2 hD3 hM2 KW HSTP hnq hn5
        go_wp2
        go_ret
        obtain rfl := HRE.out
        exact ⟨rfl, X2, HD3.out, HMF.out⟩
    · obtain rfl : n = k := by omega
      have hal := HAL.out (by rw [HXL.out]; exact h0)
      rw [HXL.out] at hal
      obtain ⟨dk, hdk⟩ : ∃ q, (DS.run (wrs ((layX l data).take n)) ds).2 = q := ⟨_, rfl⟩
      rw [hdk] at hD1 hal
      obtain ⟨DD, hDD⟩ : ∃ t, mk (data.drop (512 * n)) = t := ⟨_, rfl⟩
      rw [hDD]
      by_cases hn0 : n = 0
      · have HRE := Lib.hid (show R0 = (0, dk) by
          rw [← HR0.out, HC.out, if_pos (List.eq_nil_of_length_eq_zero (by rw [HN.out]; exact hn0)), ← hdk, hn0]; rfl)
        have b1 : (n : Int) = 0 := by omega
        subst hn0
        have HD1 := Lib.hid hD1
        have HM1 := Lib.hid hM1
        clear hD1 hM1 hal hdk hDD h0 hlt
        go_wp2
        go_ret
        obtain rfl := HRE.out
        exact ⟨rfl, X1, HD1.out, HM1.out⟩
      · have HRE := Lib.hid (show R0 = dk.sync by
          rw [← HR0.out, HC.out, if_neg (fun e => by have := HN.out; rw [e] at this; simp at this; omega), HR.out, hal])
        have b1 : ¬ ((n : Int) = 0) := by omega
        have b1b : ((n : Int) == 0) = false := by simpa using b1
        have KS := sync_any X1 D dk wr hD1
        have hB1 := hM1.blk HSB.out.1 HSB.out.2
        have hx0 := (hB1.cell 0).trans HC0.out
        have hSl := hB1.lt
        have HM1 := Lib.hid hM1
        clear hD1 hM1 hal hdk hDD h0 hlt hB1
        go_wp2_with (go_at_call 57; refine KS.mono ?_; rintro e W2 ⟨rfl, hD2, hF2⟩)
        go_ret
        obtain rfl := HRE.out
        exact ⟨rfl, X1, hD2, HM1.out.trans (.of_frm hF2)⟩
end Go.Proofs.YtcmcdddnckcpcaaGreatDoor
