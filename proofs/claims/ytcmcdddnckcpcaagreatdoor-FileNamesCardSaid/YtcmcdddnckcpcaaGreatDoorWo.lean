/- wal.Open, walked. -/
import Derived.Test.YtcmcdddnckcpcaaGreatDoorWd
namespace Go.Proofs.YtcmcdddnckcpcaaGreatDoor
open Go.RowKit
theorem saidB_bd (d : DS) (f s : Nat) (h : DGood d) (hf : f + s ≤ d.L.length) (hs : 2 ≤ s) : (saidB d.vis f s).length ≤ s - 1 ∧ ∀ c ∈ saidB d.vis f s, c.1 < d.L.length ∧ c.2.length ≤ 512 ∧ ownB f s c.1 = false := by
  unfold saidB
  split
  · rename_i hok
    unfold saidOk at hok
    simp only [Bool.and_eq_true, decide_eq_true_eq] at hok
    obtain ⟨⟨⟨⟨_, h1⟩, h2⟩, h3⟩, _⟩ := hok
    refine ⟨by rw [saidX_length]; exact h2, fun c hc => ?_⟩
    have h4 := List.all_eq_true.1 h3 c hc
    unfold mayB at h4
    rw [vis_length] at h4
    simp only [Bool.and_eq_true, decide_eq_true_eq, Bool.not_eq_true'] at h4
    refine ⟨h4.1, ?_, h4.2⟩
    unfold saidX at hc
    obtain ⟨i, hi, rfl⟩ := List.mem_map.1 hc
    have hi2 := List.mem_range.1 hi
    exact Nat.le_of_eq (vis_sec h _ (by omega))
  · exact ⟨by simp, fun c hc => (by cases hc)⟩
theorem mk_log {w1 w2 w3 : World} {b D f s : Nat} {X X1 : List Nat} (h : WLog w1 b D f s) (hX : b ∉ X) {B : Nat} (hb : Below B w1 w2) (hm : Mv X X1 w2 w3) (hB : b < B := by first | exact Blk.lt ‹_› | simp) : WLog w3 b D f s ∧ b ∉ X1 := by
  have h2 : WLog w2 b D f s := (hb.block b hB).trans h
  exact ⟨hm.blk h2 hX, hm.apart hX (Blk.lt h2)⟩
/-- What Open does. -/
def openC (x : List (Nat × Bs)) (f : Nat) : List Cmd := if x = [] then [] else (wrs x ++ [.sy]) ++ [.wr f [], .sy]
def OpenP (X : List Nat) (D : Nat) (ds : DS) (f s : Nat) (w : World) (e : Ending) (w' : World) : Prop :=
  ∃ X', Dsk w' X' D (DS.run (openC (saidB ds.vis f s) f) ds).2 ∧ Mv X X' w w' ∧
    ((DS.run (openC (saidB ds.vis f s) f) ds).1 = 0 → ∃ b n, e = .returned (.tuple #[.pointer (some ⟨b, 0, none⟩), .int .i64 (n : Int), .int .i64 0]) ∧ w.heap.size ≤ b ∧ b ∉ X' ∧ WLog w' b D f s) ∧
    ((DS.run (openC (saidB ds.vis f s) f) ds).1 ≠ 0 → e = .returned (.tuple #[.pointer none, .int .i64 0, .int .i64 7]))
set_option maxRecDepth 100000 in
set_option maxHeartbeats 2000000 in
theorem open_any (X : List Nat) (D : Nat) (ds : DS) (f s : Nat) (w : World) (hD : Dsk w X D ds) (hf : f + s ≤ ds.L.length) (hs : 2 ≤ s) (hs2 : s ≤ 65) (ho : ds.off = false) (hS : ds.S.length ≤ 990000) (hT : TB w) (hw : 0 < w.heap.size) :
    Calls Tryz.prog 58 #[.pointer (some ⟨D, 0, none⟩), .int .i64 f, .int .i64 s] w (OpenP X D ds f s w) := by
  have hsm := hD.good.small
  have KZ := fun w' (hb : Below w.heap.size w w') => size_any X D ds w' (hD.below hb)
  obtain ⟨hxl, hxc⟩ := saidB_bd ds f s hD.good hf hs
  have hbz := below_alloc w (.cells #[.pointer (some ⟨D, 0, none⟩), .int .i64 f, .int .i64 s] 165)
  have hWL : WLog (w.alloc (.cells #[.pointer (some ⟨D, 0, none⟩), .int .i64 f, .int .i64 s] 165)) w.heap.size D f s := Blk.new w _ 165
  have hD1 := hD.below hbz
  have KSD := said_any X D ds w.heap.size f s _ hD1 hWL hf hs hs2 ho (hT.below hw hbz) (by simp)
  have hbX : w.heap.size ∉ X := fun h => by have := hD.lt _ h; omega
  have KMK := fun (A : Option Addr) (cap : Nat) (w1 : World) (hb : Below (w.heap.size + 1) (w.alloc (.cells #[.pointer (some ⟨D, 0, none⟩), .int .i64 f, .int .i64 s] 165)) w1) (hr : w1.ownsRow (w.heap.size + 1) 156 2 (.slice A (saidB ds.vis f s).length cap) (saidB ds.vis f s).length (scells (saidB ds.vis f s))) =>
    make_any X D ds w.heap.size f s A cap (saidB ds.vis f s) w1 (hD1.below (by simpa using hb)) (Blk.below hWL (by simpa using hb)) hbX (Lies.of_row hr) (fun a ha hx => by
      have h1 := hD.lt _ hx
      rcases hr.2 with ⟨hv, _⟩ | ⟨g, c', cur, hv, hg, _⟩
      · rw [ha] at hv; cases hv
      · rw [ha] at hv
        simp only [Value.slice.injEq, Option.some.injEq] at hv
        rw [hv.1] at h1
        simp only at h1
        omega) (fun c hc => ⟨(hxc c hc).1, (hxc c hc).2.1⟩) (by omega) (by omega)
  have hms := run_len (wrs (saidB ds.vis f s) ++ [.sy]) ds
  rw [List.length_append, wrs_length] at hms
  have KSY := fun (X1 : List Nat) (w1 : World) (hD2 : Dsk w1 X1 D (DS.run (wrs (saidB ds.vis f s) ++ [.sy]) ds).2) (hW : WLog w1 w.heap.size D f s) (hb : w.heap.size ∉ X1) =>
    say_any X1 D _ w.heap.size f s [] w1 hD2 hW hb (by rw [hms.1]; omega) (by simp) (by have := hms.2; simp at this; omega)
  rw [show mk [] = ⟨#[]⟩ from rfl] at KSY
  have hop : DS.run (openC (saidB ds.vis f s) f) ds = if saidB ds.vis f s = [] then (0, ds) else if (DS.run (wrs (saidB ds.vis f s) ++ [.sy]) ds).1 = 0 then DS.run [.wr f [], .sy] (DS.run (wrs (saidB ds.vis f s) ++ [.sy]) ds).2 else DS.run (wrs (saidB ds.vis f s) ++ [.sy]) ds := by
    unfold openC
    split
    · rfl
    · rw [run_append]
  have hn1 := run_num (wrs (saidB ds.vis f s) ++ [.sy]) ds
  unfold OpenP
  obtain ⟨R, hR⟩ : ∃ q, DS.run (openC (saidB ds.vis f s) f) ds = q := ⟨_, rfl⟩
  rw [hR] at hop ⊢
  obtain ⟨r1, hr1⟩ : ∃ q, DS.run (wrs (saidB ds.vis f s) ++ [.sy]) ds = q := ⟨_, rfl⟩
  rw [hr1] at hop hn1
  simp only [hr1] at KMK KSY
  obtain ⟨n1, d2⟩ := r1
  dsimp only at KMK KSY hop hn1
  have hn2 := run_num [.wr f [], .sy] d2
  obtain ⟨r2, hr2⟩ : ∃ q, DS.run [.wr f [], .sy] d2 = q := ⟨_, rfl⟩
  simp only [hr2] at KSY
  rw [hr2] at hop hn2
  obtain ⟨n2, d3⟩ := r2
  dsimp only at KSY hn2
  obtain ⟨x, hx⟩ : ∃ q, saidB ds.vis f s = q := ⟨_, rfl⟩
  rw [hx] at hop KSD hxl
  simp only [hx] at KMK
  have HXX := Lib.hid (show x.length = 0 → x = [] from List.eq_nil_of_length_eq_zero)
  have HXN := Lib.hid (show x.length ≠ 0 → x ≠ [] from fun h e => h (by rw [e]; rfl))
  obtain ⟨m, hm⟩ : ∃ q, x.length = q := ⟨_, rfl⟩
  rw [hm] at KSD HXX HXN
  simp only [World.size_alloc] at KSD
  simp only [hm] at KMK
  have HD := Lib.hid hD
  have HWL := Lib.hid hWL
  have HBX := Lib.hid hbX
  have hsl : ds.L.length ≤ 4096 := hsm
  obtain ⟨n, hn⟩ : ∃ q, ds.L.length = q := ⟨_, rfl⟩
  rw [hn] at KZ hsl hf
  have f0 : (0 : Int) ≤ (f : Int) := by omega
  have f0n : ¬ ((f : Int) < 0) := by omega
  have s0 : ¬ ((s : Int) < 2) := by omega
  have s1 : ¬ ((65 : Int) < (s : Int)) := by omega
  have f1 : ¬ ((n : Int) < (f : Int)) := by omega
  have f1n : ¬ (n < f) := by omega
  have f2 : ¬ ((n : Int) - (f : Int) < (s : Int)) := by omega
  have f3 : (f : Int) ≤ 4096 := by omega
  have f4 : (n : Int) ≤ 4096 := by omega
  have m63 : m ≤ 64 := by rw [← hm]; omega
  have hbz1 := Lib.hid hbz
  have KZ0 := KZ w (Below.refl _ _)
  clear hD hD1 hWL hbX hbz hR hr1 hr2 hx hm hn hf hs hs2 ho hS hT hw hxc hms hsm hxl
  by_cases hx0 : m = 0
  · have HR := Lib.hid (show R = (0, ds) by rw [hop, if_pos (HXX.out hx0)])
    obtain rfl := HR.out
    subst hx0
    clear hop KMK KSY hn1 hn2 HR HXX HXN
    go_enter Tryz.func58, Tryz.ntmps58
    go_wp2_with (first
      | (go_at_call 53; refine KZ0.mono ?_; rintro e w1 ⟨rfl, hw⟩; obtain rfl := hw.symm)
      | (go_at_call 96; refine KSD.mono ?_; rintro e w2 ⟨⟨A, c, rfl, hr⟩, hb⟩; have HB := Lib.hid hb; clear hb hr))
    go_ret3
    have hba := hbz1.out.trans (HB.out.mono (by simp))
    exact ⟨X, HD.out.below hba, Mv.of_below X hba, fun _ => ⟨w.heap.size, 0, rfl, Nat.le_refl _, HBX.out, Blk.below HWL.out (by simpa using HB.out)⟩, fun h => absurd rfl h⟩
  · have m0 : (0 : Int) < (m : Int) := by omega
    have m0n : 0 < m := by omega
    rw [if_neg (HXN.out hx0)] at hop
    clear HXX HXN hx0
    rcases hn1 with rfl | rfl
    · rw [if_pos rfl] at hop
      subst hop
      rcases hn2 with rfl | rfl
      ·
        go_enter Tryz.func58, Tryz.ntmps58
        go_wp2_with (first
          | (go_at_call 53; refine KZ0.mono ?_; rintro e w1 ⟨rfl, hw⟩; obtain rfl := hw.symm)
          | (go_at_call 96; refine KSD.mono ?_; rintro e w2 ⟨⟨A, c, rfl, hr⟩, hb⟩; have K97 := KMK A c w2 hb hr; have HB := Lib.hid hb; clear hb hr KMK KSD)
          | (go_at_call 97; refine K97.mono ?_; rintro e w3 ⟨rfl, X1, hD2, hM2⟩; have HB97 := Lib.hid (mk_log HWL.out HBX.out HB.out hM2); have HM2 := Lib.hid hM2; have HD2 := Lib.hid hD2; have K98 := KSY X1 w3 hD2 HB97.out.1 HB97.out.2; clear hM2 hD2 K97 KSY)
          | (go_at_call 98; refine K98.mono ?_; rintro e w4 ⟨rfl, X2, hD3, hM3⟩; have HM3 := Lib.hid hM3; have HD3 := Lib.hid hD3; clear hM3 hD3 K98))
        go_ret3
        have hba := (hbz1.out.trans (HB.out.mono (by simp)))
        have hlog := mk_log HB97.out.1 HB97.out.2 (Below.refl _ _) HM3.out
        exact ⟨X2, HD3.out, (Mv.of_below X hba).trans (HM2.out.trans HM3.out), fun _ => ⟨w.heap.size, m, rfl, Nat.le_refl _, hlog.2, hlog.1⟩, fun h => absurd rfl h⟩
      ·
        go_enter Tryz.func58, Tryz.ntmps58
        go_wp2_with (first
          | (go_at_call 53; refine KZ0.mono ?_; rintro e w1 ⟨rfl, hw⟩; obtain rfl := hw.symm)
          | (go_at_call 96; refine KSD.mono ?_; rintro e w2 ⟨⟨A, c, rfl, hr⟩, hb⟩; have K97 := KMK A c w2 hb hr; have HB := Lib.hid hb; clear hb hr KMK KSD)
          | (go_at_call 97; refine K97.mono ?_; rintro e w3 ⟨rfl, X1, hD2, hM2⟩; have HB97 := Lib.hid (mk_log HWL.out HBX.out HB.out hM2); have HM2 := Lib.hid hM2; have HD2 := Lib.hid hD2; have K98 := KSY X1 w3 hD2 HB97.out.1 HB97.out.2; clear hM2 hD2 K97 KSY)
          | (go_at_call 98; refine K98.mono ?_; rintro e w4 ⟨rfl, X2, hD3, hM3⟩; have HM3 := Lib.hid hM3; have HD3 := Lib.hid hD3; clear hM3 hD3 K98))
        go_ret3
        have hba := (hbz1.out.trans (HB.out.mono (by simp)))
        exact ⟨X2, HD3.out, (Mv.of_below X hba).trans (HM2.out.trans HM3.out), (fun h => by cases h), fun _ => rfl⟩
    · rw [if_neg (by decide)] at hop
      subst hop
      go_enter Tryz.func58, Tryz.ntmps58
      go_wp2_with (first
        | (go_at_call 53; refine KZ0.mono ?_; rintro e w1 ⟨rfl, hw⟩; obtain rfl := hw.symm)
        | (go_at_call 96; refine KSD.mono ?_; rintro e w2 ⟨⟨A, c, rfl, hr⟩, hb⟩; have K97 := KMK A c w2 hb hr; have HB := Lib.hid hb; clear hb hr KMK KSD)
        | (go_at_call 97; refine K97.mono ?_; rintro e w3 ⟨rfl, X1, hD2, hM2⟩; have HB97 := Lib.hid (mk_log HWL.out HBX.out HB.out hM2); have HM2 := Lib.hid hM2; have HD2 := Lib.hid hD2; have K98 := KSY X1 w3 hD2 HB97.out.1 HB97.out.2; clear hM2 hD2 K97 KSY)
        | (go_at_call 98; refine K98.mono ?_; rintro e w4 ⟨rfl, X2, hD3, hM3⟩; have HM3 := Lib.hid hM3; have HD3 := Lib.hid hD3; clear hM3 hD3 K98))
      go_ret3
      have hba := (hbz1.out.trans (HB.out.mono (by simp)))
      exact ⟨X1, HD2.out, (Mv.of_below X hba).trans HM2.out, (fun h => by cases h), fun _ => rfl⟩
end Go.Proofs.YtcmcdddnckcpcaaGreatDoor
