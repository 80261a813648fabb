/- names.Table.right, walked at a right table. -/
import Derived.Test.YtlkfnhcnfjdgbaaDoorMu
import Derived.Test.YtlkfnhcnfjdgbaaDoorRb
import Derived.Deep.QuietTactic
import Derived.BigQuiet
import Derived.OrdersHeld
import Derived.Deep.CutRange
import Derived.IntWalk
import Derived.Laws.Cover1
namespace Go.Proofs.YtlkfnhcnfjdgbaaDoor
open Go.RowKit Go.Maps Go.WideMaps
theorem bad2_any (u : Upd) (m : Int) (w : World) (hn : u.name.length ≤ 2000000) (hm : w.cell? ⟨0, 0, none⟩ = some (.int .i64 m)) (hg : goodB u.name = true) (hr : rightU u = true) :
    Calls Tryd.prog 62 #[uval u] w fun e w' => e = .returned (.bool false) ∧ Below w.heap.size w w' := by
  have hb := below_alloc w (.cells #[.string (mk u.name), .string (mk u.old), .string (mk u.new)] 39)
  have hbk := Blk.new w #[.string (mk u.name), .string (mk u.old), .string (mk u.new)] 39
  have K := good_any (mk u.name) m (w.alloc (.cells #[.string (mk u.name), .string (mk u.old), .string (mk u.new)] 39)) (by rw [mk_size]; exact hn) ((hb.cell (p := ⟨0, 0, none⟩) (cell_lt hm)).trans hm)
  have KR := fun w' => right_any u w'
  rw [mk_data, hg] at K
  rw [hr] at KR
  unfold uval at KR ⊢
  obtain ⟨A, hA⟩ : ∃ A, mk u.name = A := ⟨_, rfl⟩
  obtain ⟨B, hB⟩ : ∃ A, mk u.old = A := ⟨_, rfl⟩
  obtain ⟨C, hC⟩ : ∃ A, mk u.new = A := ⟨_, rfl⟩
  rw [hA, hB, hC] at K KR hb hbk ⊢
  have hs := hb.size
  have HBK := Lib.hid hbk
  have hl := hbk.lt
  clear hbk hA hB hC hg hr
  go_enter Tryd.func62, Tryd.ntmps62
  go_wp2_with (first
    | (go_at_call 8; refine K.mono ?_; rintro e w1 ⟨rfl, hb1⟩; have c0 := (HBK.out.below hb1).cell 0; have c1 := (HBK.out.below hb1).cell 1; have c2 := (HBK.out.below hb1).cell 2; simp at c0 c1 c2)
    | (go_at_call 51; refine (KR _).mono ?_; rintro e w2 ⟨rfl, hb2⟩))
  go_wp2
  go_ret
  exact ⟨rfl, (hb.trans (hb1.mono hs)).trans (hb2.mono (Nat.le_trans hs hb1.size))⟩
set_option maxHeartbeats 1600000 in
theorem index2_upd (A : Option Addr) (cap : Nat) (us : List Upd) (m : Int) (w : World) (hs : ∀ u ∈ us, u.name.length ≤ 2000000 ∧ goodB u.name = true ∧ rightU u = true) (hn : us.length ≤ 4294967296) (hm : w.cell? ⟨0, 0, none⟩ = some (.int .i64 m)) (hU : Upds w A us) :
    Calls Tryd.prog 70 #[.slice A us.length cap, .func (.func 62) #[] #[]] w fun e w' => e = .returned (.int .i64 (-1)) ∧ Below w.heap.size w w' := by
  obtain ⟨n, hl⟩ : ∃ n, us.length = n := ⟨_, rfl⟩
  rw [hl] at hn ⊢
  have HU := Lib.hid hU
  have HS := Lib.hid hs
  clear hU hs
  go_enter Tryd.func70, Tryd.ntmps70
  go_wp2
  go_loopw [5, 8] (fun _ i wr => ∃ k : Nat, k ≤ n ∧ i = .int .i64 k ∧ Below w.heap.size w wr) (fun _ i _ => n - (intOf i).toNat)
  case atStart => exact ⟨0, Nat.zero_le _, rfl, Below.refl _ _⟩
  case round =>
    obtain ⟨k, hk, rfl, hb⟩ := hrel
    by_cases hlt : k < n
    · have hkl : k < us.length := by omega
      obtain ⟨g, rfl, hgl, hc⟩ := HU.out.below (Nat.le_refl _) hb (by omega)
      obtain ⟨c0, c1, c2⟩ := hc k hkl
      obtain ⟨h1, h2, h3⟩ := HS.out _ (List.getElem_mem hkl)
      have K := bad2_any us[k] m wr h1 ((hb.cell (p := ⟨0, 0, none⟩) (cell_lt hm)).trans hm) h2 h3
      have k0 : (0 : Int) ≤ (k : Int) := by omega
      have k1 : (k : Int) < (n : Int) := by omega
      have hsz := hb.size
      obtain ⟨t, ht⟩ : ∃ t, us[k] = t := ⟨_, rfl⟩
      rw [ht] at c0 c1 c2 K
      unfold uval at K
      clear ht hc h1 h2 h3
      go_wp2_with (go_at_call 62; refine K.mono ?_; rintro e w' ⟨rfl, hb'⟩)
      go_wp2
      go_roundw
      case rel => exact ⟨k + 1, by omega, by go_num, hb.trans (hb'.mono hsz)⟩
      case measure => simp [intOf]; omega
    · obtain rfl : k = n := by omega
      go_wp2
      go_ret
      exact ⟨rfl, hb⟩
theorem contains2_upd (A : Option Addr) (cap : Nat) (us : List Upd) (m : Int) (w : World) (hs : ∀ u ∈ us, u.name.length ≤ 2000000 ∧ goodB u.name = true ∧ rightU u = true) (hn : us.length ≤ 4294967296) (hm : w.cell? ⟨0, 0, none⟩ = some (.int .i64 m)) (hU : Upds w A us) :
    Calls Tryd.prog 49 #[.slice A us.length cap, .func (.func 62) #[] #[]] w fun e w' => e = .returned (.bool false) ∧ Below w.heap.size w w' := by
  have K := index2_upd A cap us m w hs hn hm hU
  go_enter Tryd.func49, Tryd.ntmps49
  go_wp2_with (go_at_call 70; refine K.mono ?_; rintro e w' ⟨rfl, hb⟩)
  go_wp2
  go_ret
  exact ⟨rfl, hb⟩
theorem less_cmp' (a : Bs) : ∀ b, Op.bytesLess a b = decide (Lib.compareBytes a b < 0) := by
  induction a with
  | nil => intro b; cases b <;> simp [Op.bytesLess, Lib.compareBytes]
  | cons c a ih =>
    intro b
    cases b with
    | nil => simp [Op.bytesLess, Lib.compareBytes]
    | cons d b =>
      rw [Lib.compareBytes, Op.bytesLess]
      have := ih b
      by_cases h1 : c < d
      · simp [h1]
      · by_cases h2 : d < c
        · simp only [h1, h2, if_false, if_true, decide_false, Bool.false_or]
          have : (c == d) = false := beq_eq_false_iff_ne.2 (fun e => by subst e; exact h1 h2)
          simp [this]
        · have : c = d := UInt8.le_antisymm (UInt8.not_lt.1 h2) (UInt8.not_lt.1 h1)
          subst this
          simp [h1, ih b]
set_option maxRecDepth 100000 in
set_option maxHeartbeats 4000000 in
theorem tright_ok (A : Option Addr) (cap : Nat) (R : Refs) (hd : Bs) (B : Option Addr) (cb : Nat) (L : List Upd) (m : Int) (w : World) (hs : Sorted R) (hrl : R.length ≤ 100000) (hr : ∀ r ∈ R, r.1.length ≤ 2000000 ∧ goodB r.1 = true ∧ r.2.length = 32) (hR : RefsAt w A R)
    (hh : hd.length ≤ 2000000) (hbh : branchB hd = true) (hll : L.length ≤ 256) (hu : ∀ u ∈ L, u.name.length ≤ 2000000 ∧ goodB u.name = true ∧ rightU u = true) (hL : Upds w B L) (hm : w.cell? ⟨0, 0, none⟩ = some (.int .i64 m)) :
    Calls Tryd.prog 38 #[.agg #[.slice A R.length cap, .string (mk hd), .slice B L.length cb]] w fun e w' => e = .returned (.bool true) ∧ Below w.heap.size w w' := by
  have KB := fun w' hm' => branch_any (mk hd) m w' (by rw [mk_size]; exact hh) hm'
  simp only [mk_data, hbh] at KB
  have KC := fun w' hm' hu' => contains2_upd B cb L m w' hu (by omega) hm' hu'
  have KG := fun (s : Bs) (hsl : s.length ≤ 2000000) w' hm' => good_any (mk s) m w' (by rw [mk_size]; exact hsl) hm'
  simp only [mk_data] at KG
  obtain ⟨nR, hnR⟩ : ∃ n, R.length = n := ⟨_, rfl⟩
  obtain ⟨nL, hnL⟩ : ∃ n, L.length = n := ⟨_, rfl⟩
  obtain ⟨HDB, hHD⟩ : ∃ n, mk hd = n := ⟨_, rfl⟩
  rw [hnL] at KC hll
  rw [hnR] at hrl
  rw [hHD] at KB
  rw [hnR, hnL, hHD]
  have HNR := Lib.hid hnR
  have HRR := Lib.hid hr
  have HS := Lib.hid hs
  have hbx := Blk.new w #[.slice A nR cap, .string HDB, .slice B nL cb] 31
  have hb0 := below_alloc w (.cells #[.slice A nR cap, .string HDB, .slice B nL cb] 31)
  have hR1 := hR.below (Nat.le_refl _) hb0
  have hL1 := hL.below (Nat.le_refl _) hb0
  have hm1 := (hb0.cell (p := ⟨0, 0, none⟩) (cell_lt hm)).trans hm
  obtain ⟨W, hW⟩ : ∃ W, w.alloc (.cells #[.slice A nR cap, .string HDB, .slice B nL cb] 31) = W := ⟨_, rfl⟩
  rw [hW] at hbx hb0 hR1 hL1 hm1
  have Hb0 := Lib.hid hb0
  have hs0 := hb0.size
  obtain ⟨H, hH⟩ : ∃ H, w.heap.size = H := ⟨_, rfl⟩
  rw [hH] at hbx
  have HH := Lib.hid hH
  have HX := Lib.hid hbx
  have HR := Lib.hid hR1
  have HL := Lib.hid hL1
  have hHl := hbx.lt
  have x0 := hbx.cell 0
  simp at x0
  clear hnR hnL hHD hr hs hR hL hbx hb0 hR1 hL1 hbh hh hu hm
  go_enter Tryd.func38, Tryd.ntmps38
  go_wp2
  clear hW hH x0
  go_loopw [3, 4, 8] (fun _ _ iv wr => ∃ k : Nat, k ≤ nR ∧ iv = .int .i64 k ∧ Below W.heap.size W wr) (fun _ _ iv _ => nR - (intOf iv).toNat)
  case atStart => exact ⟨0, Nat.zero_le _, rfl, Below.refl _ _⟩
  case round =>
    obtain ⟨k, hk, rfl, hb⟩ := hrel
    have k0 : (0 : Int) ≤ (k : Int) := by omega
    have k9 : (k : Int) ≤ 100000 := by omega
    have hsz := hb.size
    have hHw : H < wr.heap.size := by omega
    have hbk := HX.out.below hb
    have x0 := hbk.cell 0
    have x1 := hbk.cell 1
    have x2 := hbk.cell 2
    simp at x0 x1 x2
    have hmw := (hb.cell (p := ⟨0, 0, none⟩) (cell_lt hm1)).trans hm1
    have HB := Lib.hid hb
    clear hb hbk
    rcases Nat.lt_or_ge k nR with hlt | hge
    · have k1 : (k : Int) < (nR : Int) := by omega
      have hkl : k < R.length := by rw [HNR.out]; exact hlt
      obtain ⟨g, rfl, hgl, hc⟩ := HR.out.below (Nat.le_refl _) HB.out (by omega)
      obtain ⟨c0, c1⟩ := hc k hkl
      obtain ⟨e1, e2, e3⟩ := HRR.out _ (List.getElem_mem hkl)
      have KG1 := KG R[k].1 e1
      rw [e2] at KG1
      have hz : (mk R[k].2).size = 32 := by rw [mk_size]; exact e3
      obtain ⟨X1, hX1⟩ : ∃ x, mk R[k].1 = x := ⟨_, rfl⟩
      obtain ⟨X2, hX2⟩ : ∃ x, mk R[k].2 = x := ⟨_, rfl⟩
      rw [hX1] at c0 KG1
      rw [hX2] at c1 hz
      have hz' : (X2.size : Int) = 32 := by omega
      have prev : Hid (∀ q, k = q + 1 → ∃ Y, wr.cell? ⟨g, q * 2, none⟩ = some (.string Y) ∧ Op.bytesLess X1.toList Y.toList = false ∧ ¬ X1.toList = Y.toList) := Lib.hid fun q hq => by
        subst hq
        refine ⟨mk (R[q]'(by omega)).1, (hc q (by omega)).1, ?_⟩
        have hlt2 := List.pairwise_iff_getElem.1 HS.out q (q + 1) (by omega) hkl (by omega)
        unfold ltB at hlt2
        have a1 : Op.bytesLess X1.toList (mk (R[q]'(by omega)).1).toList = false := by
          rw [← hX1, mk_toList', mk_toList', less_cmp', cmp_anti]
          simp; omega
        have a2 : (X1.toList == (mk (R[q]'(by omega)).1).toList) = false := by
          rw [← hX1, mk_toList', mk_toList']
          exact beq_eq_false_iff_ne.2 (fun e => by rw [e, cmp_self] at hlt2; omega)
        exact ⟨a1, beq_eq_false_iff_ne.1 a2⟩
      have hbn := Blk.new wr #[.string X1, .string X2] 41
      have hbw := below_alloc wr (.cells #[.string X1, .string X2] 41)
      obtain ⟨N, hN⟩ : ∃ N, wr.heap.size = N := ⟨_, rfl⟩
      obtain ⟨WN, hWN⟩ : ∃ x, wr.alloc (.cells #[.string X1, .string X2] 41) = x := ⟨_, rfl⟩
      have hs2 := hbw.size
      have y0 := (hbw.cell (p := ⟨H, 0, none⟩) hHw).trans x0
      have hm2 := (hbw.cell (p := ⟨0, 0, none⟩) (cell_lt hmw)).trans hmw
      rw [hWN] at hbn hbw y0 hm2 hs2
      rw [hN] at hbn hgl hs2 hHw
      have n0 := hbn.cell 0
      have n1 := hbn.cell 1
      have nl := hbn.lt
      simp at n0 n1
      have hbw' := Lib.hid hbw
      have HN := Lib.hid hN
      clear hc hX1 hX2 hbn e1 e2 e3 hz
      cases k with
      | zero =>
        clear prev hbw x1 x2
        have hz0 : ((0 : Nat) : Int) = 0 := rfl
        rw [hz0] at k0 k1 k9 ⊢
        go_wp2
        clear hN hWN x0 c0 c1 hmw
        have mixed : Tryd.prog.follows Departure.mixedOrders = true := by kernel_rfl
        refine wp_region_held (S := fun w' => w'.cell? ⟨N, 0, none⟩ = some (.string X1) ∧ w'.cell? ⟨N, 1, none⟩ = some (.string X2)) mixed ?_
        change wpAnyH _ _ _ _ _ _ _ _ WN.drew
        have HS0 : WN.drew.cell? ⟨N, 0, none⟩ = some (.string X1) ∧ WN.drew.cell? ⟨N, 1, none⟩ = some (.string X2) := ⟨n0, n1⟩
        refine wpAnyH_take (i := 0) (v := .pointer (some ⟨N, 0, none⟩)) rfl (by kernel_rfl) (by kernel_rfl) (by kernel_rfl) (fun c a w h => h) (.inl ⟨by rfl, fun w' hS => ?_⟩) ?_ ?_
        · have hS0 := hS.1; have hS1 := hS.2; go_simp
        · exact HS0
        try go_simp
        refine wpAnyH_take (i := 1) (v := .string X1) rfl (by kernel_rfl) (by kernel_rfl) (by kernel_rfl) (fun c a w h => h) (.inl ⟨by rfl, fun w' hS => ?_⟩) ?_ ?_
        · have hS0 := hS.1; have hS1 := hS.2; go_simp
        · exact HS0
        try go_simp
        refine wpAnyH_all (rs := [2]) (by kernel_rfl) (by simp) ?_
        intro i hi
        simp only [List.mem_cons, List.not_mem_nil, or_false] at hi
        subst hi
        unfold wpOp
        go_simp
        refine .inl ?_
        go_at_call 8
        refine (KG1 _ (by exact hm2)).mono ?_
        rintro e w8 ⟨rfl, hb8⟩
        have HS8 : w8.cell? ⟨N, 0, none⟩ = some (.string X1) ∧ w8.cell? ⟨N, 1, none⟩ = some (.string X2) := ⟨(hb8.cell (p := ⟨N, 0, none⟩) nl).trans n0, (hb8.cell (p := ⟨N, 1, none⟩) nl).trans n1⟩
        refine ⟨HS8, ?_⟩
        try go_simp
        refine wpAnyH_take (i := 3) (v := .bool false) rfl (by kernel_rfl) (by kernel_rfl) (by kernel_rfl) (fun c a w h => h) (.inl ⟨by rfl, fun w' hS => ?_⟩) ?_ ?_
        · have hS0 := hS.1; have hS1 := hS.2; go_simp
        · exact HS8
        try go_simp
        refine wpAnyH_take (i := 4) (v := .bool false) rfl (by kernel_rfl) (by kernel_rfl) (by kernel_rfl) (fun c a w h => h) (.inl ⟨by rfl, fun w' hS => ?_⟩) ?_ ?_
        · have hS0 := hS.1; have hS1 := hS.2; go_simp
        · exact HS8
        try go_simp
        refine wpAnyH_take (i := 5) (v := .pointer (some ⟨N, 1, none⟩)) rfl (by kernel_rfl) (by kernel_rfl) (by kernel_rfl) (fun c a w h => h) (.inl ⟨by rfl, fun w' hS => ?_⟩) ?_ ?_
        · have hS0 := hS.1; have hS1 := hS.2; go_simp
        · exact HS8
        try go_simp
        refine wpAnyH_take (i := 6) (v := .string X2) rfl (by kernel_rfl) (by kernel_rfl) (by kernel_rfl) (fun c a w h => h) (.inl ⟨by rfl, fun w' hS => ?_⟩) ?_ ?_
        · have hS0 := hS.1; have hS1 := hS.2; go_simp
        · exact HS8
        try go_simp
        refine wpAnyH_take (i := 7) (v := .int .i64 32) rfl (by kernel_rfl) (by kernel_rfl) (by kernel_rfl) (fun c a w h => h) (.inl ⟨by rfl, fun w' hS => ?_⟩) ?_ ?_
        · have hS0 := hS.1; have hS1 := hS.2; go_simp
        · exact HS8
        try go_simp
        refine wpAnyH_take (i := 8) (v := .bool false) rfl (by kernel_rfl) (by kernel_rfl) (by kernel_rfl) (fun c a w h => h) (.inl ⟨by rfl, fun w' hS => ?_⟩) ?_ ?_
        · have hS0 := hS.1; have hS1 := hS.2; go_simp
        · exact HS8
        try go_simp
        refine wpAnyH_take (i := 9) (v := .bool false) rfl (by kernel_rfl) (by kernel_rfl) (by kernel_rfl) (fun c a w h => h) (.inl ⟨by rfl, fun w' hS => ?_⟩) ?_ ?_
        · have hS0 := hS.1; have hS1 := hS.2; go_simp
        · exact HS8
        try go_simp
        refine wpAnyH_take (i := 10) (v := .bool false) rfl (by kernel_rfl) (by kernel_rfl) (by kernel_rfl) (fun c a w h => h) (.inl ⟨by rfl, fun w' hS => ?_⟩) ?_ ?_
        · have hS0 := hS.1; have hS1 := hS.2; go_simp
        · exact HS8
        try go_simp
        refine wpAnyH_take (i := 11) (v := .int .i64 0) rfl (by kernel_rfl) (by kernel_rfl) (by kernel_rfl) (fun c a w h => h) (.inl ⟨by rfl, fun w' hS => ?_⟩) ?_ ?_
        · have hS0 := hS.1; have hS1 := hS.2; go_simp
        · exact HS8
        try go_simp
        refine wpAnyH_take (i := 12) (v := .bool false) rfl (by kernel_rfl) (by kernel_rfl) (by kernel_rfl) (fun c a w h => h) (.inl ⟨by rfl, fun w' hS => ?_⟩) ?_ ?_
        · have hS0 := hS.1; have hS1 := hS.2; go_simp
        · exact HS8
        try go_simp
        refine wpAnyH_take (i := 13) (v := .bool false) rfl (by kernel_rfl) (by kernel_rfl) (by kernel_rfl) (fun c a w h => h) (.inl ⟨by rfl, fun w' hS => ?_⟩) ?_ ?_
        · have hS0 := hS.1; have hS1 := hS.2; go_simp
        · exact HS8
        try go_simp
        refine wpAnyH_take (i := 14) (v := undef) rfl (by kernel_rfl) (by kernel_rfl) (by kernel_rfl) (fun c a w h => h) (.inr ⟨by rfl, rfl⟩) ?_ ?_
        · exact HS8
        try go_simp
        refine wpAnyH_take (i := 15) (v := undef) rfl (by kernel_rfl) (by kernel_rfl) (by kernel_rfl) (fun c a w h => h) (.inr ⟨by rfl, rfl⟩) ?_ ?_
        · exact HS8
        try go_simp
        refine wpAnyH_take (i := 16) (v := undef) rfl (by kernel_rfl) (by kernel_rfl) (by kernel_rfl) (fun c a w h => h) (.inr ⟨by rfl, rfl⟩) ?_ ?_
        · exact HS8
        try go_simp
        refine wpAnyH_take (i := 17) (v := undef) rfl (by kernel_rfl) (by kernel_rfl) (by kernel_rfl) (fun c a w h => h) (.inr ⟨by rfl, rfl⟩) ?_ ?_
        · exact HS8
        try go_simp
        refine wpAnyH_take (i := 18) (v := undef) rfl (by kernel_rfl) (by kernel_rfl) (by kernel_rfl) (fun c a w h => h) (.inr ⟨by rfl, rfl⟩) ?_ ?_
        · exact HS8
        try go_simp
        refine wpAnyH_take (i := 19) (v := undef) rfl (by kernel_rfl) (by kernel_rfl) (by kernel_rfl) (fun c a w h => h) (.inr ⟨by rfl, rfl⟩) ?_ ?_
        · exact HS8
        try go_simp
        refine wpAnyH_take (i := 20) (v := undef) rfl (by kernel_rfl) (by kernel_rfl) (by kernel_rfl) (fun c a w h => h) (.inr ⟨by rfl, rfl⟩) ?_ ?_
        · exact HS8
        try go_simp
        refine wpAnyH_take (i := 21) (v := undef) rfl (by kernel_rfl) (by kernel_rfl) (by kernel_rfl) (fun c a w h => h) (.inr ⟨by rfl, rfl⟩) ?_ ?_
        · exact HS8
        try go_simp
        refine wpAnyH_take (i := 22) (v := undef) rfl (by kernel_rfl) (by kernel_rfl) (by kernel_rfl) (fun c a w h => h) (.inr ⟨by rfl, rfl⟩) ?_ ?_
        · exact HS8
        try go_simp
        refine wpAnyH_take (i := 23) (v := undef) rfl (by kernel_rfl) (by kernel_rfl) (by kernel_rfl) (fun c a w h => h) (.inr ⟨by rfl, rfl⟩) ?_ ?_
        · exact HS8
        try go_simp
        refine wpAnyH_take (i := 24) (v := .bool false) rfl (by kernel_rfl) (by kernel_rfl) (by kernel_rfl) (fun c a w h => h) (.inl ⟨by rfl, fun w' hS => ?_⟩) ?_ ?_
        · have hS0 := hS.1; have hS1 := hS.2; go_simp
        · exact HS8
        try go_simp
        refine wpAnyH_take (i := 25) (v := .bool false) rfl (by kernel_rfl) (by kernel_rfl) (by kernel_rfl) (fun c a w h => h) (.inl ⟨by rfl, fun w' hS => ?_⟩) ?_ ?_
        · have hS0 := hS.1; have hS1 := hS.2; go_simp
        · exact HS8
        try go_simp
        refine wpAnyH_done (by kernel_rfl) ?_ _
        go_wp2
        go_roundw
        case rel => exact ⟨1, by omega, by go_num, HB.out.trans (((hbw'.out.drew).trans (hb8.mono hbw'.out.size)).mono HB.out.size)⟩
        case measure => first | (simp [intOf]; done) | (simp [intOf]; omega)
      | succ q =>
        obtain ⟨Y, p0, ha1, ha2⟩ := prev.out q rfl
        have p0 := (hbw.cell (p := ⟨g, q * 2, none⟩) (by rw [hN]; exact hgl)).trans p0
        obtain ⟨pp, hpp⟩ : ∃ z : Nat, q + 1 = z := ⟨_, rfl⟩
        have hpp2 := Lib.hid hpp
        have hppi : ((q + 1 : Nat) : Int) = (pp : Int) := by rw [hpp]
        have hq1 : (pp : Int) - 1 = (q : Int) := by omega
        have hq0 : (0 : Int) ≤ (q : Int) := by omega
        have hqn : (q : Int) < (nR : Int) := by omega
        have hq2 : (0 : Int) < (pp : Int) := by omega
        have hq3 : 0 < pp := by omega
        have hwr1 : IntKind.i64.wrap (q : Int) = (q : Int) := by simp [IntKind.wrap, IntKind.bits, IntKind.signed]; omega
        rw [hpp] at c0 c1 k0 k1 k9
        simp only [hpp]
        clear prev hbw x1 x2 hppi hpp
        go_wp2
        clear hN hWN x0 c0 c1 hmw
        have mixed : Tryd.prog.follows Departure.mixedOrders = true := by kernel_rfl
        refine wp_region_held (S := fun w' => w'.cell? ⟨N, 0, none⟩ = some (.string X1) ∧ w'.cell? ⟨N, 1, none⟩ = some (.string X2) ∧ w'.cell? ⟨H, 0, none⟩ = some (.slice (some ⟨g, 0, none⟩) nR cap) ∧ w'.cell? ⟨g, q * 2, none⟩ = some (.string Y)) mixed ?_
        change wpAnyH _ _ _ _ _ _ _ _ WN.drew
        have HS0 : WN.drew.cell? ⟨N, 0, none⟩ = some (.string X1) ∧ WN.drew.cell? ⟨N, 1, none⟩ = some (.string X2) ∧ WN.drew.cell? ⟨H, 0, none⟩ = some (.slice (some ⟨g, 0, none⟩) nR cap) ∧ WN.drew.cell? ⟨g, q * 2, none⟩ = some (.string Y) := ⟨n0, n1, y0, p0⟩
        refine wpAnyH_take (i := 0) (v := .pointer (some ⟨N, 0, none⟩)) rfl (by kernel_rfl) (by kernel_rfl) (by kernel_rfl) (fun c a w h => h) (.inl ⟨by rfl, fun w' hS => ?_⟩) ?_ ?_
        · have hS0 := hS.1; have hS1 := hS.2.1; have hS2 := hS.2.2.1; have hS3 := hS.2.2.2; go_simp
        · exact HS0
        try go_simp
        refine wpAnyH_take (i := 1) (v := .string X1) rfl (by kernel_rfl) (by kernel_rfl) (by kernel_rfl) (fun c a w h => h) (.inl ⟨by rfl, fun w' hS => ?_⟩) ?_ ?_
        · have hS0 := hS.1; have hS1 := hS.2.1; have hS2 := hS.2.2.1; have hS3 := hS.2.2.2; go_simp
        · exact HS0
        try go_simp
        refine wpAnyH_all (rs := [2]) (by kernel_rfl) (by simp) ?_
        intro i hi
        simp only [List.mem_cons, List.not_mem_nil, or_false] at hi
        subst hi
        unfold wpOp
        go_simp
        refine .inl ?_
        go_at_call 8
        refine (KG1 _ (by exact hm2)).mono ?_
        rintro e w8 ⟨rfl, hb8⟩
        have HS8 : w8.cell? ⟨N, 0, none⟩ = some (.string X1) ∧ w8.cell? ⟨N, 1, none⟩ = some (.string X2) ∧ w8.cell? ⟨H, 0, none⟩ = some (.slice (some ⟨g, 0, none⟩) nR cap) ∧ w8.cell? ⟨g, q * 2, none⟩ = some (.string Y) := ⟨(hb8.cell (p := ⟨N, 0, none⟩) nl).trans n0, (hb8.cell (p := ⟨N, 1, none⟩) nl).trans n1, (hb8.cell (p := ⟨H, 0, none⟩) (Nat.lt_of_lt_of_le hHw hs2)).trans y0, (hb8.cell (p := ⟨g, q * 2, none⟩) (Nat.lt_of_lt_of_le hgl hs2)).trans p0⟩
        refine ⟨HS8, ?_⟩
        try go_simp
        refine wpAnyH_take (i := 3) (v := .bool false) rfl (by kernel_rfl) (by kernel_rfl) (by kernel_rfl) (fun c a w h => h) (.inl ⟨by rfl, fun w' hS => ?_⟩) ?_ ?_
        · have hS0 := hS.1; have hS1 := hS.2.1; have hS2 := hS.2.2.1; have hS3 := hS.2.2.2; go_simp
        · exact HS8
        try go_simp
        refine wpAnyH_take (i := 4) (v := .bool false) rfl (by kernel_rfl) (by kernel_rfl) (by kernel_rfl) (fun c a w h => h) (.inl ⟨by rfl, fun w' hS => ?_⟩) ?_ ?_
        · have hS0 := hS.1; have hS1 := hS.2.1; have hS2 := hS.2.2.1; have hS3 := hS.2.2.2; go_simp
        · exact HS8
        try go_simp
        refine wpAnyH_take (i := 5) (v := .pointer (some ⟨N, 1, none⟩)) rfl (by kernel_rfl) (by kernel_rfl) (by kernel_rfl) (fun c a w h => h) (.inl ⟨by rfl, fun w' hS => ?_⟩) ?_ ?_
        · have hS0 := hS.1; have hS1 := hS.2.1; have hS2 := hS.2.2.1; have hS3 := hS.2.2.2; go_simp
        · exact HS8
        try go_simp
        refine wpAnyH_take (i := 6) (v := .string X2) rfl (by kernel_rfl) (by kernel_rfl) (by kernel_rfl) (fun c a w h => h) (.inl ⟨by rfl, fun w' hS => ?_⟩) ?_ ?_
        · have hS0 := hS.1; have hS1 := hS.2.1; have hS2 := hS.2.2.1; have hS3 := hS.2.2.2; go_simp
        · exact HS8
        try go_simp
        refine wpAnyH_take (i := 7) (v := .int .i64 32) rfl (by kernel_rfl) (by kernel_rfl) (by kernel_rfl) (fun c a w h => h) (.inl ⟨by rfl, fun w' hS => ?_⟩) ?_ ?_
        · have hS0 := hS.1; have hS1 := hS.2.1; have hS2 := hS.2.2.1; have hS3 := hS.2.2.2; go_simp
        · exact HS8
        try go_simp
        refine wpAnyH_take (i := 8) (v := .bool false) rfl (by kernel_rfl) (by kernel_rfl) (by kernel_rfl) (fun c a w h => h) (.inl ⟨by rfl, fun w' hS => ?_⟩) ?_ ?_
        · have hS0 := hS.1; have hS1 := hS.2.1; have hS2 := hS.2.2.1; have hS3 := hS.2.2.2; go_simp
        · exact HS8
        try go_simp
        refine wpAnyH_take (i := 9) (v := .bool false) rfl (by kernel_rfl) (by kernel_rfl) (by kernel_rfl) (fun c a w h => h) (.inl ⟨by rfl, fun w' hS => ?_⟩) ?_ ?_
        · have hS0 := hS.1; have hS1 := hS.2.1; have hS2 := hS.2.2.1; have hS3 := hS.2.2.2; go_simp
        · exact HS8
        try go_simp
        refine wpAnyH_take (i := 10) (v := .bool false) rfl (by kernel_rfl) (by kernel_rfl) (by kernel_rfl) (fun c a w h => h) (.inl ⟨by rfl, fun w' hS => ?_⟩) ?_ ?_
        · have hS0 := hS.1; have hS1 := hS.2.1; have hS2 := hS.2.2.1; have hS3 := hS.2.2.2; go_simp
        · exact HS8
        try go_simp
        refine wpAnyH_take (i := 11) (v := .int .i64 pp) rfl (by kernel_rfl) (by kernel_rfl) (by kernel_rfl) (fun c a w h => h) (.inl ⟨by rfl, fun w' hS => ?_⟩) ?_ ?_
        · have hS0 := hS.1; have hS1 := hS.2.1; have hS2 := hS.2.2.1; have hS3 := hS.2.2.2; go_simp
        · exact HS8
        try go_simp
        refine wpAnyH_take (i := 12) (v := .bool true) rfl (by kernel_rfl) (by kernel_rfl) (by kernel_rfl) (fun c a w h => h) (.inl ⟨by rfl, fun w' hS => ?_⟩) ?_ ?_
        · have hS0 := hS.1; have hS1 := hS.2.1; have hS2 := hS.2.2.1; have hS3 := hS.2.2.2; go_simp
        · exact HS8
        try go_simp
        refine wpAnyH_take (i := 13) (v := .bool true) rfl (by kernel_rfl) (by kernel_rfl) (by kernel_rfl) (fun c a w h => h) (.inl ⟨by rfl, fun w' hS => ?_⟩) ?_ ?_
        · have hS0 := hS.1; have hS1 := hS.2.1; have hS2 := hS.2.2.1; have hS3 := hS.2.2.2; go_simp
        · exact HS8
        try go_simp
        refine wpAnyH_take (i := 14) (v := .pointer (some ⟨N, 0, none⟩)) rfl (by kernel_rfl) (by kernel_rfl) (by kernel_rfl) (fun c a w h => h) (.inl ⟨by rfl, fun w' hS => ?_⟩) ?_ ?_
        · have hS0 := hS.1; have hS1 := hS.2.1; have hS2 := hS.2.2.1; have hS3 := hS.2.2.2; go_simp
        · exact HS8
        try go_simp
        refine wpAnyH_take (i := 15) (v := .string X1) rfl (by kernel_rfl) (by kernel_rfl) (by kernel_rfl) (fun c a w h => h) (.inl ⟨by rfl, fun w' hS => ?_⟩) ?_ ?_
        · have hS0 := hS.1; have hS1 := hS.2.1; have hS2 := hS.2.2.1; have hS3 := hS.2.2.2; go_simp
        · exact HS8
        try go_simp
        refine wpAnyH_take (i := 16) (v := .pointer (some ⟨H, 0, none⟩)) rfl (by kernel_rfl) (by kernel_rfl) (by kernel_rfl) (fun c a w h => h) (.inl ⟨by rfl, fun w' hS => ?_⟩) ?_ ?_
        · have hS0 := hS.1; have hS1 := hS.2.1; have hS2 := hS.2.2.1; have hS3 := hS.2.2.2; go_simp
        · exact HS8
        try go_simp
        refine wpAnyH_take (i := 17) (v := .slice (some ⟨g, 0, none⟩) nR cap) rfl (by kernel_rfl) (by kernel_rfl) (by kernel_rfl) (fun c a w h => h) (.inl ⟨by rfl, fun w' hS => ?_⟩) ?_ ?_
        · have hS0 := hS.1; have hS1 := hS.2.1; have hS2 := hS.2.2.1; have hS3 := hS.2.2.2; go_simp
        · exact HS8
        try go_simp
        refine wpAnyH_take (i := 18) (v := .int .i64 pp) rfl (by kernel_rfl) (by kernel_rfl) (by kernel_rfl) (fun c a w h => h) (.inl ⟨by rfl, fun w' hS => ?_⟩) ?_ ?_
        · have hS0 := hS.1; have hS1 := hS.2.1; have hS2 := hS.2.2.1; have hS3 := hS.2.2.2; go_simp
        · exact HS8
        try go_simp
        refine wpAnyH_take (i := 19) (v := .int .i64 q) rfl (by kernel_rfl) (by kernel_rfl) (by kernel_rfl) (fun c a w h => h) (.inl ⟨by rfl, fun w' hS => ?_⟩) ?_ ?_
        · have hS0 := hS.1; have hS1 := hS.2.1; have hS2 := hS.2.2.1; have hS3 := hS.2.2.2; go_simp
        · exact HS8
        try go_simp
        refine wpAnyH_take (i := 20) (v := .pointer (some ⟨g, q * 2, none⟩)) rfl (by kernel_rfl) (by kernel_rfl) (by kernel_rfl) (fun c a w h => h) (.inl ⟨by rfl, fun w' hS => ?_⟩) ?_ ?_
        · have hS0 := hS.1; have hS1 := hS.2.1; have hS2 := hS.2.2.1; have hS3 := hS.2.2.2; go_simp
        · exact HS8
        try go_simp
        refine wpAnyH_take (i := 21) (v := .pointer (some ⟨g, q * 2, none⟩)) rfl (by kernel_rfl) (by kernel_rfl) (by kernel_rfl) (fun c a w h => h) (.inl ⟨by rfl, fun w' hS => ?_⟩) ?_ ?_
        · have hS0 := hS.1; have hS1 := hS.2.1; have hS2 := hS.2.2.1; have hS3 := hS.2.2.2; go_simp
        · exact HS8
        try go_simp
        refine wpAnyH_take (i := 22) (v := .string Y) rfl (by kernel_rfl) (by kernel_rfl) (by kernel_rfl) (fun c a w h => h) (.inl ⟨by rfl, fun w' hS => ?_⟩) ?_ ?_
        · have hS0 := hS.1; have hS1 := hS.2.1; have hS2 := hS.2.2.1; have hS3 := hS.2.2.2; go_simp
        · exact HS8
        try go_simp
        refine wpAnyH_take (i := 23) (v := .bool false) rfl (by kernel_rfl) (by kernel_rfl) (by kernel_rfl) (fun c a w h => h) (.inl ⟨by rfl, fun w' hS => ?_⟩) ?_ ?_
        · have hS0 := hS.1; have hS1 := hS.2.1; have hS2 := hS.2.2.1; have hS3 := hS.2.2.2; go_simp
        · exact HS8
        try go_simp
        refine wpAnyH_take (i := 24) (v := .bool false) rfl (by kernel_rfl) (by kernel_rfl) (by kernel_rfl) (fun c a w h => h) (.inl ⟨by rfl, fun w' hS => ?_⟩) ?_ ?_
        · have hS0 := hS.1; have hS1 := hS.2.1; have hS2 := hS.2.2.1; have hS3 := hS.2.2.2; go_simp
        · exact HS8
        try go_simp
        refine wpAnyH_take (i := 25) (v := .bool false) rfl (by kernel_rfl) (by kernel_rfl) (by kernel_rfl) (fun c a w h => h) (.inl ⟨by rfl, fun w' hS => ?_⟩) ?_ ?_
        · have hS0 := hS.1; have hS1 := hS.2.1; have hS2 := hS.2.2.1; have hS3 := hS.2.2.2; go_simp
        · exact HS8
        try go_simp
        refine wpAnyH_done (by kernel_rfl) ?_ _
        go_wp2
        go_roundw
        case rel => exact ⟨pp + 1, by have := hpp2.out; omega, by go_num, HB.out.trans (((hbw'.out.drew).trans (hb8.mono hbw'.out.size)).mono HB.out.size)⟩
        case measure => have := hpp2.out; first | (simp [intOf]; done) | (simp [intOf]; omega)
    · obtain rfl : k = nR := by omega
      have l9 : (nL : Int) ≤ 256 := by omega
      have hL1 := HL.out.below (Nat.le_refl _) HB.out
      go_wp2_with (first
        | (go_at_call 10; refine (KB _ hmw).mono ?_; rintro e w1 ⟨rfl, hb1⟩; have x2' := (hb1.cell (p := ⟨H, 2, none⟩) hHw).trans x2)
        | (go_at_call 49; refine (KC _ ((hb1.cell (p := ⟨0, 0, none⟩) (cell_lt hmw)).trans hmw) (hL1.below (Nat.le_refl _) hb1)).mono ?_; rintro e w2 ⟨rfl, hb2⟩))
      go_wp2
      go_ret
      exact ⟨rfl, Hb0.out.trans ((HB.out.trans ((hb1.trans (hb2.mono hb1.size)).mono HB.out.size)).mono hs0)⟩
end Go.Proofs.YtlkfnhcnfjdgbaaDoor
