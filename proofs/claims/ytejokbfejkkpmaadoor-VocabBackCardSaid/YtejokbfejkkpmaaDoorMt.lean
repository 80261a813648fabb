/- merges.(*row).meet, walked. -/
import Derived.Test.YtejokbfejkkpmaaDoorRt
import Derived.StillTailTactics
namespace Go.Proofs.YtejokbfejkkpmaaDoor
open Go.RowKit Go.Maps Go.WideMaps
theorem row_at {w : World} {B e n : Nat} {v : Value} {xs : List Value} (h : w.ownsRow B e 1 v n xs) {k : Nat} {u : Value} (hu : xs[k]? = some u) : ∃ g cap, v = .slice (some ⟨g, 0, none⟩) n cap ∧ w.cell? ⟨g, k, none⟩ = some u ∧ g < w.heap.size ∧ k < n := by
  have hk : k < xs.length := by
    rcases Nat.lt_or_ge k xs.length with h4 | h4
    · exact h4
    · rw [List.getElem?_eq_none h4] at hu; cases hu
  have hl := h.1
  obtain ⟨g, c, hv, _, hg⟩ := h.form (by omega)
  subst hv
  have := h.cellAt k (by omega)
  rw [hu] at this
  exact ⟨g, c, rfl, this, hg, by omega⟩
theorem row_cell1 {w : World} {B e n n' cap g : Nat} {xs : List Value} (h : w.ownsRow B e 1 (.slice (some ⟨g, 0, none⟩) n cap) n' xs) {k : Nat} {u : Value} (hu : xs[k]? = some u) : w.cell? ⟨g, k, none⟩ = some u ∧ k < n' := by
  obtain ⟨g', cap', hv, h1, h2, h3⟩ := row_at h hu
  injection hv with hv _ _
  injection hv with hv
  injection hv with hv
  subst hv
  exact ⟨h1, by omega⟩
def spotOf (f : Pr → Option Nat) (k : Nat) (x y : Tx) : List Sp := match f (x, y) with | some r => [⟨r, k, x, y⟩] | none => []
theorem grown_any {w w' : World} {row : Option Nat} (h : w.grownBy w' none) : w.grownBy w' row := ⟨h.os, h.tape, h.output, h.size, fun k hk _ => h.block k hk (by simp)⟩
theorem below_grown {B : Nat} {w w' : World} (h : w.grownBy w' none) (hB : B ≤ w.heap.size) : Below B w w' :=
  ⟨h.os, h.tape, h.output, h.size, fun k hk => h.block k (by omega) (by simp)⟩
theorem meet_neg (R : Nat) (w : World) : Calls Tryd.prog 45 #[.pointer (some ⟨R, 0, none⟩), .int .i64 (-1)] w fun e w' => e = .returned (.tuple #[]) ∧ ∃ m, w' = w.drewN m := by
  go_enter Tryd.func45, Tryd.ntmps45
  go_wp2_with fail
  go_quiet (fail)
  go_wp2
  refine bodyPost_ret (results_none rfl _ _ _) rfl ?_
  exact ⟨rfl, _, rfl⟩
set_option maxRecDepth 100000 in
set_option maxHeartbeats 4000000 in
theorem meet_out (B R k q cnt mb : Nat) (f : Pr → Option Nat) (P N Q Z : Value) (ps : List Tx) (nx pv : List Int) (S : List Sp) (w : World) (h : RS B w R f cnt P N Q Z mb ps nx pv S) (hk : nx[k]? = some (q : Int)) (hq : ps.length ≤ q) :
    Calls Tryd.prog 45 #[.pointer (some ⟨R, 0, none⟩), .int .i64 k] w fun e w' => e = .returned (.tuple #[]) ∧ ∃ m, w' = w.drewN m := by
  obtain ⟨g, cn, rfl, hcell, _, hkn⟩ := row_at h.hN (icells_at nx k _ hk)
  obtain ⟨A, cp, rfl⟩ := own_form h.hP
  have c0 := h.hb.cell 0
  have c1 := h.hb.cell 1
  simp at c0 c1
  obtain ⟨L, hL⟩ : ∃ L, ps.length = L := ⟨_, rfl⟩
  obtain ⟨n, hn⟩ : ∃ n, nx.length = n := ⟨_, rfl⟩
  rw [hL] at c0 hq
  rw [hn] at c1 hkn
  have k0 : (0 : Int) ≤ (k : Int) := by omega
  have k1 : (k : Int) < (n : Int) := by omega
  have d0 : decide ((k : Int) < 0) = false := by simp
  have d1 : decide (L ≤ q) = true := by simpa using hq
  clear h hk hL hn hq
  go_enter Tryd.func45, Tryd.ntmps45
  go_wp2_with fail
  go_quiet (fail)
  go_wp2
  refine bodyPost_ret (results_none rfl _ _ _) rfl ?_
  exact ⟨rfl, _, rfl⟩
set_option maxRecDepth 100000 in
set_option maxHeartbeats 4000000 in
theorem meet_in (B R k q cnt mb : Nat) (f : Pr → Option Nat) (P N Q Z : Value) (ps : List Tx) (nx pv : List Int) (S : List Sp) (w : World) (x y : Tx) (h : RS B w R f cnt P N Q Z mb ps nx pv S) (hk : nx[k]? = some (q : Int))
    (hx : ps[k]? = some x) (hy : ps[q]? = some y) (hh : HeapTo S S.length) (hS : S.length < 100000) (hxl : x.length ≤ maxLen) (hyl : y.length ≤ maxLen) :
    Calls Tryd.prog 45 #[.pointer (some ⟨R, 0, none⟩), .int .i64 k] w fun e w' => e = .returned (.tuple #[]) ∧
      ∃ Z' S', S'.Perm (S ++ spotOf f k x y) ∧ HeapTo S' S'.length ∧ RS B w' R f cnt P N Q Z' mb ps nx pv S' ∧ Fr w w' R Z.ownBlock := by
  obtain ⟨g, cn, rfl, hcn, hgl, hkn⟩ := row_at h.hN (icells_at nx k _ hk)
  obtain ⟨gp, cp, rfl, hcx, hgpl, hkp⟩ := row_at h.hP (tcells_at ps k _ hx)
  obtain ⟨hcy, hqp⟩ := row_cell1 h.hP (tcells_at ps q _ hy)
  have hBw : B ≤ w.heap.size := by have := h.hb.lt; have := h.hR; omega
  have c0 := h.hb.cell 0
  have c1 := h.hb.cell 1
  simp at c0 c1
  obtain ⟨L, hL⟩ : ∃ L, ps.length = L := ⟨_, rfl⟩
  obtain ⟨n, hn⟩ : ∃ n, nx.length = n := ⟨_, rfl⟩
  have HL := Lib.hid hL
  have HN := Lib.hid hn
  rw [hL] at c0 hkp hqp
  rw [hn] at c1 hkn
  have k0 : (0 : Int) ≤ (k : Int) := by omega
  have k1 : (k : Int) < (n : Int) := by omega
  have k2 : (k : Int) < (L : Int) := by omega
  have q0 : (0 : Int) ≤ (q : Int) := by omega
  have q1 : (q : Int) < (L : Int) := by omega
  have d0 : decide ((k : Int) < 0) = false := by simp
  have d1 : decide (L ≤ q) = false := by simp; omega
  obtain ⟨X, hX⟩ : ∃ X, mk x = X := ⟨_, rfl⟩
  obtain ⟨Y, hY⟩ : ∃ Y, mk y = Y := ⟨_, rfl⟩
  rw [hX] at hcx
  rw [hY] at hcy
  have HX := Lib.hid hX
  have HY := Lib.hid hY
  clear hk hx hy hL hn hX hY
  go_enter Tryd.func45, Tryd.ntmps45
  go_wp2_with fail
  go_quiet (fail)
  have h1 := h.drewN nq
  have c0' : (w.drewN nq).cell? ⟨R, 0, none⟩ = _ := c0
  have c1' : (w.drewN nq).cell? ⟨R, 1, none⟩ = _ := c1
  have hcn' : (w.drewN nq).cell? ⟨g, k, none⟩ = _ := hcn
  have hcx' : (w.drewN nq).cell? ⟨gp, k, none⟩ = _ := hcx
  have hcy' : (w.drewN nq).cell? ⟨gp, q, none⟩ = _ := hcy
  obtain ⟨w1, hw1⟩ : ∃ w1, w.drewN nq = w1 := ⟨_, rfl⟩
  rw [hw1] at h1 c0' c1' hcn' hcx' hcy' ⊢
  have HW1 := Lib.hid hw1
  have old : ∀ (b j : Nat) (v : Value), w1.cell? ⟨b, j, none⟩ = some v → ∀ o : Obj, (w1.alloc o).cell? ⟨b, j, none⟩ = some v := fun b j v hh o => (World.cell?_of_block ((World.grownBy_alloc w1 o none).block b (World.block_lt_of_cell? w1 _ hh) (by simp))).trans hh
  have o0 := old _ _ _ c0'
  have o1 := old _ _ _ c1'
  have o2 := old _ _ _ hcn'
  have o3 := old _ _ _ hcx'
  have o4 := old _ _ _ hcy'
  clear h c0 c1 hcn hcx hcy hw1 d0 d1 old
  go_wp2_with fail
  go_region
  have g3 : w1.grownBy (w1.alloc (Obj.cells #[Value.string X, Value.string Y] 55)).drew none := grown_trans (World.grownBy_alloc _ _ _) (grown_drew _ _)
  have h3 := h1.kept g3
  have z0 : (w1.alloc (Obj.cells #[Value.string X, Value.string Y] 55)).drew.cell? ⟨w1.heap.size, 0, none⟩ = some (.string X) := by simp
  have z1 : (w1.alloc (Obj.cells #[Value.string X, Value.string Y] 55)).drew.cell? ⟨w1.heap.size, 1, none⟩ = some (.string Y) := by simp
  have hH : w1.heap.size = w.heap.size := by rw [← HW1.out]; rfl
  have c3 := h3.hb.cell 3
  simp only [List.getElem?_toArray, List.getElem?_cons_succ, List.getElem?_cons_zero] at c3
  have hsz := g3.size
  obtain ⟨w2, hw2⟩ : ∃ w2, (w1.alloc (Obj.cells #[Value.string X, Value.string Y] 55)).drew = w2 := ⟨_, rfl⟩
  rw [hw2] at h3 z0 z1 c3 g3 hsz ⊢
  have hlk : ∀ m, (Instr.lookup 110 (.map (some mb)) (.agg #[.string X, .string Y]) true).run Tryd.prog (w2.drewN m) = .ok (.tuple #[.int .i64 (((f (x, y)).getD 0 : Nat) : Int), .bool (f (x, y)).isSome]) (w2.drewN m) := fun m => by
    have := (h3.drewN m).hM.look (x, y) hxl hyl
    rw [HX.out, HY.out] at this; exact this
  have hlk0 : (Instr.lookup 110 (.map (some mb)) (.agg #[.string X, .string Y]) true).run Tryd.prog w2 = .ok (.tuple #[.int .i64 (((f (x, y)).getD 0 : Nat) : Int), .bool (f (x, y)).isSome]) w2 := hlk 0
  obtain ⟨H, hHH⟩ : ∃ H, w1.heap.size = H := ⟨_, rfl⟩
  rw [hHH] at z0 z1
  simp only [hHH]
  clear o0 o1 o2 o3 o4 c0' c1' hcn' hcx' hcy' h1
  have hgw : ∀ m, w.grownBy (w2.drewN m) none := fun m => grown_trans (by rw [← HW1.out]; exact gdrewN _ _ _) (grown_trans g3 (gdrewN _ _ _))
  have hbw : ∀ m, Fr w (w2.drewN m) R Z.ownBlock := fun m => Fr.of (grown_any (hgw m))
  cases hfx : f (x, y) with
  | none =>
    simp only [hfx, Option.getD_none, Option.isSome_none] at hlk hlk0
    go_wp2_with fail
    go_quiet (fail)
    go_wp2
    go_end0
    exact ⟨rfl, Z, S, by rw [show spotOf f k x y = [] by unfold spotOf; rw [hfx], List.append_nil], hh, h3.drewN _, hbw _⟩
  | some r =>
    simp only [hfx, Option.getD_some, Option.isSome_some] at hlk hlk0
    go_wp2_with fail
    go_quiet (fail)
    have h4 := h3.drewN nq
    have y0 : (w2.drewN nq).cell? ⟨H, 0, none⟩ = some (.string X) := z0
    have y1 : (w2.drewN nq).cell? ⟨H, 1, none⟩ = some (.string Y) := z1
    have hg4 := hgw nq
    obtain ⟨w4, hw4⟩ : ∃ w4, w2.drewN nq = w4 := ⟨_, rfl⟩
    rw [hw4] at h4 y0 y1 hg4 ⊢
    have h5 := h4.kept (grown_drew w4 none)
    have hg5 : w.grownBy w4.drew none := grown_trans hg4 (grown_drew w4 none)
    have hsz5 : B ≤ w4.drew.heap.size := Nat.le_trans hBw hg5.size
    obtain ⟨AZ, cz, hZ⟩ := own_form h5.hZ
    subst hZ
    have hF5 : Fr w w4.drew R (Value.slice AZ S.length cz).ownBlock := Fr.of (grown_any hg5)
    have KP := hpush_any R AZ cz S.length _ _ _ _ S ⟨r, k, x, y⟩ B w4.drew rfl hS h5.hb h5.hZ hsz5 hh
    have KP' := KP
    unfold spV at KP'
    simp only [HX.out, HY.out] at KP'
    have HK := Lib.hid hfx
    clear hlk hlk0 z0 z1 h3 h4 KP hbw hgw c3 g3 hw4 hfx hg4 hg5
    go_wp2_with fail
    go_still_tail 12, (by kernel_rfl)
    change wpList _ _ _ _ _ w4.drew
    go_wp2_with (go_at_call 59; (with_reducible refine KP'.mono ?_))
    rintro e w6 ⟨rfl, gz, cz', ys, hp, hh6, hb6, hr6, hf6, _⟩
    have hyl6 : ys.length = S.length + 1 := by rw [hp.length_eq]; simp
    clear KP' y0 y1
    go_wp2
    go_end0
    refine ⟨rfl, _, ys, by rw [show spotOf f k x y = [⟨r, k, x, y⟩] by unfold spotOf; rw [HK.out]]; exact hp, by rw [hyl6]; exact hh6, h5.spots hf6 hb6 (by rw [hyl6]; exact hr6), hF5.trans hf6⟩
end Go.Proofs.YtejokbfejkkpmaaDoor
