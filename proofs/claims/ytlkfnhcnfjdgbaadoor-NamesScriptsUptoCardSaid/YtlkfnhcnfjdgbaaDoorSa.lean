/- stemmalaw16.same, walked: of one table it says true. -/
import Derived.Test.YtlkfnhcnfjdgbaaDoorRr
import Derived.Test.YtlkfnhcnfjdgbaaDoorAu
import Derived.Deep.QuietTactic
import Derived.BigQuiet
import Derived.Lib.SmallJoins
namespace Go.Proofs.YtlkfnhcnfjdgbaaDoor
open Go.RowKit Go.Maps Go.WideMaps
theorem eq_guard76 (w : World) (op : BinOp) (x y : Operand) (xs ys : Array Value) : (eqGuard op 76 x y (.agg xs) (.agg ys)).run Tryd.prog w = .ok () w := run_eqGuard_agg w op 76 x y xs ys (by kernel_rfl)
theorem ref_neq76 (a b c d : ByteArray) (w : World) : (binOp .neq 76 (.agg #[.string a, .string b]) (.agg #[.string c, .string d])).run Tryd.prog w = .ok (.bool (!(a.toList == c.toList && b.toList == d.toList))) w := by
  rw [run_neq_struct, run_equalIn_struct w _ _ _ _ (by kernel_rfl) (by kernel_rfl)]
  have hf : (Tryd.prog.fieldsOf 76).toList = (match Tryd.prog.underlying 76 with | some (.struct fs) => fs.toList | _ => []) := by kernel_rfl
  rw [hf, Tryd.underlying76]
  simp only [Op.eqFields]
  go_simp
  by_cases h1 : a.toList = c.toList
  · by_cases h2 : b.toList = d.toList
    · simp [h1, h2]
    · simp [h1, h2]
  · simp [h1]
theorem ref_same76 (a b : ByteArray) (w : World) : (binOp .neq 76 (.agg #[.string a, .string b]) (.agg #[.string a, .string b])).run Tryd.prog w = .ok (.bool false) w := by
  rw [ref_neq76]; simp
theorem eq_guard66 (w : World) (op : BinOp) (x y : Operand) (xs ys : Array Value) : (eqGuard op 66 x y (.agg xs) (.agg ys)).run Tryd.prog w = .ok () w := run_eqGuard_agg w op 66 x y xs ys (by kernel_rfl)
theorem upd_neq66 (a b c d e f : ByteArray) (w : World) : (binOp .neq 66 (.agg #[.string a, .string b, .string c]) (.agg #[.string d, .string e, .string f])).run Tryd.prog w = .ok (.bool (!(a.toList == d.toList && b.toList == e.toList && c.toList == f.toList))) w := by
  rw [run_neq_struct, run_equalIn_struct w _ _ _ _ (by kernel_rfl) (by kernel_rfl)]
  have hf : (Tryd.prog.fieldsOf 66).toList = (match Tryd.prog.underlying 66 with | some (.struct fs) => fs.toList | _ => []) := by kernel_rfl
  rw [hf, Tryd.underlying66]
  simp only [Op.eqFields]
  go_simp
  by_cases h1 : a.toList = d.toList
  · by_cases h2 : b.toList = e.toList
    · by_cases h3 : c.toList = f.toList
      · simp [h1, h2, h3]
      · simp [h1, h2, h3]
    · simp [h1, h2]
  · simp [h1]
theorem upd_same66 (a b c : ByteArray) (w : World) : (binOp .neq 66 (.agg #[.string a, .string b, .string c]) (.agg #[.string a, .string b, .string c])).run Tryd.prog w = .ok (.bool false) w := by
  rw [upd_neq66]; simp
theorem getR_at (R : Refs) (hs : Sorted R) (k : Nat) (h : k < R.length) : getR R R[k].1 = some R[k].2 := by
  induction R generalizing k with
  | nil => simp at h
  | cons r R ih =>
    cases k with
    | zero => simp [getR]
    | succ k =>
      have h' : k < R.length := by simpa using h
      unfold Sorted at hs
      rw [List.pairwise_cons] at hs
      have h1 := hs.1 R[k] (List.getElem_mem h')
      simp only [List.getElem_cons_succ]
      rw [getR, if_neg, ih hs.2 k h']
      intro e
      rw [e] at h1
      unfold ltB at h1
      rw [cmp_self] at h1
      simp at h1
set_option maxRecDepth 100000 in
set_option maxHeartbeats 8000000 in
theorem same_any (t : Tbl) (v v' : Value) (w : World) (hv : TblAt w t v) (hr : RTblAt w t v') (hs : Sorted t.refs) (hrl : t.refs.length ≤ 100000) (hll : t.log.length ≤ 100000) :
    Calls Tryd.prog 15 #[v, v'] w fun e w' => e = .returned (.bool true) ∧ Below w.heap.size w w' := by
  obtain ⟨A, cA, B, cB, rfl, _, _, hR, hL, _, _⟩ := hv
  obtain ⟨A', cA', B', cB', rfl, hR', hL'⟩ := hr
  obtain ⟨nR, hnR⟩ : ∃ n, t.refs.length = n := ⟨_, rfl⟩
  obtain ⟨nL, hnL⟩ : ∃ n, t.log.length = n := ⟨_, rfl⟩
  obtain ⟨hd, hhd⟩ : ∃ n, mk t.head = n := ⟨_, rfl⟩
  rw [hnR, hhd, hnL]
  have KG0 := fun (ww : World) (h : RefsAt ww A t.refs) (n : Bs) => get_any A cA t.refs hd B nL cB n ww hs (by omega) h
  rw [hnR] at hrl KG0
  rw [hnL] at hll
  have HNR := Lib.hid hnR
  have HNL := Lib.hid hnL
  have HS := Lib.hid hs
  have HKG := Lib.hid KG0
  have hbx := Blk.new w #[.slice A nR cA, .string hd, .slice B nL cB] 31
  have hb0 := below_alloc w (.cells #[.slice A nR cA, .string hd, .slice B nL cB] 31)
  have hby := Blk.new (w.alloc (.cells #[.slice A nR cA, .string hd, .slice B nL cB] 31)) #[.slice A' nR cA', .string hd, .slice B' nL cB'] 45
  have hb1 := hb0.alloc hb0.size (.cells #[.slice A' nR cA', .string hd, .slice B' nL cB'] 45)
  have hbx1 := hbx.alloc (.cells #[.slice A' nR cA', .string hd, .slice B' nL cB'] 45)
  rw [show (w.alloc (.cells #[.slice A nR cA, .string hd, .slice B nL cB] 31)).heap.size = w.heap.size + 1 by simp] at hby
  obtain ⟨H, hH⟩ : ∃ H, w.heap.size = H := ⟨_, rfl⟩
  obtain ⟨W, hW⟩ : ∃ W, (w.alloc (.cells #[.slice A nR cA, .string hd, .slice B nL cB] 31)).alloc (.cells #[.slice A' nR cA', .string hd, .slice B' nL cB'] 45) = W := ⟨_, rfl⟩
  have HR := Lib.hid (hR.below (Nat.le_refl _) hb1)
  have HL := Lib.hid (hL.below (Nat.le_refl _) hb1)
  have HR' := Lib.hid (hR'.below (Nat.le_refl _) hb1)
  have HL' := Lib.hid (hL'.below (Nat.le_refl _) hb1)
  rw [hW] at hbx1 hby hb1 HR HL HR' HL'
  rw [hH] at hbx1 hby hb1 ⊢
  have HBX := Lib.hid hbx1
  have HBY := Lib.hid hby
  have Hb1 := Lib.hid hb1
  have x0 := hbx1.cell 0
  have x1 := hbx1.cell 1
  have x2 := hbx1.cell 2
  have y0 := hby.cell 0
  have y1 := hby.cell 1
  have y2 := hby.cell 2
  have hHl := hbx1.lt
  have hHl' := hby.lt
  have hee : (hd.toList != hd.toList) = false := by simp
  simp at x0 x1 x2 y0 y1 y2
  clear hnR hnL hhd hR hL hR' hL' hbx hb0 hby hb1 hbx1 hs KG0
  go_enter Tryd.func15, Tryd.ntmps15
  go_wp2
  clear hH hW
  go_loopw [5, 6, 7] (fun iv _ _ wr => ∃ k : Nat, k ≤ nR ∧ iv = .int .i64 k ∧ Below W.heap.size W wr) (fun iv _ _ _ => nR - (intOf iv).toNat)
  case atStart => exact ⟨0, by omega, rfl, Below.refl _ _⟩
  case round =>
    obtain ⟨k, hk, rfl, hb⟩ := hrel
    have k0 : (0 : Int) ≤ (k : Int) := by omega
    have k9 : (k : Int) ≤ 100000 := by omega
    have hKeep : ∀ b, b < W.heap.size → ∀ o, wr.cell? ⟨b, o, none⟩ = W.cell? ⟨b, o, none⟩ := fun b h o => hb.cell (p := ⟨b, o, none⟩) h
    have u0 := (hKeep H hHl 0).trans x0
    have u1 := (hKeep H hHl 1).trans x1
    have u2 := (hKeep H hHl 2).trans x2
    have v0 := (hKeep (H + 1) hHl' 0).trans y0
    rcases Nat.lt_or_ge k nR with hlt | hge
    · have k1 : (k : Int) < (nR : Int) := by omega
      have hkl : k < t.refs.length := by rw [HNR.out]; exact hlt
      obtain ⟨g, rfl, hg, hc⟩ := HR.out (by omega)
      obtain ⟨c0, c1⟩ := hc k hkl
      obtain ⟨g', o', rfl, hg', hc'⟩ := HR'.out (by rw [rcells_length]; omega)
      obtain ⟨q0, q1⟩ := rcells_at t.refs k hkl
      have d0 := (hKeep g hg _).trans c0
      have d1 := (hKeep g hg _).trans c1
      have e0 : wr.cell? ⟨g', o' + k * 2, none⟩ = _ := (hKeep g' hg' _).trans (hc' _ _ q0)
      have e1 : wr.cell? ⟨g', o' + k * 2 + 1, none⟩ = _ := (hKeep g' hg' _).trans (hc' _ _ q1)
      have KG := fun (ww : World) (h : Below wr.heap.size wr ww) => HKG.out ww (HR.out.below (Nat.le_refl _) (below_step hb h)) t.refs[k].1
      have hgk := getR_at t.refs HS.out k hkl
      obtain ⟨x, hx⟩ : ∃ x, t.refs[k] = x := ⟨_, rfl⟩
      rw [hx] at d0 d1 e0 e1 KG hgk
      rw [hgk] at KG
      have ex : (mk x.2).toList = x.2 := mk_toList' _
      obtain ⟨X, hX⟩ : ∃ X, mk x.1 = X := ⟨_, rfl⟩
      obtain ⟨Y, hY⟩ : ∃ X, mk x.2 = X := ⟨_, rfl⟩
      simp only [Option.getD_some, Option.isSome_some] at KG
      rw [hX] at d0 e0 KG
      rw [hY] at d1 e1 KG
      have hrs := ref_same76 X Y
      have hg76 := fun (w : World) (x y : Operand) => eq_guard76 w .neq x y #[.string X, .string Y] #[.string X, .string Y]
      have hyy : (Y.toList != Y.toList) = false := by simp
      have HB := Lib.hid hb
      have hgw : g < wr.heap.size := Nat.lt_of_lt_of_le hg hb.size
      have hgw' : g' < wr.heap.size := Nat.lt_of_lt_of_le hg' hb.size
      have hHw : H < wr.heap.size := Nat.lt_of_lt_of_le hHl hb.size
      have hHw' : H + 1 < wr.heap.size := Nat.lt_of_lt_of_le hHl' hb.size
      have hGet : Hid (∀ ww, Below wr.heap.size wr ww → ww.cell? ⟨H, 0, none⟩ = some (.slice (some ⟨g, 0, none⟩) nR cA) ∧ ww.cell? ⟨H + 1, 0, none⟩ = some (.slice (some ⟨g', o', none⟩) nR cA') ∧ ww.cell? ⟨g, k * 2, none⟩ = some (.string X) ∧ ww.cell? ⟨g, k * 2 + 1, none⟩ = some (.string Y) ∧ ww.cell? ⟨g', o' + k * 2, none⟩ = some (.string X) ∧ ww.cell? ⟨g', o' + k * 2 + 1, none⟩ = some (.string Y)) := Lib.hid fun ww h =>
        ⟨(h.cell (p := ⟨H, 0, none⟩) hHw).trans u0, (h.cell (p := ⟨H + 1, 0, none⟩) hHw').trans v0, (h.cell (p := ⟨g, k * 2, none⟩) hgw).trans d0, (h.cell (p := ⟨g, k * 2 + 1, none⟩) hgw).trans d1, (h.cell (p := ⟨g', o' + k * 2, none⟩) hgw').trans e0, (h.cell (p := ⟨g', o' + k * 2 + 1, none⟩) hgw').trans e1⟩
      clear hc c0 c1 hc' q0 q1 hgk hx ex hX hY hb hKeep hgw hgw' d0 d1 e1
      go_wp2_with fail
      go_region_held3 (fun w' => w'.cell? ⟨H, 0, none⟩ = some (.slice (some ⟨g, 0, none⟩) nR cA) ∧ w'.cell? ⟨H, 1, none⟩ = some (.string hd) ∧ w'.cell? ⟨H, 2, none⟩ = some (.slice B nL cB) ∧ w'.cell? ⟨H + 1, 0, none⟩ = some (.slice (some ⟨g', o', none⟩) nR cA') ∧ w'.cell? ⟨g', o' + k * 2, none⟩ = some (.string X))
        (first | (go_keep) | (exact ⟨(h1.cell (p := ⟨H, 0, none⟩) hHw).trans u0, (h1.cell (p := ⟨H, 1, none⟩) hHw).trans u1, (h1.cell (p := ⟨H, 2, none⟩) hHw).trans u2, (h1.cell (p := ⟨H + 1, 0, none⟩) hHw').trans v0, (hGet.out _ h1).2.2.2.2.1⟩))
        (first
          | (go_at_call 21; (with_reducible refine (KG _ (by first | exact Below.refl _ _ | exact (Below.refl _ _).drew)).mono ?_); rintro e wx ⟨rfl, h10⟩; first | (have h1 := below_step (Below.refl _ wr).drew h10) | (have h1 := h10))
          | fail)
      all_goals
        obtain ⟨u0, v0, d0, d1, e0, e1⟩ := hGet.out _ h1
        have H1 := Lib.hid h1
        clear h1 KG h10
        go_wp2_with fail
        go_quiet (fail)
        go_wp2
        go_roundw
        case rel => exact ⟨k + 1, by omega, by go_num, HB.out.trans ((H1.out.trans (Go.Joins.below_draws _ _ _)).mono HB.out.size)⟩
        case measure => simp [intOf]; omega
    · obtain rfl : k = nR := by omega
      rename World => W1
      have v2 := (hKeep (H + 1) hHl' 2).trans y2
      have HB1 := Lib.hid hb
      clear hb hKeep
      go_wp2
      go_loopw [8] (fun iv wr => ∃ k : Nat, k ≤ nL ∧ iv = .int .i64 k ∧ Below W1.heap.size W1 wr) (fun iv _ => nL - (intOf iv).toNat)
      case atStart => exact ⟨0, by omega, rfl, Below.refl _ _⟩
      case round =>
        obtain ⟨j, hj, rfl, hb⟩ := hrel
        have j0 : (0 : Int) ≤ (j : Int) := by omega
        have j9 : (j : Int) ≤ 100000 := by omega
        have hbW := HB1.out.trans (hb.mono HB1.out.size)
        have hKeep : ∀ b, b < W.heap.size → ∀ o, wr.cell? ⟨b, o, none⟩ = W.cell? ⟨b, o, none⟩ := fun b h o => hbW.cell (p := ⟨b, o, none⟩) h
        have u2 := (hKeep H hHl 2).trans x2
        have v2 := (hKeep (H + 1) hHl' 2).trans y2
        have HBW := Lib.hid hbW
        have HBJ := Lib.hid hb
        rcases Nat.lt_or_ge j nL with hlt | hge
        · have j1 : (j : Int) < (nL : Int) := by omega
          have hjl : j < t.log.length := by rw [HNL.out]; exact hlt
          obtain ⟨g, o, rfl, hg, hc⟩ := HL.out (by rw [ucells_length]; omega)
          obtain ⟨g', o', rfl, hg', hc'⟩ := HL'.out (by rw [ucells_length]; omega)
          obtain ⟨q0, q1, q2⟩ := ucells_at t.log j hjl
          have d0 : wr.cell? ⟨g, o + j * 3, none⟩ = _ := (hKeep g hg _).trans (hc _ _ q0)
          have d1 : wr.cell? ⟨g, o + j * 3 + 1, none⟩ = _ := (hKeep g hg _).trans (hc _ _ q1)
          have d2 : wr.cell? ⟨g, o + j * 3 + 2, none⟩ = _ := (hKeep g hg _).trans (hc _ _ q2)
          have e0 : wr.cell? ⟨g', o' + j * 3, none⟩ = _ := (hKeep g' hg' _).trans (hc' _ _ q0)
          have e1 : wr.cell? ⟨g', o' + j * 3 + 1, none⟩ = _ := (hKeep g' hg' _).trans (hc' _ _ q1)
          have e2 : wr.cell? ⟨g', o' + j * 3 + 2, none⟩ = _ := (hKeep g' hg' _).trans (hc' _ _ q2)
          obtain ⟨X, hX⟩ : ∃ X, mk t.log[j].name = X := ⟨_, rfl⟩
          obtain ⟨Y, hY⟩ : ∃ X, mk t.log[j].old = X := ⟨_, rfl⟩
          obtain ⟨Z, hZ⟩ : ∃ X, mk t.log[j].new = X := ⟨_, rfl⟩
          rw [hX] at d0 e0
          rw [hY] at d1 e1
          rw [hZ] at d2 e2
          have hrs := upd_same66 X Y Z
          have hg66 := fun (w : World) (x y : Operand) => eq_guard66 w .neq x y #[.string X, .string Y, .string Z] #[.string X, .string Y, .string Z]
          clear hc hc' q0 q1 q2 hX hY hZ hKeep hb hbW
          go_wp2_with fail
          go_quiet (fail)
          go_wp2
          go_roundw
          case rel => exact ⟨j + 1, by omega, by go_num, HBJ.out.trans (Go.Joins.below_draws _ _ _)⟩
          case measure => simp [intOf]; omega
        · obtain rfl : j = nL := by omega
          clear hb hbW hKeep
          go_wp2
          go_ret
          have z0 : H ≤ W.heap.size := by omega
          exact ⟨rfl, Hb1.out.trans (HBW.out.mono z0)⟩
end Go.Proofs.YtlkfnhcnfjdgbaaDoor
