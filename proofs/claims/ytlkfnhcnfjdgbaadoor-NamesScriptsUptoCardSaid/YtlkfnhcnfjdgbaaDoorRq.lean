/- stemmaref16.Encode, walked. -/
import Derived.Test.YtlkfnhcnfjdgbaaDoorRp
import Derived.Test.YtlkfnhcnfjdgbaaDoorNe
namespace Go.Proofs.YtlkfnhcnfjdgbaaDoor
open Go.RowKit Go.Maps Go.WideMaps
/-- The value v is table t's, of the document's. -/
def RTblAt (w : World) (t : Tbl) (v : Value) : Prop :=
  ∃ A c B cb, v = .agg #[.slice A t.refs.length c, .string (mk t.head), .slice B t.log.length cb] ∧ Lies w A (rcells t.refs) ∧ Lies w B (ucells t.log)
theorem RTblAt.below {w w' : World} {t : Tbl} {v : Value} (h : RTblAt w t v) (hb : Below w.heap.size w w') : RTblAt w' t v := by
  obtain ⟨A, c, B, cb, rfl, h1, h2⟩ := h
  exact ⟨A, c, B, cb, rfl, h1.below (Nat.le_refl _) hb, h2.below (Nat.le_refl _) hb⟩
theorem joinB_text (l : List Bs) : joinB l = l.flatMap textB := rfl
theorem rtx_snoc (R : Refs) (r : Bs × Bs) : joinB (rtx (R ++ [r])) = joinB (rtx R) ++ (textB r.1 ++ textB r.2) := by
  simp [joinB_text, rtx]
theorem utx_snoc (us : List Upd) (u : Upd) : joinB (utx (us ++ [u])) = joinB (utx us) ++ (textB u.name ++ textB u.old ++ textB u.new) := by
  simp [joinB_text, utx]
theorem rtx_take (R : Refs) (k : Nat) : (joinB (rtx (R.take k))).length ≤ (joinB (rtx R)).length := by
  have : joinB (rtx R) = joinB (rtx (R.take k)) ++ joinB (rtx (R.drop k)) := by
    unfold joinB rtx; rw [← List.flatMap_append, ← List.flatMap_append, List.take_append_drop]
  rw [this, List.length_append]; omega
theorem utx_take (R : List Upd) (k : Nat) : (joinB (utx (R.take k))).length ≤ (joinB (utx R)).length := by
  have : joinB (utx R) = joinB (utx (R.take k)) ++ joinB (utx (R.drop k)) := by
    unfold joinB utx; rw [← List.flatMap_append, ← List.flatMap_append, List.take_append_drop]
  rw [this, List.length_append]; omega
theorem enc_text (t : Tbl) : encB t = textB t.head ++ textB (joinB (rtx t.refs)) ++ textB (joinB (utx t.log)) := by
  simp [encB, joinB_text]
theorem run_sum (a b : Bs) (h : a.length + b.length ≤ 1099511627776) (w : World) : (Op.stringOp .add (mk a) (mk b)).run Tryd.prog w = .ok (.string (mk (a ++ b))) w := by
  have h1 : (mk a).size = a.length := mk_size _
  have h2 : (mk b).size = b.length := mk_size _
  have h3 := mk_app a b
  obtain ⟨X, hX⟩ : ∃ X, mk a = X := ⟨_, rfl⟩
  obtain ⟨Y, hY⟩ : ∃ X, mk b = X := ⟨_, rfl⟩
  rw [hX] at h1 h3 ⊢
  rw [hY] at h2 h3 ⊢
  rw [← h3]
  have h4 : X.size + Y.size ≤ 9223372036854775807 := by omega
  clear hX hY h1 h2 h3
  go_simp
theorem textB_len (t : Bs) (h : t.length ≤ 1099511627776) : (textB t).length ≤ t.length + 6 := by
  unfold textB; rw [List.length_append]; have := kOf_small t.length h; omega
set_option maxRecDepth 100000 in
set_option maxHeartbeats 8000000 in
theorem rencode_any (t : Tbl) (v : Value) (w : World) (hv : RTblAt w t v) (hrl : t.refs.length ≤ 100000) (hll : t.log.length ≤ 100000) (hsz : (encB t).length ≤ 1000000000) :
    Calls Tryd.prog 18 #[v] w fun e w' => e = .returned (.string (mk (encB t))) ∧ Below w.heap.size w w' := by
  obtain ⟨A, cA, B, cB, rfl, hR, hL⟩ := hv
  have hj0 := joinB_mem [t.head, joinB (rtx t.refs), joinB (utx t.log)] t.head (by simp)
  have hj1 := joinB_mem [t.head, joinB (rtx t.refs), joinB (utx t.log)] (joinB (rtx t.refs)) (by simp)
  have hj2 := joinB_mem [t.head, joinB (rtx t.refs), joinB (utx t.log)] (joinB (utx t.log)) (by simp)
  have HJ0 : Hid (t.head.length ≤ 1000000000) := Lib.hid (Nat.le_trans hj0 hsz)
  have HJ1 : Hid ((joinB (rtx t.refs)).length ≤ 1000000000) := Lib.hid (Nat.le_trans hj1 hsz)
  have HJ2 : Hid ((joinB (utx t.log)).length ≤ 1000000000) := Lib.hid (Nat.le_trans hj2 hsz)
  have HSZ := Lib.hid hsz
  obtain ⟨nR, hnR⟩ : ∃ n, t.refs.length = n := ⟨_, rfl⟩
  obtain ⟨nL, hnL⟩ : ∃ n, t.log.length = n := ⟨_, rfl⟩
  obtain ⟨hd, hhd⟩ : ∃ n, mk t.head = n := ⟨_, rfl⟩
  rw [hnR, hhd, hnL]
  rw [hnR] at hrl
  rw [hnL] at hll
  have HNR := Lib.hid hnR
  have HNL := Lib.hid hnL
  have HHD := Lib.hid hhd
  have hbx := Blk.new w #[.slice A nR cA, .string hd, .slice B nL cB] 45
  have hb0 := below_alloc w (.cells #[.slice A nR cA, .string hd, .slice B nL cB] 45)
  have HR := Lib.hid (hR.below (Nat.le_refl _) hb0)
  have HL := Lib.hid (hL.below (Nat.le_refl _) hb0)
  obtain ⟨H, hH⟩ : ∃ H, w.heap.size = H := ⟨_, rfl⟩
  obtain ⟨W, hW⟩ : ∃ W, w.alloc (.cells #[.slice A nR cA, .string hd, .slice B nL cB] 45) = W := ⟨_, rfl⟩
  rw [hW] at hbx hb0 HR HL
  rw [hH] at hbx hb0 ⊢
  have HBX := Lib.hid hbx
  have Hb0 := Lib.hid hb0
  have HH := Lib.hid hH
  have hHl := hbx.lt
  clear hj0 hj1 hj2 hsz hnR hnL hhd hR hL hbx hb0
  go_enter Tryd.func18, Tryd.ntmps18
  go_wp2
  clear hH hW
  go_loopw [3, 5] (fun sv iv wr => ∃ k : Nat, k ≤ nR ∧ iv = .int .i64 k ∧ sv = .string (mk (joinB (rtx (t.refs.take k)))) ∧ Below W.heap.size W wr) (fun _ iv _ => nR - (intOf iv).toNat)
  case atStart => exact ⟨0, by omega, rfl, rfl, Below.refl _ _⟩
  case round =>
    obtain ⟨k, hk, rfl, rfl, hb⟩ := hrel
    have k0 : (0 : Int) ≤ (k : Int) := by omega
    have k9 : (k : Int) ≤ 100000 := by omega
    have x0 := (HBX.out.below hb).cell 0
    simp at x0
    rcases Nat.lt_or_ge k nR with hlt | hge
    · have k1 : (k : Int) < (nR : Int) := by omega
      have hkl : k < t.refs.length := by rw [HNR.out]; exact hlt
      obtain ⟨g, o, rfl, hg, hc⟩ := HR.out (by rw [rcells_length]; omega)
      obtain ⟨q0, q1⟩ := rcells_at t.refs k hkl
      have d0 : wr.cell? ⟨g, o + k * 2, none⟩ = _ := (hb.cell (p := ⟨g, o + k * 2, none⟩) hg).trans (hc _ _ q0)
      have d1 : wr.cell? ⟨g, o + k * 2 + 1, none⟩ = _ := (hb.cell (p := ⟨g, o + k * 2 + 1, none⟩) hg).trans (hc _ _ q1)
      have hgw : g < wr.heap.size := Nat.lt_of_lt_of_le hg hb.size
      have hHw : H < wr.heap.size := Nat.lt_of_lt_of_le hHl hb.size
      have hsn : joinB (rtx (t.refs.take (k + 1))) = joinB (rtx (t.refs.take k)) ++ (textB t.refs[k].1 ++ textB t.refs[k].2) := by
        rw [List.take_succ_eq_append_getElem hkl, rtx_snoc]
      have hln := rtx_take t.refs (k + 1)
      rw [hsn] at hln
      simp only [List.length_append] at hln
      have hj1 := HJ1.out
      obtain ⟨x, hx⟩ : ∃ x, t.refs[k] = x := ⟨_, rfl⟩
      rw [hx] at d0 d1 hsn hln
      obtain ⟨T, hT⟩ : ∃ T, joinB (rtx (t.refs.take k)) = T := ⟨_, rfl⟩
      rw [hT] at hsn hln ⊢
      have e1 : (textB x.1).length = (putB x.1.length).length + x.1.length := by simp [textB]
      have e2 : (textB x.2).length = (putB x.2.length).length + x.2.length := by simp [textB]
      have K1 := fun w' => text_any x.1 w' (by omega)
      have K2 := fun w' => text_any x.2 w' (by omega)
      have s1 := run_sum (textB x.1) (textB x.2) (by omega)
      have s2 := run_sum T (textB x.1 ++ textB x.2) (by rw [List.length_append]; omega)
      have HSN := Lib.hid hsn
      have HB := Lib.hid hb
      obtain ⟨X, hX⟩ : ∃ X, mk x.1 = X := ⟨_, rfl⟩
      obtain ⟨Y, hY⟩ : ∃ X, mk x.2 = X := ⟨_, rfl⟩
      obtain ⟨TX, hTX⟩ : ∃ X, mk (textB x.1) = X := ⟨_, rfl⟩
      obtain ⟨TY, hTY⟩ : ∃ X, mk (textB x.2) = X := ⟨_, rfl⟩
      obtain ⟨TXY, hTXY⟩ : ∃ X, mk (textB x.1 ++ textB x.2) = X := ⟨_, rfl⟩
      obtain ⟨TT, hTT⟩ : ∃ X, mk T = X := ⟨_, rfl⟩
      obtain ⟨TN, hTN⟩ : ∃ X, mk (T ++ (textB x.1 ++ textB x.2)) = X := ⟨_, rfl⟩
      rw [hX] at d0 K1
      rw [hY] at d1 K2
      simp only [hTX] at K1
      simp only [hTY] at K2
      simp only [hTX, hTY, hTXY] at s1
      simp only [hTXY, hTT, hTN] at s2
      rw [hTT]
      have HTN := Lib.hid hTN
      clear hc q0 q1 hsn hln hj1 hx hT e1 e2 hX hY hTX hTY hTXY hTT hTN hb
      go_wp2_with fail
      go_region_held3 (fun w' => w'.cell? ⟨H, 0, none⟩ = some (.slice (some ⟨g, o, none⟩) nR cA) ∧ w'.cell? ⟨g, o + k * 2, none⟩ = some (.string X) ∧ w'.cell? ⟨g, o + k * 2 + 1, none⟩ = some (.string Y))
        (first | (go_keep) | (exact ⟨(hb1.cell (p := ⟨H, 0, none⟩) hHw).trans x0, (hb1.cell (p := ⟨g, o + k * 2, none⟩) hgw).trans d0, (hb1.cell (p := ⟨g, o + k * 2 + 1, none⟩) hgw).trans d1⟩))
        (first
          | (go_at_call 39; first
             | ((with_reducible refine (K1 _).mono ?_); rintro e wx ⟨rfl, h1⟩; first | (have hb1 := below_step hb1 h1) | (have hb1 := below_step (Below.refl _ wr).drew h1) | (have hb1 := h1))
             | ((with_reducible refine (K2 _).mono ?_); rintro e wx ⟨rfl, h1⟩; first | (have hb1 := below_step hb1 h1) | (have hb1 := below_step (Below.refl _ wr).drew h1) | (have hb1 := h1)))
          | fail)
      all_goals go_wp2
      all_goals go_roundw
      all_goals first
        | exact ⟨k + 1, by omega, by go_num, by rw [HSN.out, HTN.out], HB.out.trans (hb1.mono HB.out.size)⟩
        | (simp [intOf]; omega)
    · obtain rfl : k = nR := by omega
      rename World => W1
      rw [List.take_of_length_le (by rw [HNR.out]; exact Nat.le_refl _)]
      obtain ⟨SA, hSA⟩ : ∃ X, mk (joinB (rtx t.refs)) = X := ⟨_, rfl⟩
      rw [hSA]
      have HSA := Lib.hid hSA
      have HB1 := Lib.hid hb
      have hBX1 := Lib.hid (HBX.out.below hb)
      have hHl1 := hBX1.out.lt
      clear hb hSA
      go_wp2
      clear x0
      go_loopw [4, 6] (fun sv iv wr => ∃ k : Nat, k ≤ nL ∧ iv = .int .i64 k ∧ sv = .string (mk (joinB (utx (t.log.take k)))) ∧ Below W1.heap.size W1 wr) (fun _ iv _ => nL - (intOf iv).toNat)
      case atStart => exact ⟨0, by omega, rfl, rfl, Below.refl _ _⟩
      case round =>
        obtain ⟨j, hj, rfl, rfl, hb⟩ := hrel
        have j0 : (0 : Int) ≤ (j : Int) := by omega
        have j9 : (j : Int) ≤ 100000 := by omega
        have x1 := (hBX1.out.below hb).cell 1
        have x2 := (hBX1.out.below hb).cell 2
        simp at x1 x2
        rcases Nat.lt_or_ge j nL with hlt | hge
        · have j1 : (j : Int) < (nL : Int) := by omega
          have hjl : j < t.log.length := by rw [HNL.out]; exact hlt
          obtain ⟨g, o, rfl, hg, hc⟩ := HL.out (by rw [ucells_length]; omega)
          obtain ⟨q0, q1, q2⟩ := ucells_at t.log j hjl
          have hg1 := Nat.lt_of_lt_of_le hg HB1.out.size
          have d0 : wr.cell? ⟨g, o + j * 3, none⟩ = _ := (hb.cell (p := ⟨g, o + j * 3, none⟩) hg1).trans ((HB1.out.cell (p := ⟨g, o + j * 3, none⟩) hg).trans (hc _ _ q0))
          have d1 : wr.cell? ⟨g, o + j * 3 + 1, none⟩ = _ := (hb.cell (p := ⟨g, o + j * 3 + 1, none⟩) hg1).trans ((HB1.out.cell (p := ⟨g, o + j * 3 + 1, none⟩) hg).trans (hc _ _ q1))
          have d2 : wr.cell? ⟨g, o + j * 3 + 2, none⟩ = _ := (hb.cell (p := ⟨g, o + j * 3 + 2, none⟩) hg1).trans ((HB1.out.cell (p := ⟨g, o + j * 3 + 2, none⟩) hg).trans (hc _ _ q2))
          have hgw : g < wr.heap.size := Nat.lt_of_lt_of_le hg1 hb.size
          have hHw : H < wr.heap.size := Nat.lt_of_lt_of_le hHl1 hb.size
          have hsn : joinB (utx (t.log.take (j + 1))) = joinB (utx (t.log.take j)) ++ (textB t.log[j].name ++ textB t.log[j].old ++ textB t.log[j].new) := by
            rw [List.take_succ_eq_append_getElem hjl, utx_snoc]
          have hln := utx_take t.log (j + 1)
          rw [hsn] at hln
          simp only [List.length_append] at hln
          have hj1 := HJ2.out
          obtain ⟨x, hx⟩ : ∃ x, t.log[j] = x := ⟨_, rfl⟩
          rw [hx] at d0 d1 d2 hsn hln
          obtain ⟨T, hT⟩ : ∃ T, joinB (utx (t.log.take j)) = T := ⟨_, rfl⟩
          rw [hT] at hsn hln ⊢
          have e1 : (textB x.name).length = (putB x.name.length).length + x.name.length := by simp [textB]
          have e2 : (textB x.old).length = (putB x.old.length).length + x.old.length := by simp [textB]
          have e3 : (textB x.new).length = (putB x.new.length).length + x.new.length := by simp [textB]
          have K1 := fun w' => text_any x.name w' (by omega)
          have K2 := fun w' => text_any x.old w' (by omega)
          have K3 := fun w' => text_any x.new w' (by omega)
          have s1 := run_sum (textB x.name) (textB x.old) (by omega)
          have s2 := run_sum (textB x.name ++ textB x.old) (textB x.new) (by rw [List.length_append]; omega)
          have s3 := run_sum T (textB x.name ++ textB x.old ++ textB x.new) (by rw [List.length_append, List.length_append]; omega)
          have HSN := Lib.hid hsn
          have HB := Lib.hid hb
          obtain ⟨X, hX⟩ : ∃ X, mk x.name = X := ⟨_, rfl⟩
          obtain ⟨Y, hY⟩ : ∃ X, mk x.old = X := ⟨_, rfl⟩
          obtain ⟨Z, hZ⟩ : ∃ X, mk x.new = X := ⟨_, rfl⟩
          obtain ⟨TX, hTX⟩ : ∃ X, mk (textB x.name) = X := ⟨_, rfl⟩
          obtain ⟨TY, hTY⟩ : ∃ X, mk (textB x.old) = X := ⟨_, rfl⟩
          obtain ⟨TZ, hTZ⟩ : ∃ X, mk (textB x.new) = X := ⟨_, rfl⟩
          obtain ⟨TXY, hTXY⟩ : ∃ X, mk (textB x.name ++ textB x.old) = X := ⟨_, rfl⟩
          obtain ⟨TXYZ, hTXYZ⟩ : ∃ X, mk (textB x.name ++ textB x.old ++ textB x.new) = X := ⟨_, rfl⟩
          obtain ⟨TT, hTT⟩ : ∃ X, mk T = X := ⟨_, rfl⟩
          obtain ⟨TN, hTN⟩ : ∃ X, mk (T ++ (textB x.name ++ textB x.old ++ textB x.new)) = X := ⟨_, rfl⟩
          rw [hX] at d0 K1
          rw [hY] at d1 K2
          rw [hZ] at d2 K3
          simp only [hTX] at K1
          simp only [hTY] at K2
          simp only [hTZ] at K3
          simp only [hTX, hTY, hTXY] at s1
          simp only [hTXY, hTZ, hTXYZ] at s2
          simp only [hTXYZ, hTT, hTN] at s3
          rw [hTT]
          have HTN := Lib.hid hTN
          clear hc q0 q1 q2 hsn hln hj1 hx hT e1 e2 e3 hX hY hZ hTX hTY hTZ hTXY hTXYZ hTT hTN hb x1
          go_wp2_with fail
          go_region_held3 (fun w' => w'.cell? ⟨H, 2, none⟩ = some (.slice (some ⟨g, o, none⟩) nL cB) ∧ w'.cell? ⟨g, o + j * 3, none⟩ = some (.string X) ∧ w'.cell? ⟨g, o + j * 3 + 1, none⟩ = some (.string Y) ∧ w'.cell? ⟨g, o + j * 3 + 2, none⟩ = some (.string Z))
            (first | (go_keep) | (exact ⟨(hb1.cell (p := ⟨H, 2, none⟩) hHw).trans x2, (hb1.cell (p := ⟨g, o + j * 3, none⟩) hgw).trans d0, (hb1.cell (p := ⟨g, o + j * 3 + 1, none⟩) hgw).trans d1, (hb1.cell (p := ⟨g, o + j * 3 + 2, none⟩) hgw).trans d2⟩))
            (first
              | (go_at_call 39; first
                 | ((with_reducible refine (K1 _).mono ?_); rintro e wx ⟨rfl, h1⟩; first | (have hb1 := below_step hb1 h1) | (have hb1 := below_step (Below.refl _ wr).drew h1) | (have hb1 := h1))
                 | ((with_reducible refine (K2 _).mono ?_); rintro e wx ⟨rfl, h1⟩; first | (have hb1 := below_step hb1 h1) | (have hb1 := below_step (Below.refl _ wr).drew h1) | (have hb1 := h1))
                 | ((with_reducible refine (K3 _).mono ?_); rintro e wx ⟨rfl, h1⟩; first | (have hb1 := below_step hb1 h1) | (have hb1 := below_step (Below.refl _ wr).drew h1) | (have hb1 := h1)))
              | fail)
          all_goals go_wp2
          all_goals go_roundw
          all_goals first
            | exact ⟨j + 1, by omega, by go_num, by rw [HSN.out, HTN.out], HB.out.trans (hb1.mono HB.out.size)⟩
            | (simp [intOf]; omega)
        · obtain rfl : j = nL := by omega
          rename World => W2
          rw [List.take_of_length_le (by rw [HNL.out]; exact Nat.le_refl _)]
          have hen := enc_text t
          have hsz := HSZ.out
          rw [hen] at hsz
          simp only [List.length_append] at hsz
          have s1 := run_sum (textB t.head) (textB (joinB (rtx t.refs))) (by omega)
          have s2 := run_sum (textB t.head ++ textB (joinB (rtx t.refs))) (textB (joinB (utx t.log))) (by rw [List.length_append]; omega)
          rw [← hen] at s2
          have K1 := fun w' => text_any t.head w' (by have := HJ0.out; omega)
          have K2 := fun w' => text_any (joinB (rtx t.refs)) w' (by have := HJ1.out; omega)
          have K3 := fun w' => text_any (joinB (utx t.log)) w' (by have := HJ2.out; omega)
          rw [HHD.out] at K1
          rw [HSA.out] at K2
          obtain ⟨SB, hSB⟩ : ∃ X, mk (joinB (utx t.log)) = X := ⟨_, rfl⟩
          rw [hSB] at K3 ⊢
          obtain ⟨TX, hTX⟩ : ∃ X, mk (textB t.head) = X := ⟨_, rfl⟩
          obtain ⟨TY, hTY⟩ : ∃ X, mk (textB (joinB (rtx t.refs))) = X := ⟨_, rfl⟩
          obtain ⟨TZ, hTZ⟩ : ∃ X, mk (textB (joinB (utx t.log))) = X := ⟨_, rfl⟩
          obtain ⟨TXY, hTXY⟩ : ∃ X, mk (textB t.head ++ textB (joinB (rtx t.refs))) = X := ⟨_, rfl⟩
          simp only [hTX] at K1
          simp only [hTY] at K2
          simp only [hTZ] at K3
          simp only [hTX, hTY, hTXY] at s1
          simp only [hTXY, hTZ] at s2
          have HB := Lib.hid hb
          clear hen hsz hSB hTX hTY hTZ hTXY hb
          go_wp2_with (first
            | (go_at_call 39; first
               | ((with_reducible refine (K1 _).mono ?_); rintro e w3 ⟨rfl, h3⟩)
               | ((with_reducible refine (K2 _).mono ?_); rintro e w4 ⟨rfl, h4⟩)
               | ((with_reducible refine (K3 _).mono ?_); rintro e w5 ⟨rfl, h5⟩))
            | fail)
          go_ret
          have z0 : H ≤ W.heap.size := by have := Hb0.out.size; have := HH.out; omega
          have z1 := HB1.out.size
          have z2 := HB.out.size
          have z3 := h3.size
          have z4 := h4.size
          exact ⟨rfl, ((((Hb0.out.trans (HB1.out.mono z0)).trans (HB.out.mono (by omega))).trans (h3.mono (by omega))).trans (h4.mono (by omega))).trans (h5.mono (by omega))⟩
end Go.Proofs.YtlkfnhcnfjdgbaaDoor
