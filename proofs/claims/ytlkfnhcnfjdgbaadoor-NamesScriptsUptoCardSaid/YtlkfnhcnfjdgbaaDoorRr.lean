/- stemmaref16.Right and Get, walked. -/
import Derived.Test.YtlkfnhcnfjdgbaaDoorRq
namespace Go.Proofs.YtlkfnhcnfjdgbaaDoor
open Go.RowKit Go.Maps Go.WideMaps
theorem cls (s : Bs) : (s = [] ∧ idL s = true) ∨ (s ≠ [] ∧ s.length = 32 ∧ idL s = true) ∨ (s ≠ [] ∧ s.length ≠ 32 ∧ idL s = false) := by
  unfold idL
  by_cases h0 : s = []
  · exact .inl ⟨h0, by simp [h0]⟩
  · have : s.length ≠ 0 := fun e => h0 (List.length_eq_zero_iff.1 e)
    by_cases h1 : s.length = 32
    · exact .inr (.inl ⟨h0, h1, by simp [h1]⟩)
    · exact .inr (.inr ⟨h0, h1, by simp [this, h1]⟩)
set_option maxRecDepth 100000 in
set_option maxHeartbeats 4000000 in
theorem rright_any (u : Upd) (w : World) : Calls Tryd.prog 33 #[uval u] w fun e w' => e = .returned (.bool (rightU u)) ∧ Below w.heap.size w w' := by
  have HR : Hid (rightU u = (idL u.old && (idL u.new && !(u.old == u.new)))) := Lib.hid rfl
  unfold uval
  obtain ⟨a, ha⟩ : ∃ a, mk u.name = a := ⟨_, rfl⟩
  rw [ha]
  have t1 := mk_toList' u.old
  have t2 := mk_toList' u.new
  have z1 := mk_size u.old
  have z2 := mk_size u.new
  have c1 := cls u.old
  have c2 := cls u.new
  obtain ⟨b, hb⟩ : ∃ a, mk u.old = a := ⟨_, rfl⟩
  obtain ⟨c, hc⟩ : ∃ a, mk u.new = a := ⟨_, rfl⟩
  rw [hb] at t1 z1 ⊢
  rw [hc] at t2 z2 ⊢
  rw [← t1, ← t2] at HR
  rw [← z1, ← t1] at c1
  rw [← z2, ← t2] at c2
  clear ha t1 t2 z1 z2 hb hc
  rcases c1 with ⟨e1, i1⟩ | ⟨e1, l1, i1⟩ | ⟨e1, l1, i1⟩
  all_goals rcases c2 with ⟨e2, i2⟩ | ⟨e2, l2, i2⟩ | ⟨e2, l2, i2⟩
  all_goals have I1 := Lib.hid i1
  all_goals have I2 := Lib.hid i2
  all_goals clear i1 i2
  all_goals (try (have n1 : (b.toList == []) = false := beq_eq_false_iff_ne.2 e1))
  all_goals (try (have n2 : (c.toList == []) = false := beq_eq_false_iff_ne.2 e2))
  all_goals (try (have m1 : ((b.size : Int) == 32) = false := by (simp; omega)))
  all_goals (try (have m2 : ((c.size : Int) == 32) = false := by (simp; omega)))
  all_goals go_enter Tryd.func33, Tryd.ntmps33
  all_goals go_wp2
  all_goals go_ret
  all_goals exact ⟨ret_bool (by rw [HR.out, I1.out, I2.out]; first | rfl | (simp; done) | (simp [e1]; done) | (simp [e1, e2]; done) | (cases hq : c.toList <;> simp_all; done)), below_alloc _ _⟩
set_option maxRecDepth 100000 in
set_option maxHeartbeats 4000000 in
theorem rget_any (t : Tbl) (v : Value) (name : Bs) (w : World) (hv : RTblAt w t v) (hrl : t.refs.length ≤ 100000) : Calls Tryd.prog 34 #[v, .string (mk name)] w fun e w' => e = .returned (.string (mk ((getR t.refs name).getD []))) ∧ Below w.heap.size w w' := by
  obtain ⟨A, cA, B, cB, rfl, hR, _⟩ := hv
  obtain ⟨nR, hnR⟩ : ∃ n, t.refs.length = n := ⟨_, rfl⟩
  obtain ⟨hd, hhd⟩ : ∃ n, mk t.head = n := ⟨_, rfl⟩
  obtain ⟨nL, hnL⟩ : ∃ n, t.log.length = n := ⟨_, rfl⟩
  rw [hnR, hhd, hnL]
  rw [hnR] at hrl
  have HNR := Lib.hid hnR
  have hbx := Blk.new w #[.slice A nR cA, .string hd, .slice B nL cB] 45
  have hb0 := below_alloc w (.cells #[.slice A nR cA, .string hd, .slice B nL cB] 45)
  have HR := Lib.hid (hR.below (Nat.le_refl _) hb0)
  have hnm := mk_toList' name
  obtain ⟨H, hH⟩ : ∃ H, w.heap.size = H := ⟨_, rfl⟩
  obtain ⟨W, hW⟩ : ∃ W, w.alloc (.cells #[.slice A nR cA, .string hd, .slice B nL cB] 45) = W := ⟨_, rfl⟩
  rw [hW] at hbx hb0 HR
  rw [hH] at hbx hb0 ⊢
  have Hb0 := Lib.hid hb0
  have x0 := hbx.cell 0
  simp at x0
  obtain ⟨N, hN⟩ : ∃ N, mk name = N := ⟨_, rfl⟩
  rw [hN] at hnm ⊢
  have HNM := Lib.hid hnm
  clear hnR hhd hnL hR hbx hb0 hnm hN
  go_enter Tryd.func34, Tryd.ntmps34
  go_wp2
  clear hH hW
  go_loop [5] (fun iv => ∃ k : Nat, k ≤ nR ∧ iv = .int .i64 k ∧ Hid (getR t.refs name = getR (t.refs.drop k) name)) (fun iv => nR - (intOf iv).toNat)
  case atStart => exact ⟨0, by omega, rfl, Lib.hid rfl⟩
  case round =>
    obtain ⟨k, hk, rfl, HK⟩ := hrel
    have k0 : (0 : Int) ≤ (k : Int) := by omega
    have k9 : (k : Int) ≤ 100000 := by omega
    rcases Nat.lt_or_ge k nR with hlt | hge
    · have k1 : (k : Int) < (nR : Int) := by omega
      have hkl : k < t.refs.length := by rw [HNR.out]; exact hlt
      obtain ⟨g, o, rfl, hg, hc⟩ := HR.out (by rw [rcells_length]; omega)
      obtain ⟨q0, q1⟩ := rcells_at t.refs k hkl
      have d0 : W.cell? ⟨g, o + k * 2, none⟩ = _ := hc _ _ q0
      have d1 : W.cell? ⟨g, o + k * 2 + 1, none⟩ = _ := hc _ _ q1
      have hgr : getR (t.refs.drop k) name = if t.refs[k].1 = name then some t.refs[k].2 else getR (t.refs.drop (k + 1)) name := by
        rw [List.drop_eq_getElem_cons hkl]; rfl
      have hx1 := mk_toList' t.refs[k].1
      obtain ⟨x, hx⟩ : ∃ x, t.refs[k] = x := ⟨_, rfl⟩
      rw [hx] at d0 d1 hgr hx1
      obtain ⟨X, hX⟩ : ∃ X, mk x.1 = X := ⟨_, rfl⟩
      obtain ⟨Y, hY⟩ : ∃ X, mk x.2 = X := ⟨_, rfl⟩
      rw [hX] at d0 hx1
      rw [hY] at d1
      have HY := Lib.hid hY
      have hnm := HNM.out
      clear hc q0 q1 hx hX hY
      by_cases he : x.1 = name
      · rw [if_pos he] at hgr
        have hee : (X.toList == N.toList) = true := by rw [hx1, hnm, he]; simp
        have HG := Lib.hid hgr
        clear hx1 he hgr hnm
        go_wp2
        go_ret
        exact ⟨by rw [HK.out, HG.out, Option.getD_some, HY.out]; rfl, Hb0.out⟩
      · rw [if_neg he] at hgr
        have hee : (X.toList == N.toList) = false := by rw [hx1, hnm]; simpa using he
        have HG := Lib.hid hgr
        clear hx1 he hgr hnm
        go_wp2
        go_round
        case rel => exact ⟨k + 1, by omega, by go_num, Lib.hid (HK.out.trans HG.out)⟩
        case measure => simp [intOf]; omega
    · obtain rfl : k = nR := by omega
      have HE : Hid (getR t.refs name = none) := Lib.hid (by rw [HK.out, List.drop_of_length_le (by rw [HNR.out]; exact Nat.le_refl _)]; rfl)
      go_wp2
      go_ret
      exact ⟨by rw [HE.out]; rfl, Hb0.out⟩
end Go.Proofs.YtlkfnhcnfjdgbaaDoor
