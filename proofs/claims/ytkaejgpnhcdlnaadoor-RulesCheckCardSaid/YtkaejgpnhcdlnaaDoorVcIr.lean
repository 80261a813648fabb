/- The document's own Invalid, walked: it gives what merges.Invalid gives. -/
import Derived.Test.YtkaejgpnhcdlnaaDoorVcIv
namespace Go.Proofs.YtkaejgpnhcdlnaaDoor.Vc
open Go.RowKit Go.Maps Go.WideMaps
theorem isT_snoc (D : List Bs) (P s : Bs) : isT (D ++ [P]) s = (isT D s || s == P) := by
  unfold isT
  rw [cont_snoc, Bool.or_assoc]
  congr 1
  congr 1
  rw [Bool.eq_iff_iff]; simp
theorem isT_nil (s : ByteArray) : isT (joins []) s.data.toList = decide ((s.size : Int) < 2) := by
  have hsl : s.data.toList.length = s.size := by simp
  unfold isT joins
  rw [hsl, Bool.eq_iff_iff]
  simp
  omega
set_option maxRecDepth 100000 in
set_option maxHeartbeats 8000000 in
theorem rinvalid_any (A : Option Addr) (cap : Nat) (l : List Pr) (w : World) (hn : l.length ≤ 4096) (hs : ∀ p ∈ l, p.1.length ≤ 64 ∧ p.2.length ≤ 64) (hp : PArg w A l) :
    Calls Tryd.prog 29 #[.slice A l.length cap] w fun e w' => e = .returned (.int .i64 (invalidM l)) ∧ Below w.heap.size w w' := by
  obtain ⟨n, hL⟩ : ∃ n, l.length = n := ⟨_, rfl⟩
  rw [hL] at hn ⊢
  have HP := Lib.hid hp
  have HS := Lib.hid hs
  have HL := Lib.hid hL
  clear hp hs hL
  go_enter Tryd.func29, Tryd.ntmps29
  go_wp2
  go_loopw [3, 4, 5, 6, 7] (fun i _ _ _ _ wr => ∃ k m : Nat, k ≤ n ∧ i = .int .i64 k ∧ wr = w.drewN m ∧ ∀ j, j < k → badM l j = false) (fun i _ _ _ _ _ => n - (intOf i).toNat)
  case atStart => exact ⟨0, 0, Nat.zero_le _, rfl, rfl, fun j h => absurd h (by omega)⟩
  case round =>
    obtain ⟨k, m, hk, rfl, hwr, hno⟩ := hrel
    rw [hwr]
    clear hwr
    by_cases hlt : k < n
    · have hkl : k < l.length := by rw [HL.out]; exact hlt
      obtain ⟨g, rfl, hg, hc⟩ := HP.out (by omega)
      have hc0 := hc k hkl
      have hbad := badM_at l k hkl
      have hat := inv_at l k hkl
      obtain ⟨p, hpe⟩ : ∃ p, l[k] = p := ⟨_, rfl⟩
      rw [hpe] at hc0 hbad
      have n1 := isT_nil (mk p.1)
      have n2 := isT_nil (mk p.2)
      rw [mk_data] at n1 n2
      have hk1 : (k : Int) < (n : Int) := by omega
      have hkz : (0 : Int) ≤ (k : Int) := by omega
      have HNO := Lib.hid hno
      have HAT := Lib.hid hat
      have HBAD := Lib.hid hbad
      have HC := Lib.hid hc
      have d0 : (w.drewN m).cell? ⟨g, k * 2, none⟩ = some (.string (mk p.1)) := hc0.1
      have d1 : (w.drewN m).cell? ⟨g, k * 2 + 1, none⟩ = some (.string (mk p.2)) := hc0.2
      have HC0 := Lib.hid hc0
      obtain ⟨a, ha⟩ : ∃ a, mk p.1 = a := ⟨_, rfl⟩
      obtain ⟨b, hb⟩ : ∃ a, mk p.2 = a := ⟨_, rfl⟩
      rw [ha] at d0 n1
      rw [hb] at d1 n2
      have HA := Lib.hid ha
      have HB := Lib.hid hb
      obtain ⟨w4, hw4⟩ : ∃ w4, w.drewN m = w4 := ⟨_, rfl⟩
      rw [hw4] at d0 d1 ⊢
      have HW4 := Lib.hid hw4
      have N1 := Lib.hid n1
      have N2 := Lib.hid n2
      clear hc hbad hat hno hpe ha hb hw4 hc0 n1 n2
      go_wp2_with fail
      go_quiet (fail)
      have hw5 : w4.drewN nq = w.drewN (m + nq) := by rw [← HW4.out, World.drewN_drewN]
      rw [hw5, ← N1.out, ← N2.out]
      clear hw5 d0 d1 HW4 N1 N2
      clear w4
      go_upto_block 2 with fail
      go_cut [4, 5, 6, 7] from 28 to 63 (fun s4 s5 s6 s7 wx => ∃ m2, s4 = .bool (isT (joins (l.take k)) p.1) ∧ s5 = .bool (isT (joins (l.take k)) p.2) ∧ wx = w.drewN m2)
      case first =>
        go_wp2_with fail
        go_loopw [4, 5, 6, 7] (fun va vb jv _ wy => ∃ j m3 : Nat, j ≤ k ∧ jv = .int .i64 j ∧ va = .bool (isT (joins (l.take j)) p.1) ∧ vb = .bool (isT (joins (l.take j)) p.2) ∧ wy = w.drewN m3) (fun _ _ jv _ _ => k - (intOf jv).toNat)
        case atStart => exact ⟨0, _, Nat.zero_le _, rfl, rfl, rfl, rfl⟩
        case round =>
          obtain ⟨j, m3, hj, rfl, rfl, rfl, hwy⟩ := hrel
          rw [hwy]
          clear hwy
          by_cases hjk : j < k
          · have hjl : j < l.length := by omega
            obtain ⟨q0, q1⟩ := HC.out j hjl
            have hsm := HS.out _ (List.getElem_mem hjl)
            have hjs : joins (l.take (j + 1)) = joins (l.take j) ++ [l[j].1 ++ l[j].2] := by rw [List.take_succ_eq_append_getElem hjl, joins_snoc]
            have i1 := isT_snoc (joins (l.take j)) (l[j].1 ++ l[j].2) p.1
            have i2 := isT_snoc (joins (l.take j)) (l[j].1 ++ l[j].2) p.2
            rw [← hjs] at i1 i2
            obtain ⟨q, hqe⟩ : ∃ p, l[j] = p := ⟨_, rfl⟩
            rw [hqe] at q0 q1 hsm i1 i2
            have hap := mk_append q.1 q.2
            have z0 : (mk q.1).size = q.1.length := mk_size _
            have z1 : (mk q.2).size = q.2.length := mk_size _
            obtain ⟨Q, hQ⟩ : ∃ P, q.1 ++ q.2 = P := ⟨_, rfl⟩
            rw [hQ] at hap i1 i2
            have d0 : (w.drewN m3).cell? ⟨g, j * 2, none⟩ = some (.string (mk q.1)) := q0
            have d1 : (w.drewN m3).cell? ⟨g, j * 2 + 1, none⟩ = some (.string (mk q.2)) := q1
            have d2 : (w.drewN m3).cell? ⟨g, k * 2, none⟩ = some (.string (mk p.1)) := HC0.out.1
            have d3 : (w.drewN m3).cell? ⟨g, k * 2 + 1, none⟩ = some (.string (mk p.2)) := HC0.out.2
            have hs1 : (mk q.1).size ≤ 64 := by omega
            have hs2 : (mk q.2).size ≤ 64 := by omega
            have hj0 : (0 : Int) ≤ (j : Int) := by omega
            have hj1 : (j : Int) < (k : Int) := by omega
            have hj2 : (j : Int) < (n : Int) := by omega
            have hsum : (mk q.1).size + (mk q.2).size ≤ 9223372036854775807 := by omega
            have E1 : ((mk Q).toList == (mk p.1).toList) = (p.1 == Q) := by
              rw [ByteArray.toList_eq, ByteArray.toList_eq, mk_data, mk_data]
              exact Bool.eq_iff_iff.2 (by rw [beq_iff_eq, beq_iff_eq]; exact eq_comm)
            have E2 : ((mk Q).toList == (mk p.2).toList) = (p.2 == Q) := by
              rw [ByteArray.toList_eq, ByteArray.toList_eq, mk_data, mk_data]
              exact Bool.eq_iff_iff.2 (by rw [beq_iff_eq, beq_iff_eq]; exact eq_comm)
            obtain ⟨x1, hx1⟩ : ∃ x, isT (joins (l.take j)) p.1 = x := ⟨_, rfl⟩
            obtain ⟨x2, hx2⟩ : ∃ x, isT (joins (l.take j)) p.2 = x := ⟨_, rfl⟩
            obtain ⟨y1, hy1⟩ : ∃ x, (p.1 == Q) = x := ⟨_, rfl⟩
            obtain ⟨y2, hy2⟩ : ∃ x, (p.2 == Q) = x := ⟨_, rfl⟩
            rw [hx1, hy1] at i1
            rw [hx2, hy2] at i2
            rw [hy1] at E1
            rw [hy2] at E2
            rw [hx1, hx2]
            have HI1 := Lib.hid i1
            have HI2 := Lib.hid i2
            have HAPP := Lib.hid hap
            obtain ⟨qa, hqa⟩ : ∃ a, mk q.1 = a := ⟨_, rfl⟩
            obtain ⟨qb, hqb⟩ : ∃ a, mk q.2 = a := ⟨_, rfl⟩
            obtain ⟨pa, hpa⟩ : ∃ a, mk p.1 = a := ⟨_, rfl⟩
            obtain ⟨pb, hpb⟩ : ∃ a, mk p.2 = a := ⟨_, rfl⟩
            rw [hqa] at d0 z0 hap hs1 hsum
            rw [hqb] at d1 z1 hap hs2 hsum
            rw [hpa] at d2 E1
            rw [hpb] at d3 E2
            rw [← hap] at E1 E2
            obtain ⟨w4, hw4⟩ : ∃ w4, w.drewN m3 = w4 := ⟨_, rfl⟩
            rw [hw4] at d0 d1 d2 d3 ⊢
            have HW4 := Lib.hid hw4
            clear q0 q1 i1 i2 hx1 hx2 hy1 hy2 hqe hQ hjs hw4 hqa hqb hpa hpb hap HAPP
            go_wp2_with fail
            go_quiet (fail)
            have d2' : (w4.drewN nq).cell? ⟨g, k * 2, none⟩ = some (.string pa) := d2
            have d3' : (w4.drewN nq).cell? ⟨g, k * 2 + 1, none⟩ = some (.string pb) := d3
            have hw5 : w4.drewN nq = w.drewN (m3 + nq) := by rw [← HW4.out, World.drewN_drewN]
            obtain ⟨w5, hw5e⟩ : ∃ x, w4.drewN nq = x := ⟨_, rfl⟩
            rw [hw5e] at d2' d3' hw5 ⊢
            have HW5 := Lib.hid hw5
            clear d0 d1 d2 d3 hw5 hw5e HW4
            clear w4
            cases x1
            all_goals cases x2
            all_goals cases y1
            all_goals cases y2
            all_goals
              go_wp2
              go_roundw
              case rel => exact ⟨j + 1, m3 + nq, by omega, by go_num, by rw [HI1.out]; rfl, by rw [HI2.out]; rfl, HW5.out⟩
              case measure => simp [intOf]; omega
          · obtain rfl : j = k := by omega
            go_wp2
            go_meet
            case rel => exact ⟨m3, rfl, rfl, rfl⟩
      case rest =>
        obtain ⟨m2, rfl, rfl, hwx⟩ := hcut
        rw [hwx]
        clear hwx
        have hbad := HBAD.out
        cases hx1 : isT (joins (l.take k)) p.1
        · have hb1 : badM l k = true := by rw [hbad, hx1]; rfl
          have HV := Lib.hid (HAT.out hb1 HNO.out)
          clear hbad hb1 hx1
          go_wp2
          go_ret
          exact ⟨by rw [HV.out]; rfl, below_drewN (Below.refl _ _) _⟩
        · cases hx2 : isT (joins (l.take k)) p.2
          · have hb1 : badM l k = true := by rw [hbad, hx1, hx2]; rfl
            have HV := Lib.hid (HAT.out hb1 HNO.out)
            clear hbad hb1 hx1 hx2
            go_wp2
            go_ret
            exact ⟨by rw [HV.out]; rfl, below_drewN (Below.refl _ _) _⟩
          · have hb1 : badM l k = false := by rw [hbad, hx1, hx2]; rfl
            have HALL := Lib.hid (show ∀ j, j < k + 1 → badM l j = false from fun j h => by
              by_cases hj : j = k
              · subst hj; exact hb1
              · exact HNO.out j (by omega))
            clear hbad hb1 hx1 hx2
            go_wp2
            go_roundw
            case rel => exact ⟨k + 1, m2, by omega, by go_num, rfl, HALL.out⟩
            case measure => simp [intOf]; omega
    · obtain rfl : k = n := by omega
      have hv := inv_none l (fun j h => hno j (by rw [HL.out] at h; exact h))
      have HV := Lib.hid hv
      clear hv hno
      go_wp2
      go_ret
      exact ⟨by rw [HV.out]; rfl, below_drewN (Below.refl _ _) _⟩
end Go.Proofs.YtkaejgpnhcdlnaaDoor.Vc
