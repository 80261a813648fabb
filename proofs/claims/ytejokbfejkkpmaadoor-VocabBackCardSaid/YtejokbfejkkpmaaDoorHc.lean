/- container/heap over spots: down, walked. -/
import Derived.Test.YtejokbfejkkpmaaDoorHb
namespace Go.Proofs.YtejokbfejkkpmaaDoor
open Go.RowKit Go.Maps Go.WideMaps
set_option maxRecDepth 100000 in
set_option maxHeartbeats 4000000 in
theorem down_any (a : Addr) (A : Option Addr) (cap m n : Nat) (xs : List Sp) (base : Nat) (w : World) (hL : xs.length = n) (hm : m < n) (hn : n ≤ 100000) (hc : w.cell? a = some (.slice A n cap))
    (h : w.ownsRow base 130 4 (.slice A n cap) n (scells xs)) (hne : (Value.slice A n cap).ownBlock ≠ some a.block) (hi : DownInv xs m 0) :
    Calls Tryd.prog 73 #[.iface 128 (.pointer (some a)), .int .i64 0, .int .i64 m] w fun e w' => (∃ b, e = .returned (.bool b)) ∧ ∃ ys, ys.Perm xs ∧ HeapTo ys m ∧ ys.getD m Sp.nul = xs.getD m Sp.nul ∧ w'.ownsRow base 130 4 (.slice A n cap) n (scells ys) ∧ w.grownBy w' (Value.slice A n cap).ownBlock := by
  obtain ⟨rw', hrw⟩ : ∃ r, (Value.slice A n cap).ownBlock = r := ⟨_, rfl⟩
  rw [hrw] at hne ⊢
  have hrw' := Lib.hid hrw
  have hL' := Lib.hid hL
  clear hrw hL
  go_enter Tryd.func73, Tryd.ntmps73
  go_wp2
  go_loopw [7] (fun i wr => ∃ (k : Nat) (ys : List Sp), (k = 0 ∨ k < m) ∧ i = .int .i64 k ∧ ys.Perm xs ∧ DownInv ys m k ∧ ys.getD m Sp.nul = xs.getD m Sp.nul ∧ wr.ownsRow base 130 4 (.slice A n cap) n (scells ys) ∧ w.grownBy wr rw') (fun i _ => m - (intOf i).toNat)
  case atStart => exact ⟨0, xs, .inl rfl, rfl, List.Perm.refl _, hi, rfl, h, grefl _ _⟩
  case round =>
    obtain ⟨k, ys, hk, rfl, hp, hui, hlast, hrow, hg⟩ := hrel
    have hyl : ys.length = n := hp.length_eq.trans hL'.out
    obtain ⟨c1, hc1⟩ : ∃ c, c = 2 * k + 1 := ⟨_, rfl⟩
    obtain ⟨c2, hc2⟩ : ∃ c, c = 2 * k + 2 := ⟨_, rfl⟩
    have e1 : 2 * (k : Int) + 1 = (c1 : Int) := by omega
    have k0 : (0 : Int) ≤ (k : Int) := by omega
    have k1 : (k : Int) ≤ 100000 := by omega
    have c10 : (0 : Int) ≤ (c1 : Int) := by omega
    have c1b : (c1 : Int) ≤ 300000 := by omega
    have HC1 := Lib.hid hc1
    have HC2 := Lib.hid hc2
    have HLA := Lib.hid hlast
    by_cases h1 : m ≤ c1
    · have hend := Lib.hid (down_end hui (fun j j0 jm jp => by have := par_of j0 jp; omega))
      have d1 : decide (m ≤ c1) = true := by simpa using h1
      clear hc1 hc2 hyl hlast hui hk
      go_wp2
      go_ret
      exact ⟨⟨_, rfl⟩, ys, hp, hend.out, HLA.out, hrow, hg⟩
    · have d1 : decide (m ≤ c1) = false := by simpa using h1
      have d2 : decide ((c1 : Int) < 0) = false := by simp
      have e2 : (c1 : Int) + 1 = (c2 : Int) := by omega
      clear hc1 hc2 hlast
      by_cases h2 : c2 < m
      · have d3 : decide (c2 < m) = true := by simpa using h2
        have hkk := hg.cell hc (fun e => hne e.symm)
        have hml := me_less a _ wr hkk
        have hrd : ∀ m, (wr.drewN m).ownsRow base 130 4 (.slice A n cap) n (scells ys) := fun _ => hrow
        have hkd : ∀ m, (wr.drewN m).cell? a = some (.slice A n cap) := fun _ => hkk
        have hmd : ∀ m, (method 309 128 (.pointer (some a)) "Less").run Tryd.prog (wr.drewN m) = .ok (138, .slice A n cap) (wr.drewN m) := fun m => me_less a _ _ (hkd m)
        have hms : ∀ m, (method 309 128 (.pointer (some a)) "Swap").run Tryd.prog (wr.drewN m) = .ok (139, .slice A n cap) (wr.drewN m) := fun m => me_swap a _ _ (hkd m)
        have c20 : (0 : Int) ≤ (c2 : Int) := by omega
        have KA := less_n A cap c2 c1 n ys base wr hyl (by omega) (by omega) (by omega) hrow
        by_cases hla : lessS (ys.getD c2 Sp.nul) (ys.getD c1 Sp.nul) = true
        · skip
          have KL := fun m => less_n A cap c2 k n ys base (wr.drewN m) hyl (by omega) (by omega) (by omega) (hrd m)
          have KS := fun m => swap_n A cap k c2 n ys base (wr.drewN m) hyl (by omega) (by omega) (by omega) (hrd m)
          rw [hrw'.out] at KS
          rw [hla] at KA
          have hmin : ∀ j, 0 < j → j < m → par j = k → leS (ys.getD c2 Sp.nul) (ys.getD j Sp.nul) := fun j j0 jm jp => by rcases par_of j0 jp with e | e <;> rw [e] <;> first | (rw [← HC1.out]; exact leS_total (less_le.1 hla)) | (rw [← HC2.out]; exact leS_refl _)
          by_cases hls : lessS (ys.getD c2 Sp.nul) (ys.getD k Sp.nul) = true
          · have hst := Lib.hid (down_step hui (by omega) (by omega : c2 < m) (by have := HC1.out; omega) (by rw [HC2.out]; exact par_right k) hmin (less_le.1 hls))
            have hsp := Lib.hid (swapL_perm ys k c2 (by omega) (by omega))
            have hsl : Hid ((swapL ys k c2).getD m Sp.nul = xs.getD m Sp.nul) := Lib.hid (by rw [swapL_at _ _ _ _ (by omega) (by omega), if_neg (by omega), if_neg (by omega)]; exact HLA.out)
            rw [hls] at KL
            clear hrow hkk hkd hrd hyl hui hls hmin hla
            go_wp2_with (go_at_call 138; (with_reducible refine KA.mono ?_); rintro e w' ⟨rfl, q, rfl⟩)
            go_wp2_with (go_at_call 138; (with_reducible refine (KL _).mono ?_); rintro e w' ⟨rfl, q2, hq2⟩; rw [World.drewN_drewN] at hq2; subst hq2)
            go_wp2_with (go_at_call 139; (with_reducible refine (KS _).mono ?_); rintro e w' ⟨rfl, hr2, hg2⟩)
            go_roundw
            case rel => exact ⟨c2, _, by omega, rfl, hsp.out.trans hp, hst.out, hsl.out, hr2, gtrans hg (gtrans (gdrewN _ _ _) hg2)⟩
            case measure => have := HC1.out; have := HC2.out; simp [intOf]; omega
          · have hls' : lessS (ys.getD c2 Sp.nul) (ys.getD k Sp.nul) = false := by simpa using hls
            have hend := Lib.hid (down_end hui (fun j j0 jm jp => leS_trans (less_not.1 hls') (hmin j j0 jm jp)))
            rw [hls'] at KL
            clear hkk hkd hyl hui hls hls' hmin hla
            go_wp2_with (go_at_call 138; (with_reducible refine KA.mono ?_); rintro e w' ⟨rfl, q, rfl⟩)
            go_wp2_with (go_at_call 138; (with_reducible refine (KL _).mono ?_); rintro e w' ⟨rfl, q2, hq2⟩; rw [World.drewN_drewN] at hq2; subst hq2)
            go_wp2
            go_ret
            exact ⟨⟨_, rfl⟩, ys, hp, hend.out, HLA.out, hrd _, gtrans hg (gdrewN _ _ _)⟩
        · have hla : lessS (ys.getD c2 Sp.nul) (ys.getD c1 Sp.nul) = false := by simpa using hla
          have KL := fun m => less_n A cap c1 k n ys base (wr.drewN m) hyl (by omega) (by omega) (by omega) (hrd m)
          have KS := fun m => swap_n A cap k c1 n ys base (wr.drewN m) hyl (by omega) (by omega) (by omega) (hrd m)
          rw [hrw'.out] at KS
          rw [hla] at KA
          have hmin : ∀ j, 0 < j → j < m → par j = k → leS (ys.getD c1 Sp.nul) (ys.getD j Sp.nul) := fun j j0 jm jp => by rcases par_of j0 jp with e | e <;> rw [e] <;> first | (rw [← HC1.out]; exact leS_refl _) | (rw [← HC2.out]; exact less_not.1 hla)
          by_cases hls : lessS (ys.getD c1 Sp.nul) (ys.getD k Sp.nul) = true
          · have hst := Lib.hid (down_step hui (by omega) (by omega : c1 < m) (by have := HC1.out; omega) (by rw [HC1.out]; exact par_left k) hmin (less_le.1 hls))
            have hsp := Lib.hid (swapL_perm ys k c1 (by omega) (by omega))
            have hsl : Hid ((swapL ys k c1).getD m Sp.nul = xs.getD m Sp.nul) := Lib.hid (by rw [swapL_at _ _ _ _ (by omega) (by omega), if_neg (by omega), if_neg (by omega)]; exact HLA.out)
            rw [hls] at KL
            clear hrow hkk hkd hrd hyl hui hls hmin hla
            go_wp2_with (go_at_call 138; (with_reducible refine KA.mono ?_); rintro e w' ⟨rfl, q, rfl⟩)
            go_wp2_with (go_at_call 138; (with_reducible refine (KL _).mono ?_); rintro e w' ⟨rfl, q2, hq2⟩; rw [World.drewN_drewN] at hq2; subst hq2)
            go_wp2_with (go_at_call 139; (with_reducible refine (KS _).mono ?_); rintro e w' ⟨rfl, hr2, hg2⟩)
            go_roundw
            case rel => exact ⟨c1, _, by omega, rfl, hsp.out.trans hp, hst.out, hsl.out, hr2, gtrans hg (gtrans (gdrewN _ _ _) hg2)⟩
            case measure => have := HC1.out; have := HC2.out; simp [intOf]; omega
          · have hls' : lessS (ys.getD c1 Sp.nul) (ys.getD k Sp.nul) = false := by simpa using hls
            have hend := Lib.hid (down_end hui (fun j j0 jm jp => leS_trans (less_not.1 hls') (hmin j j0 jm jp)))
            rw [hls'] at KL
            clear hkk hkd hyl hui hls hls' hmin hla
            go_wp2_with (go_at_call 138; (with_reducible refine KA.mono ?_); rintro e w' ⟨rfl, q, rfl⟩)
            go_wp2_with (go_at_call 138; (with_reducible refine (KL _).mono ?_); rintro e w' ⟨rfl, q2, hq2⟩; rw [World.drewN_drewN] at hq2; subst hq2)
            go_wp2
            go_ret
            exact ⟨⟨_, rfl⟩, ys, hp, hend.out, HLA.out, hrd _, gtrans hg (gdrewN _ _ _)⟩
      · have d3 : decide (c2 < m) = false := by simpa using h2
        have hkk := hg.cell hc (fun e => hne e.symm)
        have hml := me_less a _ wr hkk
        have hrd : ∀ m, (wr.drewN m).ownsRow base 130 4 (.slice A n cap) n (scells ys) := fun _ => hrow
        have hkd : ∀ m, (wr.drewN m).cell? a = some (.slice A n cap) := fun _ => hkk
        have hms : ∀ m, (method 309 128 (.pointer (some a)) "Swap").run Tryd.prog (wr.drewN m) = .ok (139, .slice A n cap) (wr.drewN m) := fun m => me_swap a _ _ (hkd m)
        have KL := less_n A cap c1 k n ys base wr hyl (by omega) (by omega) (by omega) hrow
        have KS := fun m => swap_n A cap k c1 n ys base (wr.drewN m) hyl (by omega) (by omega) (by omega) (hrd m)
        rw [hrw'.out] at KS
        have hmin : ∀ j, 0 < j → j < m → par j = k → j = c1 := fun j j0 jm jp => by have := par_of j0 jp; have := HC1.out; have := HC2.out; omega
        by_cases hls : lessS (ys.getD c1 Sp.nul) (ys.getD k Sp.nul) = true
        · have hst := Lib.hid (down_step hui (by omega) (by omega : c1 < m) (by have := HC1.out; omega) (by rw [HC1.out]; exact par_left k) (fun j j0 jm jp => by rw [hmin j j0 jm jp]; exact leS_refl _) (less_le.1 hls))
          have hsp := Lib.hid (swapL_perm ys k c1 (by omega) (by omega))
          have hsl : Hid ((swapL ys k c1).getD m Sp.nul = xs.getD m Sp.nul) := Lib.hid (by rw [swapL_at _ _ _ _ (by omega) (by omega), if_neg (by omega), if_neg (by omega)]; exact HLA.out)
          rw [hls] at KL
          clear hrow hkk hkd hrd hyl hui hls hmin
          go_wp2_with (go_at_call 138; (with_reducible refine KL.mono ?_); rintro e w' ⟨rfl, q, rfl⟩)
          go_wp2_with (go_at_call 139; (with_reducible refine (KS _).mono ?_); rintro e w' ⟨rfl, hr2, hg2⟩)
          go_roundw
          case rel => exact ⟨c1, _, by omega, rfl, hsp.out.trans hp, hst.out, hsl.out, hr2, gtrans hg (gtrans (gdrewN _ _ _) hg2)⟩
          case measure => have := HC1.out; simp [intOf]; omega
        · have hls' : lessS (ys.getD c1 Sp.nul) (ys.getD k Sp.nul) = false := by simpa using hls
          have hend := Lib.hid (down_end hui (fun j j0 jm jp => by rw [hmin j j0 jm jp]; exact less_not.1 hls'))
          rw [hls'] at KL
          clear hkk hkd hyl hui hls hls' hmin
          go_wp2_with (go_at_call 138; (with_reducible refine KL.mono ?_); rintro e w' ⟨rfl, q, rfl⟩)
          go_wp2
          go_ret
          exact ⟨⟨_, rfl⟩, ys, hp, hend.out, HLA.out, hrd _, gtrans hg (gdrewN _ _ _)⟩
end Go.Proofs.YtejokbfejkkpmaaDoor
