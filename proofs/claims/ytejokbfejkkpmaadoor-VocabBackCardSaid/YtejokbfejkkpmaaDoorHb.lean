/- container/heap over spots: up and down, walked. -/
import Derived.Test.YtejokbfejkkpmaaDoorHa
namespace Go.Proofs.YtejokbfejkkpmaaDoor
open Go.RowKit Go.Maps Go.WideMaps
theorem me_less (a : Addr) (v : Value) (w : World) (h : w.cell? a = some v) : (method 309 128 (.pointer (some a)) "Less").run Tryd.prog w = .ok (138, v) w := by
  have e : (method 309 128 (.pointer (some a)) "Less").run Tryd.prog w = (do let v ← load a; pure (138, v) : Sem (FuncId × Value)).run Tryd.prog w := by kernel_rfl
  rw [e]
  simp [go_sem, h]
theorem me_swap (a : Addr) (v : Value) (w : World) (h : w.cell? a = some v) : (method 309 128 (.pointer (some a)) "Swap").run Tryd.prog w = .ok (139, v) w := by
  have e : (method 309 128 (.pointer (some a)) "Swap").run Tryd.prog w = (do let v ← load a; pure (139, v) : Sem (FuncId × Value)).run Tryd.prog w := by kernel_rfl
  rw [e]
  simp [go_sem, h]
theorem me_len (a : Addr) (v : Value) (w : World) (h : w.cell? a = some v) : (method 309 128 (.pointer (some a)) "Len").run Tryd.prog w = .ok (137, v) w := by
  have e : (method 309 128 (.pointer (some a)) "Len").run Tryd.prog w = (do let v ← load a; pure (137, v) : Sem (FuncId × Value)).run Tryd.prog w := by kernel_rfl
  rw [e]
  simp [go_sem, h]
theorem me_push (a : Addr) (w : World) : (method 309 128 (.pointer (some a)) "Push").run Tryd.prog w = .ok (143, .pointer (some a)) w := by kernel_rfl
theorem me_pop (a : Addr) (w : World) : (method 309 128 (.pointer (some a)) "Pop").run Tryd.prog w = .ok (142, .pointer (some a)) w := by kernel_rfl
theorem grefl (w : World) (row : Option Nat) : w.grownBy w row := ⟨rfl, rfl, rfl, Nat.le_refl _, fun _ _ _ => rfl⟩
theorem less_n (A : Option Addr) (cap i j n : Nat) (xs : List Sp) (base : Nat) (w : World) (hL : xs.length = n) (hi : i < n) (hj : j < n) (hn : n ≤ 100000) (h : w.ownsRow base 130 4 (.slice A n cap) n (scells xs)) :
    Calls Tryd.prog 138 #[.slice A n cap, .int .i64 i, .int .i64 j] w fun e w' => e = .returned (.bool (lessS (xs.getD i Sp.nul) (xs.getD j Sp.nul))) ∧ ∃ m, w' = w.drewN m := by
  subst hL
  rw [getD_at xs i hi, getD_at xs j hj]
  exact less_any A cap i j xs base w hi hj hn h
theorem swap_n (A : Option Addr) (cap i j n : Nat) (xs : List Sp) (base : Nat) (w : World) (hL : xs.length = n) (hi : i < n) (hj : j < n) (hn : n ≤ 100000) (h : w.ownsRow base 130 4 (.slice A n cap) n (scells xs)) :
    Calls Tryd.prog 139 #[.slice A n cap, .int .i64 i, .int .i64 j] w fun e w' => e = .returned (.tuple #[]) ∧ w'.ownsRow base 130 4 (.slice A n cap) n (scells (swapL xs i j)) ∧ w.grownBy w' (Value.slice A n cap).ownBlock := by
  subst hL
  exact swap_any A cap i j xs base w hi hj hn h
set_option maxRecDepth 100000 in
set_option maxHeartbeats 2000000 in
theorem up_any (a : Addr) (A : Option Addr) (cap j n : Nat) (xs : List Sp) (base : Nat) (w : World) (hL : xs.length = n) (hj : j < n) (hn : n ≤ 100000) (hc : w.cell? a = some (.slice A n cap))
    (h : w.ownsRow base 130 4 (.slice A n cap) n (scells xs)) (hne : (Value.slice A n cap).ownBlock ≠ some a.block) (hi : UpInv xs j) :
    Calls Tryd.prog 72 #[.iface 128 (.pointer (some a)), .int .i64 j] w fun e w' => e = .returned (.tuple #[]) ∧ ∃ ys, ys.Perm xs ∧ HeapTo ys ys.length ∧ w'.ownsRow base 130 4 (.slice A n cap) n (scells ys) ∧ w.grownBy w' (Value.slice A n cap).ownBlock := by
  obtain ⟨rw', hrw⟩ : ∃ r, (Value.slice A n cap).ownBlock = r := ⟨_, rfl⟩
  rw [hrw] at hne ⊢
  have hrw' := Lib.hid hrw
  have hL' := Lib.hid hL
  clear hrw hL
  go_enter Tryd.func72, Tryd.ntmps72
  go_wp2
  go_loopw [1] (fun j wr => ∃ (k : Nat) (ys : List Sp), k < n ∧ j = .int .i64 k ∧ ys.Perm xs ∧ UpInv ys k ∧ wr.ownsRow base 130 4 (.slice A n cap) n (scells ys) ∧ w.grownBy wr rw') (fun i _ => (intOf i).toNat)
  case atStart => exact ⟨j, xs, hj, rfl, List.Perm.refl _, hi, h, grefl _ _⟩
  case round =>
    obtain ⟨k, ys, hk, rfl, hp, hui, hrow, hg⟩ := hrel
    have hyl : ys.length = n := hp.length_eq.trans hL'.out
    rcases Nat.eq_zero_or_pos k with rfl | k0
    · clear hyl
      go_wp2
      go_end0
      exact ⟨rfl, ys, hp, up_end hui (.inl rfl), hrow, hg⟩
    · have hpl := par_lt k0
      have hkk := hg.cell hc (fun e => hne e.symm)
      have hml := me_less a _ wr hkk
      have hkd : ∀ m, (wr.drewN m).cell? a = some (.slice A n cap) := fun _ => hkk
      have hms : ∀ m, (method 309 128 (.pointer (some a)) "Swap").run Tryd.prog (wr.drewN m) = .ok (139, .slice A n cap) (wr.drewN m) := fun m => me_swap a _ _ (hkd m)
      have hrd : ∀ m, (wr.drewN m).ownsRow base 130 4 (.slice A n cap) n (scells ys) := fun _ => hrow
      have KL := less_n A cap k (par k) n ys base wr hyl (by omega) (by omega) (by omega) hrow
      have KS := fun m => swap_n A cap (par k) k n ys base (wr.drewN m) hyl (by omega) (by omega) (by omega) (hrd m)
      rw [hrw'.out] at KS
      have e1 : ((k : Int) - 1) / 2 = ((par k : Nat) : Int) := by unfold par; omega
      have e2 : (((par k : Nat) : Int) == (k : Int)) = false := by rw [beq_eq_false_iff_ne]; omega
      have k1 : (1 : Int) ≤ (k : Int) := by omega
      have hyl' := Lib.hid hyl
      by_cases hls : lessS (ys.getD k Sp.nul) (ys.getD (par k) Sp.nul) = true
      · have hst := Lib.hid (up_step hui k0 (by omega) (less_le.1 hls))
        have hsp := Lib.hid (swapL_perm ys (par k) k (by omega) (by omega))
        rw [hls] at KL
        clear hrow hkk hkd hrd hyl hui hls
        go_wp2_with (go_at_call 138; (with_reducible refine KL.mono ?_); rintro e w' ⟨rfl, m, rfl⟩)
        go_wp2_with (go_at_call 139; (with_reducible refine (KS _).mono ?_); rintro e w' ⟨rfl, hr2, hg2⟩)
        go_roundw
        case rel => exact ⟨par k, _, by omega, rfl, hsp.out.trans hp, hst.out, hr2, gtrans hg (gtrans (gdrewN _ _ _) hg2)⟩
        case measure => simp [intOf]; omega
      · have hls' : lessS (ys.getD k Sp.nul) (ys.getD (par k) Sp.nul) = false := by simpa using hls
        have hst := Lib.hid (up_end hui (.inr (less_not.1 hls')))
        rw [hls'] at KL
        clear hkk hkd hyl hui hls hls'
        go_wp2_with (go_at_call 138; (with_reducible refine KL.mono ?_); rintro e w' ⟨rfl, m, rfl⟩)
        go_wp2
        go_end0
        exact ⟨rfl, ys, hp, hst.out, hrd _, gtrans hg (gdrewN _ _ _)⟩
end Go.Proofs.YtejokbfejkkpmaaDoor
