/- container/heap over spots: Push and Pop, walked. -/
import Derived.Test.YtejokbfejkkpmaaDoorHd
namespace Go.Proofs.YtejokbfejkkpmaaDoor
open Go.RowKit Go.Maps Go.WideMaps
theorem len_any (A : Option Addr) (cap n : Nat) (w : World) : Calls Tryd.prog 137 #[.slice A n cap] w fun e w' => e = .returned (.int .i64 n) ∧ w = w' := by
  go_enter Tryd.func137, Tryd.ntmps137
  go_wp2
  go_ret
  exact ⟨rfl, rfl⟩
theorem Fr.above {w w1 w2 : World} {R g : Nat} {row : Option Nat} (h : Fr w w1 R row) (k : w1.grownBy w2 (some g)) (hg : row = some g ∨ w.heap.size ≤ g) : Fr w w2 R row :=
  ⟨k.os.trans h.1, k.tape.trans h.2.1, k.output.trans h.2.2.1, Nat.le_trans h.2.2.2.1 k.size, fun i hi h1 h2 => (k.block i (Nat.lt_of_lt_of_le hi h.2.2.2.1) (fun e => by
    cases e
    rcases hg with hg | hg
    · exact h2 hg.symm
    · omega)).trans (h.2.2.2.2 i hi h1 h2)⟩
set_option maxRecDepth 100000 in
set_option maxHeartbeats 4000000 in
theorem hpush_any (R : Nat) (A : Option Addr) (cap n : Nat) (P N Q M : Value) (xs : List Sp) (x : Sp) (base : Nat) (w : World) (hL : xs.length = n) (hn : n < 100000) (hb : RBlk w R #[P, N, Q, M, .slice A n cap])
    (h : w.ownsRow base 130 4 (.slice A n cap) n (scells xs)) (hB : base ≤ w.heap.size) (hh : HeapTo xs n) :
    Calls Tryd.prog 59 #[.iface 128 (.pointer (some ⟨R, 4, none⟩)), .iface 130 (spV x)] w fun e w' => e = .returned (.tuple #[]) ∧
      ∃ g cap' ys, ys.Perm (xs ++ [x]) ∧ HeapTo ys (n + 1) ∧ RBlk w' R #[P, N, Q, M, .slice (some ⟨g, 0, none⟩) (n + 1) cap'] ∧ w'.ownsRow base 130 4 (.slice (some ⟨g, 0, none⟩) (n + 1) cap') (n + 1) (scells ys) ∧ Fr w w' R (Value.slice A n cap).ownBlock ∧ ((Value.slice A n cap).ownBlock = some g ∨ w.heap.size ≤ g) := by
  have KP := pushm_any R A cap n P N Q M xs x base w hL (by omega) hb h hB
  have hmp := me_push ⟨R, 4, none⟩
  have hu : UpInv (xs ++ [x]) n := by subst hL; exact up_start hh
  have HU := Lib.hid hu
  have HL := Lib.hid hL
  have n0 : (0 : Int) ≤ (n : Int) := by omega
  have n1 : (n : Int) ≤ 100000 := by omega
  clear hb h hL hh hu
  go_enter Tryd.func59, Tryd.ntmps59
  go_wp2_with (go_at_call 143; (with_reducible refine KP.mono ?_))
  rintro e w1 ⟨rfl, g, c1, hb1, hr1, hf1, hat⟩
  have hc1 := hb1.cell 4
  simp at hc1
  have hml := me_len ⟨R, 4, none⟩ _ w1 hc1
  have KL := len_any (some ⟨g, 0, none⟩) c1 (n + 1) w1
  have hap := hb1.apart hr1 (by decide)
  have KU := up_any ⟨R, 4, none⟩ (some ⟨g, 0, none⟩) c1 n (n + 1) (xs ++ [x]) base w1 (by simp [HL.out]) (by omega) (by omega) hc1 hr1 hap HU.out
  clear KP hmp
  go_wp2_with (go_at_call 137; (with_reducible refine KL.mono ?_); rintro e w' ⟨rfl, rfl⟩)
  go_wp2_with (go_at_call 72; (with_reducible refine KU.mono ?_))
  rintro e w2 ⟨rfl, ys, hp, hh2, hr2, hg2⟩
  have hyl : ys.length = n + 1 := by rw [hp.length_eq]; simp [HL.out]
  rw [hyl] at hh2
  clear KL KU hml hc1
  go_wp2
  go_end0
  exact ⟨rfl, g, c1, ys, hp, hh2, hb1.kept hg2 hap, hr2, hf1.above hg2 hat, hat⟩
set_option maxRecDepth 100000 in
set_option maxHeartbeats 4000000 in
theorem hpop_any (R : Nat) (A : Option Addr) (cap n : Nat) (P N Q M : Value) (xs : List Sp) (base : Nat) (w : World) (hL : xs.length = n + 1) (hn : n < 100000) (hb : RBlk w R #[P, N, Q, M, .slice A (n + 1) cap])
    (h : w.ownsRow base 130 4 (.slice A (n + 1) cap) (n + 1) (scells xs)) (hh : HeapTo xs (n + 1)) :
    Calls Tryd.prog 60 #[.iface 128 (.pointer (some ⟨R, 4, none⟩))] w fun e w' => e = .returned (.iface 130 (spV (xs.getD 0 Sp.nul))) ∧
      ∃ ys, xs.Perm (xs.getD 0 Sp.nul :: ys) ∧ ys.length = n ∧ HeapTo ys n ∧ RBlk w' R #[P, N, Q, M, .slice A n cap] ∧ w'.ownsRow base 130 4 (.slice A n cap) n (scells ys) ∧ Fr w w' R (Value.slice A (n + 1) cap).ownBlock := by
  have hc0 := hb.cell 4
  simp at hc0
  have hml := me_len ⟨R, 4, none⟩ _ w hc0
  have hms := me_swap ⟨R, 4, none⟩ _ w hc0
  have KL := len_any A cap (n + 1) w
  have KS := swap_n A cap 0 n (n + 1) xs base w hL (by omega) (by omega) (by omega) h
  rw [show ((0 : Nat) : Int) = 0 from rfl] at KS
  have hap := hb.apart h (by decide)
  have hds := Lib.hid (down_start (m := n) (hL ▸ hh) hL)
  have HL := Lib.hid hL
  have HB := Lib.hid hb
  have n0 : (0 : Int) ≤ (n : Int) := by omega
  have n1 : (n : Int) ≤ 100000 := by omega
  clear hL hh hb h
  go_enter Tryd.func60, Tryd.ntmps60
  go_wp2_with (go_at_call 137; (with_reducible refine KL.mono ?_); rintro e w' ⟨rfl, rfl⟩)
  go_wp2_with (go_at_call 139; (with_reducible refine KS.mono ?_))
  rintro e w1 ⟨rfl, hr1, hg1⟩
  have hb1 := HB.out.kept hg1 hap
  have hc1 := hb1.cell 4
  simp at hc1
  have KD := down_any ⟨R, 4, none⟩ A cap n (n + 1) (swapL xs 0 n) base w1 (by rw [swapL_length]; exact HL.out) (by omega) (by omega) hc1 hr1 hap hds.out
  clear KL KS hml hms hc0
  go_wp2_with (go_at_call 73; (with_reducible refine KD.mono ?_))
  rintro e w2 ⟨⟨bb, rfl⟩, ys, hp, hh2, hla, hr2, hg2⟩
  have hb2 := hb1.kept hg2 hap
  have hpp := pop_perm HL.out hp hla
  have hyl : ys.length = n + 1 := by rw [hp.length_eq, swapL_length]; exact HL.out
  have KP := popm_any R A cap n P N Q M ys base w2 hyl (by omega) hb2 hr2
  have hmp := me_pop ⟨R, 4, none⟩
  have hht := heap_take hh2 (by omega)
  have htl : (ys.take n).length = n := by rw [List.length_take]; omega
  rw [htl] at hht
  rw [hpp.1] at KP
  have HT := Lib.hid htl
  have HP := Lib.hid hpp.2
  clear KD hc1 hpp hyl hla htl
  go_wp2_with (go_at_call 142; (with_reducible refine KP.mono ?_))
  rintro e w3 ⟨rfl, hb3, hr3, hf3⟩
  clear KP hmp
  go_wp2
  go_ret
  exact ⟨rfl, ys.take n, HP.out, HT.out, hht, hb3, hr3, ((Fr.of hg1).trans (Fr.of hg2)).trans hf3⟩
end Go.Proofs.YtejokbfejkkpmaaDoor
