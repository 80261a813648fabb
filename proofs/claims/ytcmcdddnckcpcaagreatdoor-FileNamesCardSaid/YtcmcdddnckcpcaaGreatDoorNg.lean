/- nums.Get and Next, walked. -/
import Derived.Test.YtcmcdddnckcpcaaGreatDoorNu
import Derived.Deep.QuietTactic
import Derived.BigQuiet
import Derived.Lib.SmallJoins
namespace Go.Proofs.YtcmcdddnckcpcaaGreatDoor
open Go.RowKit
theorem lead_int : ∀ c : Fin 256, bits BinOp.xor IntKind.u8 (if IntKind.u8.signed = true then -1 else IntKind.u8.max) (c.val : Int) = ((255 - c.val : Nat) : Int) ∧ (8 - (Lib.bitLen (255 - c.val) : Int)) = (lead1 (UInt8.ofNat c.val) : Int) := by decide +kernel
theorem and_mask : ∀ (k : Fin 6) (c : Fin 256), bits BinOp.and IntKind.u8 (c.val : Int) ((255 / 2 ^ k.val : Nat) : Int) = ((c.val % 2 ^ (8 - k.val) : Nat) : Int) := by decide +kernel
theorem num_snoc (a : Nat) (l : Bs) (c : UInt8) : num a (l ++ [c]) = num a l * 256 + c.toNat := by simp [num]
theorem num_lt (l : Bs) : ∀ a, num a l < (a + 1) * 256 ^ l.length := by
  induction l with
  | nil => intro a; simp [num]
  | cons c l ih =>
    intro a
    have h1 := ih (a * 256 + c.toNat)
    have h2 := c.toNat_lt
    simp only [num, List.foldl_cons] at h1 ⊢
    refine Nat.lt_of_lt_of_le h1 ?_
    rw [List.length_cons, Nat.pow_succ, Nat.mul_comm (256 ^ l.length) 256, ← Nat.mul_assoc]
    exact Nat.mul_le_mul_right _ (by omega)
theorem or_i64 (N b : Nat) (hN : N < 1099511627776) (hb : b < 256) : bits BinOp.or IntKind.i64 ((N : Int) * 256) (wrap64 (b : Int)) = ((N * 256 + b : Nat) : Int) := by
  have hw : wrap64 (b : Int) = (b : Int) := by rw [Go.IntWalk.wrap64_in _ (by omega)]
  rw [hw, show (N : Int) * 256 = ((N * 256 : Nat) : Int) by omega]
  have h1 : (BitVec.ofInt 64 ((N * 256 : Nat) : Int)).toNat = N * 256 := by
    rw [BitVec.ofInt_natCast, BitVec.toNat_ofNat]; exact Nat.mod_eq_of_lt (by omega)
  have h2 : (BitVec.ofInt 64 (b : Int)).toNat = b := by
    rw [BitVec.ofInt_natCast, BitVec.toNat_ofNat]; exact Nat.mod_eq_of_lt (by omega)
  show IntKind.i64.wrap ((BitVec.ofInt 64 ((N * 256 : Nat) : Int) ||| BitVec.ofInt 64 (b : Int)).toNat : Int) = _
  have h3 := Nat.two_pow_add_eq_or_of_lt (i := 8) (b := b) (by omega) N
  rw [show 2 ^ 8 * N = N * 256 by omega] at h3
  rw [BitVec.toNat_or, h1, h2, ← h3, IntKind.wrap_i64]
  omega
set_option maxRecDepth 100000 in
set_option maxHeartbeats 4000000 in
theorem get_any' (s : ByteArray) (w : World) (hs : s.size ≤ 9223372036854775807) : Calls Tryz.prog 124 #[.string s] w fun e w' => e = .returned (.tuple #[.int .i64 (getB s.data.toList).1, .int .i64 (getB s.data.toList).2.1, .int .i64 (getB s.data.toList).2.2]) ∧ Below w.heap.size w w' := by
  rcases Nat.eq_zero_or_pos s.size with h0 | hp
  · have hsz : s.data.toList = [] := List.length_eq_zero_iff.1 (by simpa using h0)
    have he : s.toList = [] := by rw [ByteArray.toList_eq]; exact hsz
    have HE := Lib.hid hsz
    clear hsz h0
    go_enter Tryz.func124, Tryz.ntmps124
    go_wp2
    go_ret3
    rw [HE.out]
    exact ⟨rfl, Below.refl _ _⟩
  · have hlen : s.data.toList.length = s.size := by simp
    have hne : s.toList.isEmpty = false := by
      rw [ByteArray.toList_eq]
      cases h : s.data.toList with
      | nil => rw [h] at hlen; simp at hlen; omega
      | cons => rfl
    have hne2 : (!s.toList.isEmpty) = true := by rw [hne]; rfl
    have hnil : s.toList ≠ [] := by intro e; rw [e] at hne; simp at hne
    obtain ⟨c, r, hcr⟩ : ∃ c r, s.data.toList = c :: r := by
      cases h : s.data.toList with
      | nil => rw [h] at hlen; simp at hlen; omega
      | cons c r => exact ⟨c, r, rfl⟩
    have hc0 : s[0]'hp = c := by
      have : s.data.toList[0]'(by omega) = c := by simp [hcr]
      exact this
    have hat : ∀ i (h : i + 1 < s.size), r[i]? = some s[i + 1] := by
      intro i h
      have : s.data.toList[i + 1]? = some s[i + 1] := by rw [Array.getElem?_toList, Array.getElem?_eq_getElem h]; rfl
      rw [hcr, List.getElem?_cons_succ] at this
      exact this
    have hrl : r.length + 1 = s.size := by rw [← hlen, hcr]; rfl
    have hx := lead_int ⟨c.toNat, c.toNat_lt⟩
    simp only [UInt8.ofNat_toNat] at hx
    obtain ⟨hx1, hx2⟩ := hx
    have KL := Tryz.bits_LeadingZeros8 ((255 - c.toNat : Nat) : Int) w (by omega) (by have := c.toNat_lt; omega)
    rw [Int.toNat_natCast, hx2] at KL
    have hg : getB s.data.toList = getB (c :: r) := by rw [hcr]
    have HG := Lib.hid hg
    have HAT := Lib.hid hat
    have hk8 : lead1 c ≤ 8 := by unfold lead1; repeat' split
                                 all_goals omega
    obtain ⟨k, hk⟩ : ∃ k, lead1 c = k := ⟨_, rfl⟩
    rw [hk] at KL hk8
    have HK := Lib.hid hk
    have k0 : (0 : Int) ≤ (k : Int) := by omega
    have k8 : (k : Int) ≤ 8 := by omega
    have n0 : (s.size : Int) ≤ 9223372036854775807 := by omega
    clear hcr hat hg hk hx2 hlen hnil
    rcases Nat.lt_or_ge 5 k with hk5 | hk5
    · have hk5' : (5 : Int) < (k : Int) := by omega
      have HR : Hid (getB (c :: r) = (0, 0, 2)) := Lib.hid (by unfold getB; simp only; rw [HK.out, if_pos hk5])
      clear hk5 hrl
      go_enter Tryz.func124, Tryz.ntmps124
      go_wp2_with (go_at_call 147; refine KL.mono ?_; rintro e w' ⟨rfl, rfl⟩)
      go_ret3
      exact ⟨by rw [HG.out, HR.out]; rfl, Below.refl _ _⟩
    · have hk5' : ¬ (5 : Int) < (k : Int) := by omega
      rcases Nat.lt_or_ge r.length k with hkr | hkr
      · have hkr' : (s.size : Int) ≤ (k : Int) := by omega
        have HR : Hid (getB (c :: r) = (0, 0, 3)) := Lib.hid (by unfold getB; simp only; rw [HK.out, if_neg (by omega), if_pos hkr])
        clear hk5 hkr hrl
        go_enter Tryz.func124, Tryz.ntmps124
        go_wp2_with (go_at_call 147; refine KL.mono ?_; rintro e w' ⟨rfl, rfl⟩)
        go_ret3
        exact ⟨by rw [HG.out, HR.out]; rfl, Below.refl _ _⟩
      · have hkr' : ¬ (s.size : Int) ≤ (k : Int) := by omega
        have hm := and_mask ⟨k, by omega⟩ ⟨c.toNat, c.toNat_lt⟩
        simp only at hm
        obtain ⟨a0, ha0⟩ : ∃ a, c.toNat % 2 ^ (8 - k) = a := ⟨_, rfl⟩
        have hal : a0 < 128 * 2 := by have := Nat.mod_lt c.toNat (show 0 < 2 ^ (8 - k) from Nat.pow_pos (by omega)); have h2 : 2 ^ (8 - k) ≤ 2 ^ 8 := Nat.pow_le_pow_right (by omega) (by omega); omega
        rw [ha0, Int.natCast_ediv, Int.natCast_pow] at hm
        have hm : bits BinOp.and IntKind.u8 (c.toNat : Int) ((255 : Int) / 2 ^ k) = (a0 : Int) := hm
        have a00 : (0 : Int) ≤ (a0 : Int) := by omega
        have a01 : (a0 : Int) < 256 := by omega
        have HA0 := Lib.hid ha0
        have HRL := Lib.hid hrl
        have HKR := Lib.hid hkr
        have k5 : (k : Int) ≤ 5 := by omega
        clear ha0 hrl hkr hk8
        go_enter Tryz.func124, Tryz.ntmps124
        go_wp2_with (go_at_call 147; refine KL.mono ?_; rintro e w' ⟨rfl, rfl⟩)
        go_quiet (fail)
        obtain ⟨W, hW⟩ : ∃ W, w'.drewN nq = W := ⟨_, rfl⟩
        have HBW : Hid (Below w'.heap.size w' W) := Lib.hid (by rw [← hW]; exact Go.Joins.below_draws _ _ _)
        rw [hW]
        clear KL hm hx1 hW hc0 hne hne2
        go_wp2
        go_loop [6, 7] (fun nv iv => ∃ q : Nat, 1 ≤ q ∧ q ≤ k + 1 ∧ iv = .int .i64 (q : Int) ∧ nv = .int .i64 ((num a0 (r.take (q - 1)) : Nat) : Int)) (fun _ iv => (7 - intOf iv).toNat)
        case atStart => exact ⟨1, by omega, by omega, rfl, by simp [num]⟩
        case round =>
          obtain ⟨q, hq1, hq, rfl, rfl⟩ := hrel
          have hnl := num_lt (r.take (q - 1)) a0
          rw [List.length_take, Nat.min_eq_left (by have := HKR.out; omega)] at hnl
          rcases Nat.lt_or_ge k q with hge | hlt
          · obtain rfl : q = k + 1 := by omega
            rw [Nat.add_sub_cancel] at hnl ⊢
            have hp5 : 256 ^ k ≤ 256 ^ 5 := Nat.pow_le_pow_right (by omega) (by omega)
            have hNl : num a0 (r.take k) < 281474976710656 := by
              refine Nat.lt_of_lt_of_le hnl (Nat.le_trans (Nat.mul_le_mul (show a0 + 1 ≤ 256 by omega) hp5) (by decide))
            have hgb : getB (c :: r) = if 1099511627776 < num a0 (r.take k) ∨ kOf (num a0 (r.take k)) ≠ k then (0, 0, 2) else (num a0 (r.take k), k + 1, 0) := by
              unfold getB
              simp only
              rw [HK.out, if_neg (by omega), if_neg (by have := HKR.out; omega), HA0.out]
            obtain ⟨N, hN⟩ : ∃ N, num a0 (r.take k) = N := ⟨_, rfl⟩
            rw [hN] at hNl hgb ⊢
            have KBH := behind_any N W (by omega)
            have N0 : (0 : Int) ≤ (N : Int) := by omega
            have N1 : (N : Int) ≤ 9223372036854775807 := by omega
            obtain ⟨m, hm2⟩ : ∃ m, kOf N = m := ⟨_, rfl⟩
            rw [hm2] at KBH hgb
            have HGB := Lib.hid hgb
            clear hgb hnl hp5 hN hm2 hNl
            rcases Nat.lt_or_ge 1099511627776 N with hbig | hsm
            · have hb' : (1099511627776 : Int) < (N : Int) := by omega
              have HR : Hid (getB (c :: r) = (0, 0, 2)) := Lib.hid (by rw [HGB.out, if_pos (.inl hbig)])
              clear hbig
              go_wp2
              go_ret3
              exact ⟨by rw [HG.out, HR.out]; rfl, HBW.out⟩
            · have hb' : ¬ (1099511627776 : Int) < (N : Int) := by omega
              by_cases hmk : m = k
              · have HR : Hid (getB (c :: r) = (N, k + 1, 0)) := Lib.hid (by rw [HGB.out, if_neg (by omega)])
                subst hmk
                have hne : ((m : Int) != (m : Int)) = false := by simp
                clear hsm
                go_wp2_with (go_at_call 111; refine KBH.mono ?_; rintro e w2 ⟨rfl, rfl⟩)
                go_ret3
                exact ⟨by rw [HG.out, HR.out]; rfl, HBW.out⟩
              · have HR : Hid (getB (c :: r) = (0, 0, 2)) := Lib.hid (by rw [HGB.out, if_pos (.inr hmk)])
                have hne : ((m : Int) != (k : Int)) = true := by simp; omega
                have hne2 : ¬ (m : Int) = (k : Int) := by omega
                clear hsm hmk
                go_wp2_with (go_at_call 111; refine KBH.mono ?_; rintro e w2 ⟨rfl, rfl⟩)
                go_ret3
                exact ⟨by rw [HG.out, HR.out]; rfl, HBW.out⟩
          · have hp4 : 256 ^ (q - 1) ≤ 256 ^ 4 := Nat.pow_le_pow_right (by omega) (by omega)
            have hqs : q < s.size := by have := HRL.out; have := HKR.out; omega
            have hsn : num a0 (r.take q) = num a0 (r.take (q - 1)) * 256 + s[q].toNat := by
              obtain ⟨j, rfl⟩ : ∃ j, q = j + 1 := ⟨q - 1, by omega⟩
              rw [Nat.add_sub_cancel]
              have hjr : j < r.length := by have := HKR.out; omega
              rw [List.take_succ_eq_append_getElem hjr, num_snoc]
              have := HAT.out j (by have := HRL.out; omega)
              rw [List.getElem?_eq_getElem hjr] at this
              rw [Option.some.inj this]
            obtain ⟨N, hN⟩ : ∃ N, num a0 (r.take (q - 1)) = N := ⟨_, rfl⟩
            rw [hN] at hsn hnl ⊢
            have hNl : N < 1099511627776 := by
              refine Nat.lt_of_lt_of_le hnl (Nat.le_trans (Nat.mul_le_mul (show a0 + 1 ≤ 256 by omega) hp4) (by decide))
            have HSN := Lib.hid hsn
            have N0 : (0 : Int) ≤ (N : Int) := by omega
            have N1 : (N : Int) < 1099511627776 := by omega
            have q0 : (0 : Int) ≤ (q : Int) := by omega
            have q1 : (q : Int) ≤ (k : Int) := by omega
            have q2 : (q : Int) < (s.size : Int) := by omega
            clear hp4 hnl hsn hN
            go_wp2
            go_round
            case rel => exact ⟨q + 1, by omega, by omega, by go_num, by rw [or_i64 N _ hNl (UInt8.toNat_lt _), Nat.add_sub_cancel, HSN.out]⟩
            case measure => simp [intOf]; omega
theorem getB_bd (s : Bs) : (getB s).1 ≤ 1099511627776 ∧ (getB s).2.1 ≤ s.length ∧ (getB s).2.1 ≤ 6 ∧ (getB s).2.2 ≤ 3 := by
  unfold getB
  cases s with
  | nil => simp
  | cons c r =>
    simp only
    split
    · simp
    · split
      · simp
      · split
        · simp
        · simp only [List.length_cons]
          refine ⟨by omega, by omega, by omega, by omega⟩
theorem ext_mk' (s : ByteArray) (a b : Nat) : s.extract a (a + b) = mk ((s.data.toList.drop a).take b) := by
  apply ByteArray.ext
  rw [ByteArray.data_extract]
  apply Array.toList_inj.1
  simp [mk, List.extract_eq_take_drop]
set_option maxRecDepth 100000 in
set_option maxHeartbeats 4000000 in
theorem next_any (s : ByteArray) (w : World) (hs : s.size ≤ 9223372036854775807) : Calls Tryz.prog 122 #[.string s] w fun e w' => e = .returned (.tuple #[.string (mk (nextB s.data.toList).1), .int .i64 (nextB s.data.toList).2.1, .int .i64 (nextB s.data.toList).2.2]) ∧ Below w.heap.size w w' := by
  have KG := get_any' s w hs
  have hbd := getB_bd s.data.toList
  have hlen : s.data.toList.length = s.size := by simp
  have hnx : nextB s.data.toList = nextB s.data.toList := rfl
  conv at hnx => rhs; unfold nextB
  rw [hlen] at hbd hnx
  obtain ⟨n, k, e, hg⟩ : ∃ n k e, getB s.data.toList = (n, k, e) := ⟨_, _, _, rfl⟩
  rw [hg] at KG hbd hnx
  simp only at KG hbd hnx
  obtain ⟨hn, hk, hk6, he3⟩ := hbd
  have HNX := Lib.hid hnx
  have n0 : (0 : Int) ≤ (n : Int) := by omega
  have n1 : (n : Int) ≤ 1099511627776 := by omega
  have k0 : (0 : Int) ≤ (k : Int) := by omega
  have k1 : (k : Int) ≤ 6 := by omega
  have k2 : (k : Int) ≤ (s.size : Int) := by omega
  have z0 : (s.size : Int) ≤ 9223372036854775807 := by omega
  clear hnx hlen hg
  by_cases he : e = 0
  · subst he
    rcases Nat.lt_or_ge 262144 n with hL | hL
    · have hL' : (262144 : Int) < (n : Int) := by omega
      have HR : Hid (nextB s.data.toList = ([], 0, 6)) := Lib.hid (by rw [HNX.out, if_neg (by simp), if_pos hL])
      clear hL
      go_enter Tryz.func122, Tryz.ntmps122
      go_wp2_with (go_at_call 124; refine KG.mono ?_; rintro e w' ⟨rfl, hb⟩; have HB := Lib.hid hb; clear hb)
      go_ret3
      exact ⟨by rw [HR.out]; rfl, HB.out⟩
    · have hL' : ¬ (262144 : Int) < (n : Int) := by omega
      rcases Nat.lt_or_ge s.size (n + k) with hS | hS
      · have hS' : (s.size : Int) - (k : Int) < (n : Int) := by omega
        have HR : Hid (nextB s.data.toList = ([], 0, 3)) := Lib.hid (by rw [HNX.out, if_neg (by simp), if_neg (by omega), if_pos hS])
        clear hL hS
        go_enter Tryz.func122, Tryz.ntmps122
        go_wp2_with (go_at_call 124; refine KG.mono ?_; rintro e w' ⟨rfl, hb⟩; have HB := Lib.hid hb; clear hb)
        go_ret3
        exact ⟨by rw [HR.out]; rfl, HB.out⟩
      · have hS' : ¬ (s.size : Int) - (k : Int) < (n : Int) := by omega
        have HR : Hid (nextB s.data.toList = ((s.data.toList.drop k).take n, k + n, 0)) := Lib.hid (by rw [HNX.out, if_neg (by simp), if_neg (by omega), if_neg (by omega)])
        have hsl := fun (w : World) => run_slice_string (P := Tryz.prog) (w := w) 9 s .i64 .i64 (k : Int) ((k : Int) + (n : Int)) Tryz.underlying9 (by omega) (by omega) (by omega)
        rw [show ((k : Int) + (n : Int)).toNat = k + n by omega, show ((k : Int)).toNat = k by omega, ext_mk'] at hsl
        clear hL hS
        go_enter Tryz.func122, Tryz.ntmps122
        go_wp2_with (go_at_call 124; refine KG.mono ?_; rintro e w' ⟨rfl, hb⟩; have HB := Lib.hid hb; clear hb)
        go_ret3
        exact ⟨by rw [HR.out]; rfl, HB.out⟩
  · have he' : ((e : Int) != 0) = true := by simp; omega
    have he2 : ¬ (e : Int) = 0 := by omega
    have HR : Hid (nextB s.data.toList = ([], 0, e)) := Lib.hid (by rw [HNX.out, if_pos he])
    clear he
    go_enter Tryz.func122, Tryz.ntmps122
    go_wp2_with (go_at_call 124; refine KG.mono ?_; rintro e w' ⟨rfl, hb⟩; have HB := Lib.hid hb; clear hb)
    go_ret3
    exact ⟨by rw [HR.out]; rfl, HB.out⟩
end Go.Proofs.YtcmcdddnckcpcaaGreatDoor
