/- crc.Sum, walked: what it computes is a function of the text. -/
import Derived.Test.YtcmcdddnckcpcaaGreatDoorKt
namespace Go.Proofs.YtcmcdddnckcpcaaGreatDoor
open Go.RowKit
def tblL : List Int := [0, 498536548, 997073096, 651767980, 1994146192, 1802195444, 1303535960, 1342533948, 3988292384, 4027552580, 3604390888, 3412177804, 2607071920, 2262029012, 2685067896, 3183342108]
/-- The table lies in its block. -/
def TB (w : World) : Prop := ∀ k, k < 16 → w.cell? ⟨0, k, none⟩ = some (.int .u32 (tblL.getD k 0))
theorem TB.below {w w' : World} {B : Nat} (h : TB w) (hB : 0 < B) (hb : Below B w w') : TB w' := fun k hk => (hb.cell (p := ⟨0, k, none⟩) hB).trans (h k hk)
def half (r : Int) : Int := bits .xor .u32 (r / 16) (tblL.getD (bits .and .u32 r 15).toNat 0)
def crcStep (r : Int) (c : UInt8) : Int := half (half (bits .xor .u32 r c.toNat))
def crcR (s : Bs) : Int := s.foldl crcStep 4294967295
def crcI (s : Bs) : Int := bits .xor .u32 4294967295 (crcR s)
theorem crcR_take (s : Bs) (k : Nat) (h : k < s.length) : crcR (s.take (k + 1)) = crcStep (crcR (s.take k)) s[k] := by
  rw [List.take_succ_eq_append_getElem h]; unfold crcR; rw [List.foldl_append]; rfl
theorem and_fifteen (z : Int) : ∃ q : Nat, q ≤ 15 ∧ bits .and .u32 z 15 = (q : Int) := by
  refine ⟨(BitVec.ofInt 32 z).toNat &&& 15, Nat.and_le_right, ?_⟩
  show IntKind.u32.wrap ((BitVec.ofInt 32 z &&& BitVec.ofInt 32 15).toNat : Int) = _
  have h : (BitVec.ofInt 32 z &&& BitVec.ofInt 32 15).toNat = (BitVec.ofInt 32 z).toNat &&& 15 := by rw [BitVec.toNat_and]; rfl
  rw [h]
  have h2 : (BitVec.ofInt 32 z).toNat &&& 15 ≤ 15 := Nat.and_le_right
  generalize (BitVec.ofInt 32 z).toNat &&& 15 = r at h2
  simp [IntKind.wrap, IntKind.bits, IntKind.signed]
  omega
set_option maxRecDepth 100000 in
set_option maxHeartbeats 1000000 in
theorem sum_any (s : Bs) (w : World) (hT : TB w) (hs : s.length ≤ 9223372036854775807) : Calls Tryz.prog 85 #[.string (mk s)] w fun e w' => e = .returned (.int .u32 (crcI s)) ∧ w' = w := by
  have zs : (mk s).size = s.length := mk_size s
  obtain ⟨X, hX⟩ : ∃ X, mk s = X := ⟨_, rfl⟩
  rw [hX] at zs ⊢
  obtain ⟨n, hn⟩ : ∃ n, s.length = n := ⟨_, rfl⟩
  rw [hn] at zs hs
  have HX := Lib.hid hX
  have HN := Lib.hid hn
  have HT := Lib.hid hT
  clear hX hn hT
  go_enter Tryz.func85, Tryz.ntmps85
  go_wp2
  go_loopw [3, 7] (fun rv kv wr => ∃ k : Nat, k ≤ n ∧ kv = .int .i64 k ∧ rv = .int .u32 (crcR (s.take k)) ∧ wr = w) (fun _ kv _ => n - (intOf kv).toNat)
  case atStart => exact ⟨0, by omega, rfl, rfl, rfl⟩
  case round =>
    obtain ⟨k, hk, rfl, rfl, rfl⟩ := hrel
    have k0 : (0 : Int) ≤ (k : Int) := by omega
    by_cases hkn : k < n
    · have k1 : (k : Int) < (n : Int) := by omega
      have hc : X[k]'(by omega) = s[k]'(by rw [HN.out]; exact hkn) := by
        have h1 : X.data.toList = s := by rw [← HX.out, mk_data]
        have : X.data.toList[k]'(by rw [h1, HN.out]; exact hkn) = s[k]'(by rw [HN.out]; exact hkn) := by simp [h1]
        exact this
      obtain ⟨r, hr⟩ : ∃ r, crcR (s.take k) = r := ⟨_, rfl⟩
      obtain ⟨c, hcc⟩ : ∃ c, s[k]'(by rw [HN.out]; exact hkn) = c := ⟨_, rfl⟩
      rw [hcc] at hc
      rw [hr]
      have hcw : (c.toNat : Int) % 4294967296 = c.toNat := by have := c.toNat_lt; omega
      obtain ⟨r1, hr1⟩ : ∃ r1, bits .xor .u32 r (c.toNat : Int) = r1 := ⟨_, rfl⟩
      obtain ⟨q1, hq1, ha1⟩ := and_fifteen r1
      have t1 := HT.out q1 (by omega)
      obtain ⟨v1, hv1⟩ : ∃ v1, tblL.getD q1 0 = v1 := ⟨_, rfl⟩
      rw [hv1] at t1
      obtain ⟨r2, hr2⟩ : ∃ r2, bits .xor .u32 (r1 / 16) v1 = r2 := ⟨_, rfl⟩
      obtain ⟨q2, hq2, ha2⟩ := and_fifteen r2
      have t2 := HT.out q2 (by omega)
      obtain ⟨v2, hv2⟩ : ∃ v2, tblL.getD q2 0 = v2 := ⟨_, rfl⟩
      rw [hv2] at t2
      obtain ⟨r3, hr3⟩ : ∃ r3, bits .xor .u32 (r2 / 16) v2 = r3 := ⟨_, rfl⟩
      have HR := Lib.hid (show crcR (s.take (k + 1)) = r3 by
        rw [crcR_take s k (by rw [HN.out]; exact hkn), hr, hcc]
        unfold crcStep half
        rw [hr1, ha1, Int.toNat_natCast, hv1, hr2, ha2, Int.toNat_natCast, hv2, hr3])
      have p1 : (0 : Int) ≤ (q1 : Int) := by omega
      have p2 : (q1 : Int) < 16 := by omega
      have p3 : (0 : Int) ≤ (q2 : Int) := by omega
      have p4 : (q2 : Int) < 16 := by omega
      have p5 : (q1 : Int) ≤ 15 := by omega
      have p6 : (q2 : Int) ≤ 15 := by omega
      clear hr hcc hv1 hv2
      go_wp2
      go_roundw
      case rel => exact ⟨k + 1, by omega, by go_num, by rw [HR.out], trivial⟩
      case measure => simp [intOf]; omega
    · obtain rfl : k = n := by omega
      have HR := Lib.hid (show crcR (s.take k) = crcR s by rw [List.take_of_length_le (by rw [HN.out]; exact Nat.le_refl _)])
      have HF := Lib.hid (show bits .xor .u32 4294967295 (crcR s) = crcI s from rfl)
      go_wp2
      go_ret
      exact ⟨by rw [HR.out]; rfl, rfl⟩
end Go.Proofs.YtcmcdddnckcpcaaGreatDoor
