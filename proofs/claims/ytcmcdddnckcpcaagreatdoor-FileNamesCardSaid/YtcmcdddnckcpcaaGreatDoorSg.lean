/- space.Give, Claim, Free, Parse, walked. -/
import Derived.Test.YtcmcdddnckcpcaaGreatDoorSt
namespace Go.Proofs.YtcmcdddnckcpcaaGreatDoor
open Go.RowKit
theorem turnV_form (R : Option (List Bool)) : ∃ (n : Int) (X : ByteArray) (e : Int), turnV R = .tuple #[.agg #[.int .i64 n, .string X], .int .i64 e] := by
  cases R with
  | none => exact ⟨_, _, _, rfl⟩
  | some T => exact ⟨_, _, _, rfl⟩
theorem below_set {B : Nat} {w w' : World} (h : Below B w w') (b i : Nat) (v : Value) (hb : B ≤ b) : Below B w (w'.setCell ⟨b, i, none⟩ v) := h.setCell (p := ⟨b, i, none⟩) hb v
theorem give_any (T : List Bool) (l : List (Nat × Nat)) (A : Option Addr) (cap : Nat) (w : World) (hn : T.length ≤ 4096) (hl : Lies w A (ecells l)) (hb : ∀ x ∈ l, x.1 ≤ 2199023255552 ∧ x.2 ≤ 2199023255552) (hll : l.length ≤ 1000000) :
    Calls Tryz.prog 41 #[spv T, .slice A l.length cap] w fun e w' => e = .returned (turnV (turnS false T l)) ∧ Below w.heap.size w w' := by
  have K := fun w1 (hl1 : Lies w1 A (ecells l)) => turn_any false T l A cap w1 hn hl1 hb hll
  obtain ⟨n, X, e, hR⟩ := turnV_form (turnS false T l)
  rw [hR] at K ⊢
  unfold spv at K ⊢
  obtain ⟨k, hk⟩ : ∃ k, l.length = k := ⟨_, rfl⟩
  obtain ⟨N, hN⟩ : ∃ k, T.length = k := ⟨_, rfl⟩
  obtain ⟨Y, hY⟩ : ∃ k, mk (packB T) = k := ⟨_, rfl⟩
  rw [hk, hN, hY] at K
  rw [hk, hN, hY]
  have HL := Lib.hid hl
  clear hR hk hN hY hn hb hll hl
  go_enter Tryz.func41, Tryz.ntmps41
  have hb0 : Below w.heap.size w ((w.alloc (.cells #[.int .i64 N, .string Y] 76)).alloc (.cells #[.int .i64 0, .string ⟨#[]⟩] 76)) := ((Below.refl _ w).alloc (Nat.le_refl _) _).alloc (by simp) _
  have HB0 := Lib.hid hb0
  have hl1 := HL.out.below (Nat.le_refl _) hb0
  have HL1 := Lib.hid hl1
  clear hb0 hl1
  have hin : ∀ w1, Below ((w.alloc (.cells #[.int .i64 N, .string Y] 76)).alloc (.cells #[.int .i64 0, .string ⟨#[]⟩] 76)).heap.size ((w.alloc (.cells #[.int .i64 N, .string Y] 76)).alloc (.cells #[.int .i64 0, .string ⟨#[]⟩] 76)) w1 → Blk w1 (w.heap.size + 1) #[.int .i64 0, .string ⟨#[]⟩] 76 := fun w1 hb => by
    have := (Blk.new (w.alloc (.cells #[.int .i64 N, .string Y] 76)) #[.int .i64 0, .string ⟨#[]⟩] 76).below hb
    rwa [World.size_alloc] at this
  have HIN := Lib.hid hin
  clear hin
  go_wp2_with (go_at_call 79; refine (K _ HL1.out).mono ?_; rintro e1 w1 ⟨rfl, hbw⟩; have HW := Lib.hid hbw; have hB1 := HIN.out w1 hbw; clear hbw; have c0 := hB1.cell 0; have c1 := hB1.cell 1; have f0 := hB1.frozen 0; have f1 := hB1.frozen 1; have hl1 := hB1.lt; simp at c0 c1; clear hB1)
  refine bodyPost_ret (v := .tuple #[.agg #[.int .i64 n, .string X], .int .i64 e]) ?_ rfl ?_
  · rw [results_cell_tmp Tryz.results41]
    go_simp
  · refine ⟨rfl, ?_⟩
    have hz := (HB0.out.trans (HW.out.mono HB0.out.size))
    exact below_set (below_set hz _ 0 _ (by simp)) _ 1 _ (by simp)
theorem claim_any (T : List Bool) (l : List (Nat × Nat)) (A : Option Addr) (cap : Nat) (w : World) (hn : T.length ≤ 4096) (hl : Lies w A (ecells l)) (hb : ∀ x ∈ l, x.1 ≤ 2199023255552 ∧ x.2 ≤ 2199023255552) (hll : l.length ≤ 1000000) :
    Calls Tryz.prog 78 #[spv T, .slice A l.length cap] w fun e w' => e = .returned (turnV (turnS true T l)) ∧ Below w.heap.size w w' := by
  have K := fun w1 (hl1 : Lies w1 A (ecells l)) => turn_any true T l A cap w1 hn hl1 hb hll
  obtain ⟨n, X, e, hR⟩ := turnV_form (turnS true T l)
  rw [hR] at K ⊢
  unfold spv at K ⊢
  obtain ⟨k, hk⟩ : ∃ k, l.length = k := ⟨_, rfl⟩
  obtain ⟨N, hN⟩ : ∃ k, T.length = k := ⟨_, rfl⟩
  obtain ⟨Y, hY⟩ : ∃ k, mk (packB T) = k := ⟨_, rfl⟩
  rw [hk, hN, hY] at K
  rw [hk, hN, hY]
  have HL := Lib.hid hl
  clear hR hk hN hY hn hb hll hl
  go_enter Tryz.func78, Tryz.ntmps78
  have hb0 : Below w.heap.size w ((w.alloc (.cells #[.int .i64 N, .string Y] 76)).alloc (.cells #[.int .i64 0, .string ⟨#[]⟩] 76)) := ((Below.refl _ w).alloc (Nat.le_refl _) _).alloc (by simp) _
  have HB0 := Lib.hid hb0
  have hl1 := HL.out.below (Nat.le_refl _) hb0
  have HL1 := Lib.hid hl1
  clear hb0 hl1
  have hin : ∀ w1, Below ((w.alloc (.cells #[.int .i64 N, .string Y] 76)).alloc (.cells #[.int .i64 0, .string ⟨#[]⟩] 76)).heap.size ((w.alloc (.cells #[.int .i64 N, .string Y] 76)).alloc (.cells #[.int .i64 0, .string ⟨#[]⟩] 76)) w1 → Blk w1 (w.heap.size + 1) #[.int .i64 0, .string ⟨#[]⟩] 76 := fun w1 hb => by
    have := (Blk.new (w.alloc (.cells #[.int .i64 N, .string Y] 76)) #[.int .i64 0, .string ⟨#[]⟩] 76).below hb
    rwa [World.size_alloc] at this
  have HIN := Lib.hid hin
  clear hin
  go_wp2_with (go_at_call 79; refine (K _ HL1.out).mono ?_; rintro e1 w1 ⟨rfl, hbw⟩; have HW := Lib.hid hbw; have hB1 := HIN.out w1 hbw; clear hbw; have c0 := hB1.cell 0; have c1 := hB1.cell 1; have f0 := hB1.frozen 0; have f1 := hB1.frozen 1; have hl1 := hB1.lt; simp at c0 c1; clear hB1)
  refine bodyPost_ret (v := .tuple #[.agg #[.int .i64 n, .string X], .int .i64 e]) ?_ rfl ?_
  · rw [results_cell_tmp Tryz.results78]
    go_simp
  · refine ⟨rfl, ?_⟩
    have hz := (HB0.out.trans (HW.out.mono HB0.out.size))
    exact below_set (below_set hz _ 0 _ (by simp)) _ 1 _ (by simp)

/-- The set bits of a byte. -/
def popN (b : Nat) : Nat := b % 2 + b / 2 % 2 + b / 4 % 2 + b / 8 % 2 + b / 16 % 2 + b / 32 % 2 + b / 64 % 2 + b / 128 % 2
theorem popN_step : ∀ b : Fin 256, b.val ≠ 0 → popN (b.val &&& (b.val - 1)) + 1 = popN b.val := by decide +kernel
theorem popN_zero : popN 0 = 0 := rfl
theorem and_8 (a b : Nat) (ha : a < 256) (hb : b < 256) : bits .and .u8 (a : Int) (b : Int) = ((a &&& b : Nat) : Int) := by
  have hx : a &&& b ≤ a := Nat.and_le_left
  have h1 : (BitVec.ofInt 8 (a : Int)).toNat = a := by rw [BitVec.ofInt_natCast, BitVec.toNat_ofNat]; exact Nat.mod_eq_of_lt (by omega)
  have h2 : (BitVec.ofInt 8 (b : Int)).toNat = b := by rw [BitVec.ofInt_natCast, BitVec.toNat_ofNat]; exact Nat.mod_eq_of_lt (by omega)
  show IntKind.u8.wrap ((BitVec.ofInt 8 (a : Int) &&& BitVec.ofInt 8 (b : Int)).toNat : Int) = _
  rw [BitVec.toNat_and, h1, h2]
  simp [IntKind.wrap, IntKind.bits, IntKind.signed]
  omega
/-- The units taken among the first k. -/
def onesN (T : List Bool) : Nat → Nat
  | 0 => 0
  | k + 1 => onesN T k + bitN T k
theorem onesN_byte (T : List Bool) (j : Nat) : onesN T (8 * (j + 1)) = onesN T (8 * j) + popN (byteN T j) := by
  have e0 := byteN_bit T j 0 (by omega)
  have e1 := byteN_bit T j 1 (by omega)
  have e2 := byteN_bit T j 2 (by omega)
  have e3 := byteN_bit T j 3 (by omega)
  have e4 := byteN_bit T j 4 (by omega)
  have e5 := byteN_bit T j 5 (by omega)
  have e6 := byteN_bit T j 6 (by omega)
  have e7 := byteN_bit T j 7 (by omega)
  simp only [Nat.reducePow, Nat.div_one, Nat.add_zero] at e0 e1 e2 e3 e4 e5 e6 e7
  unfold popN
  rw [e0, e1, e2, e3, e4, e5, e6, e7, show 8 * (j + 1) = 8 * j + 1 + 1 + 1 + 1 + 1 + 1 + 1 + 1 by omega]
  simp only [onesN]
  omega
theorem onesN_take (T : List Bool) : ∀ k, k ≤ T.length → onesN T k = (T.take k).count true := by
  intro k
  induction k with
  | zero => intro _; simp [onesN]
  | succ k ih =>
    intro hk
    rw [onesN, ih (by omega), List.take_succ_eq_append_getElem (by omega), List.count_append]
    unfold bitN
    rw [List.getD_eq_getElem?_getD, List.getElem?_eq_getElem (by omega)]
    cases T[k] <;> simp
theorem onesN_over (T : List Bool) : ∀ m, onesN T (T.length + m) = T.count true := by
  intro m
  induction m with
  | zero => rw [Nat.add_zero, onesN_take T _ (Nat.le_refl _), List.take_length]
  | succ m ih =>
    rw [← Nat.add_assoc, onesN, ih]
    unfold bitN
    rw [List.getD_eq_getElem?_getD, List.getElem?_eq_none (by omega)]
    rfl
theorem onesN_le (T : List Bool) (k : Nat) : onesN T k ≤ T.count true := by
  rcases Nat.lt_or_ge k T.length with h | h
  · rw [onesN_take T k (by omega)]
    exact (List.take_sublist k T).count_le true
  · obtain ⟨m, rfl⟩ := Nat.le.dest h
    rw [onesN_over]; exact Nat.le_refl _
theorem count_both (T : List Bool) : T.count true + T.count false = T.length := by
  induction T with
  | nil => rfl
  | cons b T ih => cases b <;> simp <;> omega
set_option maxRecDepth 100000 in
theorem sfree_any (T : List Bool) (w : World) (hn : T.length ≤ 4096) : Calls Tryz.prog 47 #[spv T] w fun e w' => e = .returned (.int .i64 (T.count false : Nat)) ∧ Below w.heap.size w w' := by
  unfold spv
  obtain ⟨n, hn2⟩ : ∃ n, T.length = n := ⟨_, rfl⟩
  obtain ⟨X, hX⟩ : ∃ X, mk (packB T) = X := ⟨_, rfl⟩
  obtain ⟨m, hm⟩ : ∃ m, (n + 7) / 8 = m := ⟨_, rfl⟩
  have hxm : X.size = m := by rw [← hX, mk_size, packB_length, hn2, hm]
  have hcb := count_both T
  have hle := onesN_le T
  have hby := onesN_byte T
  have hal : onesN T (8 * m) = T.count true := by
    rw [show 8 * m = T.length + (8 * m - T.length) by omega, onesN_over]
  have hbyte : ∀ j, j < m → ∃ c : UInt8, c.toNat = byteN T j ∧ ∃ h : j < X.size, X[j]'h = c := fun j hj => by
    refine ⟨UInt8.ofNat (byteN T j), by rw [UInt8.toNat_ofNat', Nat.mod_eq_of_lt (byteN_lt T _)], by omega, ?_⟩
    have h1 := packB_at T j (by omega)
    have h2 : X.data.toList[j]? = some (UInt8.ofNat (byteN T j)) := by rw [← hX, mk_data]; exact h1
    rw [Array.getElem?_toList, Array.getElem?_eq_getElem (by show j < X.size; omega)] at h2
    exact Option.some.inj h2
  obtain ⟨f, hf⟩ : ∃ f, T.count false = f := ⟨_, rfl⟩
  obtain ⟨t, ht⟩ : ∃ f, T.count true = f := ⟨_, rfl⟩
  rw [hn2] at hcb
  rw [hX, hn2, hf]
  rw [ht, hf] at hcb
  rw [ht] at hal hle
  rw [hn2] at hn
  have HB := Lib.hid hbyte
  have HLE := Lib.hid hle
  have HBY := Lib.hid hby
  have HAL := Lib.hid hal
  have hm2 : m ≤ 512 := by omega
  clear hbyte hle hby hal hX hn2 hf ht hm
  go_enter Tryz.func47, Tryz.ntmps47
  go_wp2
  obtain ⟨W, hW⟩ : ∃ W, w.alloc (.cells #[.int .i64 n, .string X] 76) = W := ⟨_, rfl⟩
  have hbW : Hid (Below w.heap.size w W) := Lib.hid (hW ▸ below_alloc w _)
  have hBW : Blk W w.heap.size #[.int .i64 n, .string X] 76 := hW ▸ Blk.new w _ 76
  have c1 := hBW.cell 1
  simp at c1
  have hlW := hBW.lt
  rw [hW]
  clear hW hBW
  go_loopw [11, 3] (fun kv nv wr => ∃ k z : Nat, k ≤ m ∧ kv = .int .i64 k ∧ nv = .int .i64 z ∧ z + onesN T (8 * k) = n ∧ wr = W) (fun kv _ _ => m - (intOf kv).toNat)
  case atStart => exact ⟨0, n, by omega, rfl, rfl, rfl, rfl⟩
  case round =>
    obtain ⟨k, z, hk, rfl, rfl, hz, rfl⟩ := hrel
    have k0 : (0 : Int) ≤ (k : Int) := by omega
    by_cases hkm : k < m
    · have k1 : (k : Int) < (X.size : Int) := by omega
      obtain ⟨c, hcT, hkX, hcX⟩ := HB.out k hkm
      have hc256 := byteN_lt T k
      have hup := HBY.out k
      have hle2 := HLE.out (8 * (k + 1))
      rw [← hcT] at hc256 hup
      obtain ⟨b, hb⟩ : ∃ b, c.toNat = b := ⟨_, rfl⟩
      have hbz : (X[k]'hkX).toNat = b := by rw [hcX, hb]
      rw [hb] at hc256 hup
      clear hcT hcX hb
      have HZ := Lib.hid (show z + onesN T (8 * k) = n ∧ onesN T (8 * (k + 1)) = onesN T (8 * k) + popN b ∧ onesN T (8 * (k + 1)) ≤ t from ⟨hz, hup, hle2⟩)
      have HC := Lib.hid hc256
      clear hz hup hle2 hc256
      go_wp2
      go_loopw [5, 3] (fun bv nv wz => ∃ b2 y : Nat, b2 < 256 ∧ bv = .int .u8 b2 ∧ nv = .int .i64 y ∧ y + popN b = z + popN b2 ∧ y ≤ z ∧ wz = wr) (fun bv _ _ => (intOf bv).toNat)
      case atStart => exact ⟨b, z, HC.out, rfl, rfl, rfl, Nat.le_refl _, rfl⟩
      case round =>
        obtain ⟨b2, y, hb2, rfl, rfl, hy, hyz, rfl⟩ := hrel
        rcases Nat.eq_zero_or_pos b2 with rfl | hp
        · rw [popN_zero] at hy
          have HY := Lib.hid hy
          clear hy
          go_wp2
          go_roundw
          case rel => exact ⟨k + 1, y, by omega, by go_num, rfl, by have := HY.out; have := HZ.out; omega, by trivial⟩
          case measure => simp [intOf]; omega
        · have b0 : ((b2 : Int) == 0) = false := beq_eq_false_iff_ne.2 (by omega)
          have b0' : ¬ ((b2 : Int) = 0) := by omega
          have hst := popN_step ⟨b2, hb2⟩ (by simp only; omega)
          simp only at hst
          have hand := and_8 b2 (b2 - 1) hb2 (by omega)
          have hsub : IntKind.u8.wrap ((b2 : Int) - 1) = ((b2 - 1 : Nat) : Int) := by
            simp [IntKind.wrap, IntKind.bits, IntKind.signed]
            omega
          have hlt : b2 &&& (b2 - 1) ≤ b2 - 1 := Nat.and_le_right
          obtain ⟨q, hq⟩ : ∃ q, b2 &&& (b2 - 1) = q := ⟨_, rfl⟩
          rw [hq] at hst hand hlt
          have hy1 : 1 ≤ y := by have := HZ.out; omega
          have y0 : (1 : Int) ≤ (y : Int) := by omega
          have y1 : (y : Int) ≤ 4096 := by have := HZ.out; omega
          have HY := Lib.hid (And.intro hy (And.intro hst (And.intro hlt (And.intro hp hyz))))
          clear hy hst hlt hq hp
          go_wp2
          go_roundw
          case rel => exact ⟨q, y - 1, by have := HY.out; omega, rfl, by go_num, by have := HY.out; omega, by have := HY.out; omega, trivial⟩
          case measure => have := HY.out; simp [intOf]; omega
    · obtain rfl : k = m := by omega
      have HZ := Lib.hid hz
      clear hz
      go_wp2
      go_ret
      refine ⟨?_, hbW.out⟩
      rw [show z = f by have := HZ.out; have := HAL.out; omega]
      rfl
theorem byte_last (T : List Bool) (h : 0 < T.length % 8) : byteN T (T.length / 8) / 2 ^ (T.length % 8) = 0 := by
  have hz : ∀ k, T.length % 8 ≤ k → bitN T (8 * (T.length / 8) + k) = 0 := fun k hk => by
    unfold bitN
    rw [List.getD_eq_getElem?_getD, List.getElem?_eq_none (by omega)]
    rfl
  have hl := bitN_le T
  obtain ⟨r, hr⟩ : ∃ r, T.length % 8 = r := ⟨_, rfl⟩
  obtain ⟨j, hj⟩ : ∃ j, T.length / 8 = j := ⟨_, rfl⟩
  rw [hr, hj] at hz
  rw [hr] at h
  rw [hr, hj]
  have a0 := hl (8 * j); have a1 := hl (8 * j + 1); have a2 := hl (8 * j + 2); have a3 := hl (8 * j + 3)
  have a4 := hl (8 * j + 4); have a5 := hl (8 * j + 5); have a6 := hl (8 * j + 6)
  have hr8 : r = 1 ∨ r = 2 ∨ r = 3 ∨ r = 4 ∨ r = 5 ∨ r = 6 ∨ r = 7 := by omega
  unfold byteN
  rcases hr8 with rfl | rfl | rfl | rfl | rfl | rfl | rfl
  · rw [hz 1 (by omega), hz 2 (by omega), hz 3 (by omega), hz 4 (by omega), hz 5 (by omega), hz 6 (by omega), hz 7 (by omega)]; omega
  · rw [hz 2 (by omega), hz 3 (by omega), hz 4 (by omega), hz 5 (by omega), hz 6 (by omega), hz 7 (by omega)]; omega
  · rw [hz 3 (by omega), hz 4 (by omega), hz 5 (by omega), hz 6 (by omega), hz 7 (by omega)]; omega
  · rw [hz 4 (by omega), hz 5 (by omega), hz 6 (by omega), hz 7 (by omega)]; omega
  · rw [hz 5 (by omega), hz 6 (by omega), hz 7 (by omega)]; omega
  · rw [hz 6 (by omega), hz 7 (by omega)]; omega
  · rw [hz 7 (by omega)]; omega
set_option maxRecDepth 100000 in
theorem sparse_any (T : List Bool) (w : World) (hn : T.length ≤ 4096) : Calls Tryz.prog 99 #[.int .i64 T.length, .string (mk (packB T))] w fun e w' => e = .returned (.tuple #[spv T, .int .i64 0]) ∧ Below w.heap.size w w' := by
  have K := fun w => spnew_any T.length w hn
  have hzl : (mk (packB (List.replicate T.length false))).size = (T.length + 7) / 8 := by rw [mk_size, packB_length, List.length_replicate]
  have hbl := byte_last T
  have hpk := packB_at T
  unfold spv at K ⊢
  rw [List.length_replicate] at K
  obtain ⟨X, hX⟩ : ∃ X, mk (packB T) = X := ⟨_, rfl⟩
  have hxs : X.size = (T.length + 7) / 8 := by rw [← hX, mk_size, packB_length]
  obtain ⟨Z, hZ⟩ : ∃ X, mk (packB (List.replicate T.length false)) = X := ⟨_, rfl⟩
  rw [hZ] at hzl K
  have hbyte : ∀ j, j < X.size → ∃ c : UInt8, c.toNat = byteN T j ∧ ∃ h : j < X.size, X[j]'h = c := fun j hj => by
    refine ⟨UInt8.ofNat (byteN T j), by rw [UInt8.toNat_ofNat', Nat.mod_eq_of_lt (byteN_lt T _)], hj, ?_⟩
    have h1 := packB_at T j (by omega)
    have h2 : X.data.toList[j]? = some (UInt8.ofNat (byteN T j)) := by rw [← hX, mk_data]; exact h1
    rw [Array.getElem?_toList, Array.getElem?_eq_getElem (by show j < X.size; omega)] at h2
    exact Option.some.inj h2
  rw [hX]
  obtain ⟨n, hn2⟩ : ∃ n, T.length = n := ⟨_, rfl⟩
  rw [hn2] at hn hzl hbl hxs K
  rw [hn2]
  obtain ⟨r, hr⟩ : ∃ r, n % 8 = r := ⟨_, rfl⟩
  rw [hr] at hbl
  have hr8 : r < 8 := by omega
  have tm : (n : Int).tmod 8 = (r : Int) := by rw [Int.tmod_eq_emod_of_nonneg (by omega)]; omega
  have hzx : (Z.size : Int) = (X.size : Int) := by omega
  have hin : ∀ w1, Below (w.alloc (.cells #[.int .i64 0, .string ⟨#[]⟩] 76)).heap.size (w.alloc (.cells #[.int .i64 0, .string ⟨#[]⟩] 76)) w1 → Blk w1 w.heap.size #[.int .i64 0, .string ⟨#[]⟩] 76 := fun w1 hb => (Blk.new w #[.int .i64 0, .string ⟨#[]⟩] 76).below hb
  have HIN := Lib.hid hin
  clear hX hZ hn2 hin hpk
  by_cases hr0 : 0 < r
  · obtain ⟨c, hcT, hj, hcX⟩ := hbyte (n / 8) (by omega)
    have hsh := hbl hr0
    rw [← hcT] at hsh
    have hxm : ((X.size : Int) - 1) = ((n / 8 : Nat) : Int) := by omega
    obtain ⟨j, hjj⟩ : ∃ j, n / 8 = j := ⟨_, rfl⟩
    have hjn : j ≤ 512 := by omega
    rw [hjj] at hxm
    have hj' : j < X.size := by omega
    have hcX' : X[j]'hj' = c := by subst hjj; exact hcX
    have hshi : ((c.toNat : Int) / 2 ^ r) = 0 := by
      have : ((c.toNat / 2 ^ r : Nat) : Int) = 0 := by rw [hsh]; rfl
      simpa using this
    have hj0 : (0 : Int) ≤ (j : Int) := by omega
    have hj1 : (j : Int) < (X.size : Int) := by omega
    have r0 : (0 : Int) < (r : Int) := by omega
    have r1 : (0 : Int) ≤ (r : Int) := by omega
    have r2 : (r : Int) ≤ 8 := by omega
    clear hbl hbyte hsh hcT hr hjj hcX hj hzl hxs
    go_enter Tryz.func99, Tryz.ntmps99
    go_wp2_with (go_at_call 100; refine (K _).mono ?_; rintro e1 w1 ⟨rfl, hbw⟩; have HW := Lib.hid hbw; have hB1 := HIN.out w1 hbw; clear hbw; have c0 := hB1.cell 0; have c1 := hB1.cell 1; have f0 := hB1.frozen 0; have f1 := hB1.frozen 1; have hl1 := hB1.lt; simp at c0 c1; clear hB1)

    refine bodyPost_ret (v := .tuple #[.agg #[.int .i64 n, .string X], .int .i64 0]) ?_ rfl ?_
    · rw [results_cell_tmp Tryz.results99]
      go_simp
    · refine ⟨rfl, ?_⟩
      have hz := (below_alloc w (.cells #[.int .i64 0, .string ⟨#[]⟩] 76)).trans (HW.out.mono (by simp))
      exact (below_set (below_set hz _ 0 _ (Nat.le_refl _)) _ 1 _ (Nat.le_refl _)).alloc (by simp; omega) _
  · obtain rfl : r = 0 := by omega
    rw [Int.ofNat_zero] at tm
    clear hbl hbyte hr hzl hxs
    go_enter Tryz.func99, Tryz.ntmps99
    go_wp2_with (go_at_call 100; refine (K _).mono ?_; rintro e1 w1 ⟨rfl, hbw⟩; have HW := Lib.hid hbw; have hB1 := HIN.out w1 hbw; clear hbw; have c0 := hB1.cell 0; have c1 := hB1.cell 1; have f0 := hB1.frozen 0; have f1 := hB1.frozen 1; have hl1 := hB1.lt; simp at c0 c1; clear hB1)
    refine bodyPost_ret (v := .tuple #[.agg #[.int .i64 n, .string X], .int .i64 0]) ?_ rfl ?_
    · rw [results_cell_tmp Tryz.results99]
      go_simp
    · refine ⟨rfl, ?_⟩
      have hz := (below_alloc w (.cells #[.int .i64 0, .string ⟨#[]⟩] 76)).trans (HW.out.mono (by simp))
      exact (below_set (below_set hz _ 0 _ (Nat.le_refl _)) _ 1 _ (Nat.le_refl _)).alloc (by simp; omega) _
end Go.Proofs.YtcmcdddnckcpcaaGreatDoor
