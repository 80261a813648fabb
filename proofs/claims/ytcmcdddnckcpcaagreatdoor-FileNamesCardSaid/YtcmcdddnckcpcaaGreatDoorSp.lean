/- space.New, Bytes, Has, walked. -/
import Derived.Test.YtcmcdddnckcpcaaGreatDoorSb
import Derived.Test.YtcmcdddnckcpcaaGreatDoorNu
import Derived.Test.YtcmcdddnckcpcaaGreatDoorFa
import Derived.Laws.ResultCell
namespace Go.Proofs.YtcmcdddnckcpcaaGreatDoor
open Go.RowKit
/-- A space's value. -/
def spv (T : List Bool) : Value := .agg #[.int .i64 T.length, .string (mk (packB T))]
set_option maxRecDepth 100000 in
theorem spnew_any (n : Nat) (w : World) (h : n ≤ 4096) : Calls Tryz.prog 100 #[.int .i64 n] w fun e w' => e = .returned (.tuple #[spv (List.replicate n false), .int .i64 0]) ∧ Below w.heap.size w w' := by
  obtain ⟨i5, hi0, hi1, hi2, hi3⟩ := info_parts info5n
  have h0 : (0 : Int) ≤ (n : Int) := by omega
  have h1 : ¬ ((4096 : Int) < (n : Int)) := by omega
  have h2 : (n : Int) ≤ 4096 := by omega
  obtain ⟨m, hm⟩ : ∃ m, (n + 7) / 8 = m := ⟨_, rfl⟩
  have ht : ((n : Int) + 7).tdiv 8 = (m : Int) := by rw [Int.tdiv_eq_ediv_of_nonneg (by omega)]; omega
  have hed : ((n : Int) + 7) / 8 = (m : Int) := by omega
  have hmk := fun (w : World) => run_make (P := Tryz.prog) w 62 5 i5 _ Tryz.underlying62 hi0 hi1 .i64 .i64 (m : Int) (m : Int) (by omega) (by omega) (by rw [hi3]; omega) (by omega)
  have hmc : madeCells (Value.cells (.int .u8 0)) ((m : Int).toNat * i5.size) = (bcells (List.replicate m 0)).toArray := by rw [hi2, Nat.mul_one, Int.toNat_natCast]; exact made_zero m
  rw [hmc, Int.toNat_natCast] at hmk
  have hcv := fun (w : World) => conv_blk (w := w.alloc (.cells (bcells (List.replicate m 0)).toArray 5)) (b := w.heap.size) (c := m) (l := List.replicate m 0) (Blk.new w _ 5) (fun j hj => by simp [bcells] at hj ⊢; simp [hj])
  rw [List.length_replicate] at hcv
  have HV := Lib.hid (show spv (List.replicate n false) = .agg #[.int .i64 n, .string (mk (List.replicate m 0))] by unfold spv; rw [List.length_replicate, packB_zero, hm])
  obtain ⟨X, hX⟩ : ∃ X, mk (List.replicate m (0 : UInt8)) = X := ⟨_, rfl⟩
  rw [hX] at hcv HV
  have hcv := hcv (w.alloc (.cells #[.int .i64 0, .string ⟨#[]⟩] 76))
  rw [World.size_alloc] at hcv
  clear hX hm hmc
  go_enter Tryz.func100, Tryz.ntmps100
  go_wp2
  refine bodyPost_ret (v := .tuple #[.agg #[.int .i64 n, .string X], .int .i64 0]) ?_ rfl ?_
  · rw [results_cell_tmp Tryz.results100]
    go_simp
  · exact ⟨by rw [HV.out], ((Below.refl _ w).alloc (Nat.le_refl _) _).alloc (by simp) _⟩
theorem bytes_any (T : List Bool) (w : World) : Calls Tryz.prog 87 #[spv T] w fun e w' => e = .returned (.string (mk (packB T))) ∧ Below w.heap.size w w' := by
  unfold spv
  obtain ⟨X, hX⟩ : ∃ X, mk (packB T) = X := ⟨_, rfl⟩
  obtain ⟨n, hn⟩ : ∃ n, T.length = n := ⟨_, rfl⟩
  rw [hX, hn]
  clear hX hn
  go_enter Tryz.func87, Tryz.ntmps87
  go_wp2
  go_ret
  exact ⟨rfl, below_alloc _ _⟩
theorem pack_byte (T : List Bool) (i : Nat) (hi : i < T.length) : ∃ h : i / 8 < (mk (packB T)).size, (mk (packB T))[i / 8]'h = UInt8.ofNat (byteN T (i / 8)) := by
  have hl : (mk (packB T)).size = (T.length + 7) / 8 := by rw [mk_size, packB_length]
  refine ⟨by omega, ?_⟩
  have h1 := packB_at T (i / 8) (by omega)
  have h2 : (mk (packB T)).data.toList[i / 8]? = some (UInt8.ofNat (byteN T (i / 8))) := by rw [mk_data]; exact h1
  rw [Array.getElem?_toList, Array.getElem?_eq_getElem (by show i / 8 < (mk (packB T)).size; omega)] at h2
  exact Option.some.inj h2
theorem and_one8 : ∀ m : Fin 256, bits .and .u8 (m.val : Int) 1 = ((m.val % 2 : Nat) : Int) := by decide +kernel
/-- What 'b >> k & 1' is, of a byte of bits. -/
theorem bit_at (c : UInt8) (k : Nat) : bits .and .u8 ((c.toNat : Int) / 2 ^ k) 1 = ((c.toNat / 2 ^ k % 2 : Nat) : Int) := by
  have e : (c.toNat : Int) / 2 ^ k = ((c.toNat / 2 ^ k : Nat) : Int) := by push_cast; rfl
  rw [e]
  exact and_one8 ⟨c.toNat / 2 ^ k, Nat.lt_of_le_of_lt (Nat.div_le_self _ _) c.toNat_lt⟩
theorem bitN_eq (T : List Bool) (i : Nat) : (((bitN T i : Nat) : Int) == 1) = T.getD i false := by
  unfold bitN
  cases T.getD i false <;> rfl
set_option maxRecDepth 100000 in
theorem has_sp (T : List Bool) (i : Nat) (w : World) (hi : i < T.length) (hn : T.length ≤ 4096) : Calls Tryz.prog 109 #[spv T, .int .i64 i] w fun e w' => e = .returned (.bool (T.getD i false)) ∧ Below w.heap.size w w' := by
  unfold spv
  obtain ⟨j, hjj⟩ : ∃ j, i / 8 = j := ⟨_, rfl⟩
  obtain ⟨k, hkk⟩ : ∃ k, i % 8 = k := ⟨_, rfl⟩
  obtain ⟨c, X, hX, hcT, hj, hb⟩ : ∃ (c : UInt8) (X : ByteArray), mk (packB T) = X ∧ c.toNat = byteN T j ∧ ∃ h : j < X.size, X[j]'h = c := by
    obtain ⟨h1, h2⟩ := pack_byte T i hi
    subst hjj
    exact ⟨_, _, rfl, by rw [UInt8.toNat_ofNat', Nat.mod_eq_of_lt (byteN_lt T _)], h1, h2⟩
  obtain ⟨n, hn2⟩ : ∃ n, T.length = n := ⟨_, rfl⟩
  rw [hX]
  rw [hn2] at hi hn ⊢
  have hk8 : k < 8 := by omega
  have h0 : (0 : Int) ≤ (i : Int) := by omega
  have h1 : (i : Int) < (n : Int) := by omega
  have ht : (i : Int).tdiv 8 = (j : Int) := by rw [Int.tdiv_eq_ediv_of_nonneg (by omega)]; omega
  have hm : (i : Int).tmod 8 = (k : Int) := by rw [Int.tmod_eq_emod_of_nonneg (by omega)]; omega
  have j0 : (0 : Int) ≤ (j : Int) := by omega
  have j1 : (j : Int) < (X.size : Int) := by omega
  have k0 : (0 : Int) ≤ (k : Int) := by omega
  have k1 : (k : Int) ≤ 8 := by omega
  have j2 : (j : Int) ≤ 512 := by omega
  have wj : wrap64 (j : Int) = (j : Int) := Go.IntWalk.wrap64_in _ (by omega)
  have wk : wrap64 (k : Int) = (k : Int) := Go.IntWalk.wrap64_in _ (by omega)
  have HB := Lib.hid (show c.toNat / 2 ^ k % 2 = bitN T i by rw [hcT, byteN_bit T j k hk8, show 8 * j + k = i by omega])
  clear hX hn2 hjj hkk hcT
  go_enter Tryz.func109, Tryz.ntmps109
  go_wp2
  go_ret
  refine ⟨?_, below_alloc _ _⟩
  show Ending.returned (.bool (bits .and .u8 ((c.toNat : Int) / 2 ^ k) 1 == 1)) = _
  rw [bit_at, HB.out, bitN_eq]
end Go.Proofs.YtcmcdddnckcpcaaGreatDoor
