/- A space's bits as bytes: plain, no program. -/
import Derived.Test.YtcmcdddnckcpcaaGreatDoorKt
namespace Go.Proofs.YtcmcdddnckcpcaaGreatDoor
def bitN (T : List Bool) (i : Nat) : Nat := if T.getD i false then 1 else 0
/-- Byte j of bits. -/
def byteN (T : List Bool) (j : Nat) : Nat :=
  bitN T (8 * j) + 2 * bitN T (8 * j + 1) + 4 * bitN T (8 * j + 2) + 8 * bitN T (8 * j + 3) + 16 * bitN T (8 * j + 4) + 32 * bitN T (8 * j + 5) + 64 * bitN T (8 * j + 6) + 128 * bitN T (8 * j + 7)
def packB (T : List Bool) : Bs := (List.range ((T.length + 7) / 8)).map fun j => UInt8.ofNat (byteN T j)
theorem packB_length (T : List Bool) : (packB T).length = (T.length + 7) / 8 := by simp [packB]
theorem bitN_le (T : List Bool) (i : Nat) : bitN T i ≤ 1 := by unfold bitN; split <;> omega
theorem byteN_lt (T : List Bool) (j : Nat) : byteN T j < 256 := by
  unfold byteN
  have h := bitN_le T
  have a0 := h (8 * j); have a1 := h (8 * j + 1); have a2 := h (8 * j + 2); have a3 := h (8 * j + 3)
  have a4 := h (8 * j + 4); have a5 := h (8 * j + 5); have a6 := h (8 * j + 6); have a7 := h (8 * j + 7)
  omega
theorem packB_at (T : List Bool) (j : Nat) (h : j < (T.length + 7) / 8) : (packB T)[j]? = some (UInt8.ofNat (byteN T j)) := by simp [packB, h]
/-- Bit k of byte j. -/
theorem byteN_bit (T : List Bool) (j k : Nat) (hk : k < 8) : byteN T j / 2 ^ k % 2 = bitN T (8 * j + k) := by
  unfold byteN
  have h := bitN_le T
  have a0 := h (8 * j); have a1 := h (8 * j + 1); have a2 := h (8 * j + 2); have a3 := h (8 * j + 3)
  have a4 := h (8 * j + 4); have a5 := h (8 * j + 5); have a6 := h (8 * j + 6); have a7 := h (8 * j + 7)
  have hk' : k = 0 ∨ k = 1 ∨ k = 2 ∨ k = 3 ∨ k = 4 ∨ k = 5 ∨ k = 6 ∨ k = 7 := by omega
  rcases hk' with rfl | rfl | rfl | rfl | rfl | rfl | rfl | rfl <;> simp only [Nat.reducePow, Nat.add_zero] <;> omega
theorem bitN_set_same (T : List Bool) (i : Nat) (v : Bool) (h : i < T.length) : bitN (T.set i v) i = if v then 1 else 0 := by
  unfold bitN; simp [h]
theorem bitN_set_other (T : List Bool) (i k : Nat) (v : Bool) (h : i ≠ k) : bitN (T.set i v) k = bitN T k := by
  unfold bitN; simp [h]
theorem turn8 : ∀ b0 b1 b2 b3 b4 b5 b6 b7 : Bool, ∀ k : Fin 8,
    (let f := fun (i : Nat) (b : Bool) => if (if k.val = i then !b else b) then 1 else 0
     f 0 b0 + 2 * f 1 b1 + 4 * f 2 b2 + 8 * f 3 b3 + 16 * f 4 b4 + 32 * f 5 b5 + 64 * f 6 b6 + 128 * f 7 b7) =
    ((if b0 then 1 else 0) + 2 * (if b1 then 1 else 0) + 4 * (if b2 then 1 else 0) + 8 * (if b3 then 1 else 0) + 16 * (if b4 then 1 else 0) + 32 * (if b5 then 1 else 0) + 64 * (if b6 then 1 else 0) + 128 * (if b7 then 1 else 0)) ^^^ 2 ^ k.val := by decide +kernel
theorem bitN_turn (T : List Bool) (i m : Nat) (hi : i < T.length) : bitN (T.set i (!T.getD i false)) m = if (if i = m then !T.getD m false else T.getD m false) then 1 else 0 := by
  by_cases h : i = m
  · subst h
    rw [bitN_set_same _ _ _ hi, if_pos rfl]
  · rw [bitN_set_other _ _ _ _ h, if_neg h]; rfl
/-- A bit is turned. -/
theorem byteN_turn (T : List Bool) (j k : Nat) (hk : k < 8) (hi : 8 * j + k < T.length) : byteN (T.set (8 * j + k) (!T.getD (8 * j + k) false)) j = byteN T j ^^^ 2 ^ k := by
  have h := turn8 (T.getD (8 * j) false) (T.getD (8 * j + 1) false) (T.getD (8 * j + 2) false) (T.getD (8 * j + 3) false) (T.getD (8 * j + 4) false) (T.getD (8 * j + 5) false) (T.getD (8 * j + 6) false) (T.getD (8 * j + 7) false) ⟨k, hk⟩
  simp only at h
  have e : ∀ m, (8 * j + k = 8 * j + m) = (k = m) := fun m => by simp
  have e0 : (8 * j + k = 8 * j) = (k = 0) := by simp
  unfold byteN
  simp only [bitN_turn T _ _ hi, e, e0]
  unfold bitN
  exact h
theorem byteN_other (T : List Bool) (i j : Nat) (v : Bool) (h : i / 8 ≠ j) : byteN (T.set i v) j = byteN T j := by
  unfold byteN
  rw [bitN_set_other _ _ _ _ (by omega), bitN_set_other _ _ _ _ (by omega), bitN_set_other _ _ _ _ (by omega), bitN_set_other _ _ _ _ (by omega), bitN_set_other _ _ _ _ (by omega), bitN_set_other _ _ _ _ (by omega), bitN_set_other _ _ _ _ (by omega), bitN_set_other _ _ _ _ (by omega)]
/-- The bytes, with one bit turned. -/
theorem packB_turn (T : List Bool) (i : Nat) (hi : i < T.length) : packB (T.set i (!T.getD i false)) = (packB T).set (i / 8) (UInt8.ofNat (byteN T (i / 8) ^^^ 2 ^ (i % 8))) := by
  apply List.ext_getElem?
  intro j
  rcases Nat.lt_or_ge j ((T.length + 7) / 8) with hj | hj
  · rw [packB_at _ _ (by rw [List.length_set]; exact hj)]
    by_cases e : i / 8 = j
    · subst e
      rw [List.getElem?_set_self (by rw [packB_length]; exact hj)]
      have := byteN_turn T (i / 8) (i % 8) (by omega) (by omega)
      rw [show 8 * (i / 8) + i % 8 = i by omega] at this
      rw [this]
    · rw [List.getElem?_set_ne e, packB_at _ _ hj, byteN_other _ _ _ _ e]
  · rw [List.getElem?_eq_none (by rw [packB_length, List.length_set]; exact hj), List.getElem?_eq_none (by rw [List.length_set, packB_length]; exact hj)]
theorem packB_zero (n : Nat) : packB (List.replicate n false) = List.replicate ((n + 7) / 8) 0 := by
  apply List.ext_getElem?
  intro j
  rcases Nat.lt_or_ge j ((n + 7) / 8) with hj | hj
  · have h0 : ∀ i, bitN (List.replicate n false) i = 0 := fun i => by
      unfold bitN
      rw [List.getD_eq_getElem?_getD, List.getElem?_replicate]
      by_cases h : i < n <;> simp [h]
    rw [packB_at _ _ (by simpa using hj), List.getElem?_replicate, if_pos hj]
    unfold byteN
    simp [h0]
  · rw [List.getElem?_eq_none (by rw [packB_length]; simpa using hj), List.getElem?_replicate, if_neg (by omega)]
end Go.Proofs.YtcmcdddnckcpcaaGreatDoor
