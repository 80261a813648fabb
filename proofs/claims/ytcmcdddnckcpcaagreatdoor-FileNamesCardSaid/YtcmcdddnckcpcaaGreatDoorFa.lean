/- file.padded, two, dataAt, needs, head, walked. -/
import Derived.Test.YtcmcdddnckcpcaaGreatDoorDk
namespace Go.Proofs.YtcmcdddnckcpcaaGreatDoor
open Go.RowKit
theorem noughts_any (k : Nat) (hk : k ≤ 512) (w : World) : Calls Tryz.prog 103 #[.string ⟨#[0]⟩, .int .i64 k] w fun e w' => e = .returned (.string (mk (List.replicate k 0))) ∧ Below w.heap.size w w' := by
  have K := Tryz.strings_Repeat ⟨#[0]⟩ k w (by omega) (by rw [show (ByteArray.size ⟨#[0]⟩) = 1 from rfl]; omega)
  rw [show (⟨(Lib.repeatL (ByteArray.data ⟨#[0]⟩).toList k).toArray⟩ : ByteArray) = mk (List.replicate k 0) by
    rw [show (ByteArray.data ⟨#[0]⟩).toList = [0] from rfl, repeat_zero]; rfl] at K
  exact K
theorem padded_any (d : Bs) (w : World) (h : d.length ≤ 512) : Calls Tryz.prog 86 #[.string (mk d)] w fun e w' => e = .returned (.string (mk (fullB d))) ∧ Below w.heap.size w w' := by
  have K := fun w => noughts_any (512 - d.length) (by omega) w
  rw [show ((512 - d.length : Nat) : Int) = 512 - (d.length : Int) by omega] at K
  have zd : (mk d).size = d.length := mk_size d
  have hsum := run_sum d (List.replicate (512 - d.length) 0) (by simp; omega)
  rw [show d ++ List.replicate (512 - d.length) 0 = fullB d from rfl] at hsum
  obtain ⟨X, hX⟩ : ∃ X, mk d = X := ⟨_, rfl⟩
  obtain ⟨Y, hY⟩ : ∃ X, mk (List.replicate (512 - d.length) 0) = X := ⟨_, rfl⟩
  obtain ⟨R, hR⟩ : ∃ X, mk (fullB d) = X := ⟨_, rfl⟩
  obtain ⟨k, hk⟩ : ∃ k, d.length = k := ⟨_, rfl⟩
  rw [hX, hk] at zd
  rw [hY, hk] at K
  rw [hX, hY, hR] at hsum
  rw [hX, hR]
  rw [hk] at h
  clear hX hY hR hk
  go_enter Tryz.func86, Tryz.ntmps86
  go_wp2_with (go_at_call 103; refine (K _).mono ?_; rintro e w1 ⟨rfl, hb⟩)
  go_wp2
  go_ret
  exact ⟨rfl, hb⟩
theorem dataAt_any (n : Nat) (w : World) (h : n ≤ 1000000) : Calls Tryz.prog 54 #[.int .i64 n] w fun e w' => e = .returned (.int .i64 ((n + 7 : Nat) : Int)) ∧ w' = w := by
  have h0 : (0 : Int) ≤ (n : Int) := by omega
  have h1 : (n : Int) ≤ 1000000 := by omega
  go_enter Tryz.func54, Tryz.ntmps54
  go_wp2
  go_ret
  refine ⟨?_, rfl⟩
  show Ending.returned (.int .i64 (2 + (n : Int) + 5)) = _
  rw [show 2 + (n : Int) + 5 = ((n + 7 : Nat) : Int) by omega]
theorem needs_any (n : Nat) (w : World) (h : n ≤ 1000000000) : Calls Tryz.prog 40 #[.int .i64 n] w fun e w' => e = .returned (.int .i64 (((n + 511) / 512 : Nat) : Int)) ∧ w' = w := by
  have h0 : (0 : Int) ≤ (n : Int) := by omega
  have h1 : (n : Int) ≤ 1000000000 := by omega
  have ht : ((n : Int) + 512 - 1).tdiv 512 = (((n + 511) / 512 : Nat) : Int) := by rw [Int.tdiv_eq_ediv_of_nonneg (by omega)]; omega
  go_enter Tryz.func40, Tryz.ntmps40
  go_wp2
  go_ret
  exact ⟨rfl, rfl⟩
theorem conv_blk {w : World} {b c : Nat} {l : Bs} {cs : Array Value} (h : Blk w b cs 5) (hcs : ∀ j (hj : j < l.length), cs[j]? = some (.int .u8 (l[j].toNat : Int))) : (convert 62 9 (.slice (some ⟨b, 0, none⟩) l.length c)).run Tryz.prog w = .ok (.string (mk l)) w :=
  run_convert_bytes_back (P := Tryz.prog) w 62 9 5 ⟨b, 0, none⟩ c l Tryz.underlying62 Tryz.underlying5 Tryz.underlying9 (fun j hj => by
    rw [add_lit', Nat.zero_add, h.cell j]; exact hcs j hj)
def twoB (n : Nat) : Bs := [UInt8.ofNat (n / 256), UInt8.ofNat n]
set_option maxRecDepth 100000 in
theorem two_any (n : Nat) (w : World) (h : n ≤ 1000000) : Calls Tryz.prog 94 #[.int .i64 n] w fun e w' => e = .returned (.string (mk (twoB n))) ∧ Below w.heap.size w w' := by
  have h0 : (0 : Int) ≤ (n : Int) := by omega
  have h1 : (n : Int) ≤ 1000000 := by omega
  have hcv : (convert 62 9 (.slice (some ⟨w.heap.size, 0, none⟩) 2 2)).run Tryz.prog (w.alloc (.cells #[.int .u8 ((n : Int) / 256 % 256), .int .u8 ((n : Int) % 256)] 5)) = .ok (.string (mk (twoB n))) (w.alloc (.cells #[.int .u8 ((n : Int) / 256 % 256), .int .u8 ((n : Int) % 256)] 5)) :=
    conv_blk (l := twoB n) (Blk.new w #[.int .u8 ((n : Int) / 256 % 256), .int .u8 ((n : Int) % 256)] 5) (fun j hj => by
      have h2 : j < 2 := hj
      match j, h2 with
      | 0, _ => simp [twoB]
      | 1, _ => simp [twoB])
  obtain ⟨X, hX⟩ : ∃ X, mk (twoB n) = X := ⟨_, rfl⟩
  rw [hX] at hcv ⊢
  clear hX
  go_enter Tryz.func94, Tryz.ntmps94
  go_wp2
  go_ret
  exact ⟨rfl, below_alloc _ _⟩
/-- The first sector of a store. -/
def headB (s f : Nat) : Bs := fullB ([83, 70] ++ twoB s ++ twoB f)
set_option maxRecDepth 100000 in
theorem head_any (s f : Nat) (w : World) (hs : s ≤ 1000000) (hf : f ≤ 1000000) : Calls Tryz.prog 55 #[.int .i64 s, .int .i64 f] w fun e w' => e = .returned (.string (mk (headB s f))) ∧ Below w.heap.size w w' := by
  have K1 := fun w => two_any s w hs
  have K2 := fun w => two_any f w hf
  have KP := fun w => padded_any ([83, 70] ++ twoB s ++ twoB f) w (by simp [twoB])
  have s1 := run_sum [83, 70] (twoB s) (by simp [twoB])
  have s2 := run_sum ([83, 70] ++ twoB s) (twoB f) (by simp [twoB])
  rw [show mk [83, 70] = ⟨#[83, 70]⟩ from rfl] at s1
  have hh : fullB ([83, 70] ++ twoB s ++ twoB f) = headB s f := rfl
  rw [hh] at KP
  obtain ⟨A, hA⟩ : ∃ X, mk (twoB s) = X := ⟨_, rfl⟩
  obtain ⟨B, hB⟩ : ∃ X, mk (twoB f) = X := ⟨_, rfl⟩
  obtain ⟨C, hC⟩ : ∃ X, mk ([83, 70] ++ twoB s) = X := ⟨_, rfl⟩
  obtain ⟨D, hD⟩ : ∃ X, mk ([83, 70] ++ twoB s ++ twoB f) = X := ⟨_, rfl⟩
  obtain ⟨R, hR⟩ : ∃ X, mk (headB s f) = X := ⟨_, rfl⟩
  rw [hA] at K1 s1
  rw [hB] at K2 s2
  rw [hC] at s1 s2
  rw [hD] at s2 KP
  rw [hR] at KP ⊢
  clear hA hB hC hD hR hh
  go_enter Tryz.func55, Tryz.ntmps55
  go_wp2_with (first
    | (go_at_call 94; (with_reducible refine (K1 _).mono ?_); rintro e w1 ⟨rfl, hb1⟩)
    | (go_at_call 94; (with_reducible refine (K2 _).mono ?_); rintro e w2 ⟨rfl, hb2⟩)
    | (go_at_call 86; refine (KP _).mono ?_; rintro e w3 ⟨rfl, hb3⟩))
  go_wp2
  go_ret
  exact ⟨rfl, (hb1.trans (hb2.mono hb1.size)).trans (hb3.mono (Nat.le_trans hb1.size hb2.size))⟩
end Go.Proofs.YtcmcdddnckcpcaaGreatDoor
