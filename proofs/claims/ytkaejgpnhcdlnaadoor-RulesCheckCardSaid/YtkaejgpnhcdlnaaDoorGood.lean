/- rules.Good and rules.pattern, walked: each returns what the plain function says, and leaves the world as it was. -/
import Derived.Test.YtkaejgpnhcdlnaaDoorPl
import Derived.Test.YtkaejgpnhcdlnaaDoorRows
import Derived.WalkKit
import Derived.Lib.Hide
import Derived.WalkSpells
import Derived.WalkLawsBesides
namespace Go.Proofs.YtkaejgpnhcdlnaaDoor
open Go.RowKit
theorem bytes_list (s : ByteArray) : s.toList = s.data.toList := ByteArray.toList_eq s
theorem list_nil (s : ByteArray) (h : s.size = 0) : s.toList = [] := by
  rw [bytes_list]; exact List.eq_nil_of_length_eq_zero (by simpa using h)
theorem list_cons (s : ByteArray) (h : ¬ s.size = 0) : ¬ s.toList = [] := by
  rw [bytes_list]; intro e; exact h (by have := congrArg List.length e; simpa using this)
theorem ret_bool {a b : Bool} (h : a = b) : Ending.returned (.bool a) = .returned (.bool b) := by rw [h]
set_option maxHeartbeats 800000 in
theorem good_any (s : ByteArray) (w : World) (hs : s.size ≤ maxLen) :
    Calls Tryd.prog 12 #[.string s] w fun e w' => e = .returned (.bool (good s.data.toList)) ∧ w = w' := by
  unfold maxLen at hs
  go_enter Tryd.func12, Tryd.ntmps12
  go_wp2
  go_loop [3, 4, 7] (fun _ _ i => ∃ k : Nat, k ≤ s.size ∧ i = .int .i64 k ∧ (s.data.toList.take k).all nameC = true) (fun _ _ i => s.size - (intOf i).toNat)
  case atStart => exact ⟨0, Nat.zero_le _, rfl, rfl⟩
  case round =>
    obtain ⟨k, hk, rfl, hall⟩ := hrel
    by_cases hlt : k < s.size
    · have hlt' : k < s.data.toList.length := by simpa using hlt
      have H1 := Lib.hid (all_take_succ nameC s.data.toList k hlt' hall)
      have H2 := Lib.hid (good_bad s.data.toList k hlt')
      have h3 := nameC_int s[k]
      clear hall
      by_cases hc : nameC s[k] = true
      · have hc' := h3.1 hc
        have HC := Lib.hid hc
        clear hc h3
        rcases hc' with h | ⟨h, h'⟩ | ⟨h, h'⟩
        · go_wp2
          go_round
          case rel => exact ⟨k + 1, by omega, by go_num, H1.out.trans HC.out⟩
          case measure => simp [intOf]; omega
        · have hb : ((s[k].toNat : Int) != 45) = true := by simp; omega
          go_wp2
          go_round
          case rel => exact ⟨k + 1, by omega, by go_num, H1.out.trans HC.out⟩
          case measure => simp [intOf]; omega
        · have hb : ((s[k].toNat : Int) != 45) = true := by simp; omega
          go_wp2
          go_round
          case rel => exact ⟨k + 1, by omega, by go_num, H1.out.trans HC.out⟩
          case measure => simp [intOf]; omega
      · have hn : ¬ ((s[k].toNat : Int) = 45 ∨ (48 ≤ (s[k].toNat : Int) ∧ (s[k].toNat : Int) ≤ 57) ∨ (97 ≤ (s[k].toNat : Int) ∧ (s[k].toNat : Int) ≤ 122)) := fun h => hc (h3.2 h)
        have HB := Lib.hid (H2.out (Bool.eq_false_iff.2 hc))
        have hb : ((s[k].toNat : Int) != 45) = true := by simp; omega
        have hr : ((s[k].toNat : Int) < 48) ∨ (58 ≤ (s[k].toNat : Int) ∧ (s[k].toNat : Int) < 97) ∨ (123 ≤ (s[k].toNat : Int)) := by omega
        clear hc h3 hn
        rcases hr with h | ⟨h, h'⟩ | h
        all_goals
          go_wp2
          go_ret
          exact ⟨ret_bool HB.out.symm, rfl⟩
    · obtain rfl : k = s.size := by omega
      have e : s.data.toList.take s.size = s.data.toList := List.take_of_length_le (by simp)
      rw [e] at hall
      have HG := Lib.hid (show good s.data.toList = (!s.data.toList.isEmpty && decide (s.data.toList.length ≤ 32)) by simp [good, hall])
      clear hall e
      by_cases h0 : s.size = 0
      · have e1 : s.toList = [] := list_nil s h0
        go_wp2
        go_ret
        exact ⟨by rw [HG.out, ← bytes_list, e1]; rfl, rfl⟩
      · have e1 := list_cons s h0
        have e2 : s.toList.isEmpty = false := by simpa using e1
        go_wp2
        go_ret
        refine ⟨?_, rfl⟩
        rw [HG.out, ← bytes_list, e2]
        simp [bytes_list]
        omega
set_option maxHeartbeats 800000 in
theorem pat_any (s : ByteArray) (w : World) (hs : s.size ≤ maxLen) :
    Calls Tryd.prog 22 #[.string s] w fun e w' => e = .returned (.bool (pat s.data.toList)) ∧ w = w' := by
  unfold maxLen at hs
  go_enter Tryd.func22, Tryd.ntmps22
  go_wp2
  go_loop [3, 6] (fun _ i => ∃ k : Nat, k ≤ s.size ∧ i = .int .i64 k ∧ (s.data.toList.take k).all patC = true) (fun _ i => s.size - (intOf i).toNat)
  case atStart => exact ⟨0, Nat.zero_le _, rfl, rfl⟩
  case round =>
    obtain ⟨k, hk, rfl, hall⟩ := hrel
    by_cases hlt : k < s.size
    · have hlt' : k < s.data.toList.length := by simpa using hlt
      have H1 := Lib.hid (all_take_succ patC s.data.toList k hlt' hall)
      have H2 := Lib.hid (pat_bad s.data.toList k hlt')
      have h3 := patC_int s[k]
      clear hall
      by_cases hc : patC s[k] = true
      · obtain ⟨h, h'⟩ := h3.1 hc
        have HC := Lib.hid hc
        clear hc h3
        go_wp2
        go_round
        case rel => exact ⟨k + 1, by omega, by go_num, H1.out.trans HC.out⟩
        case measure => simp [intOf]; omega
      · have hn : ¬ (32 ≤ (s[k].toNat : Int) ∧ (s[k].toNat : Int) ≤ 126) := fun h => hc (h3.2 h)
        have HB := Lib.hid (H2.out (Bool.eq_false_iff.2 hc))
        have hr : ((s[k].toNat : Int) < 32) ∨ (127 ≤ (s[k].toNat : Int)) := by omega
        clear hc h3 hn
        rcases hr with h | h
        all_goals
          go_wp2
          go_ret
          exact ⟨ret_bool HB.out.symm, rfl⟩
    · obtain rfl : k = s.size := by omega
      have e : s.data.toList.take s.size = s.data.toList := List.take_of_length_le (by simp)
      rw [e] at hall
      have HG := Lib.hid (show pat s.data.toList = (!s.data.toList.isEmpty && decide (s.data.toList.length ≤ 256)) by simp [pat, hall])
      clear hall e
      by_cases h0 : s.size = 0
      · have e1 : s.toList = [] := list_nil s h0
        go_wp2
        go_ret
        exact ⟨by rw [HG.out, ← bytes_list, e1]; rfl, rfl⟩
      · have e1 := list_cons s h0
        have e2 : s.toList.isEmpty = false := by simpa using e1
        go_wp2
        go_ret
        refine ⟨?_, rfl⟩
        rw [HG.out, ← bytes_list, e2]
        simp [bytes_list]
        omega
set_option maxHeartbeats 800000 in
theorem rgood_any (s : ByteArray) (w : World) (hs : s.size ≤ maxLen) :
    Calls Tryd.prog 13 #[.string s] w fun e w' => e = .returned (.bool (good s.data.toList)) ∧ w = w' := by
  unfold maxLen at hs
  go_enter Tryd.func13, Tryd.ntmps13
  go_wp2
  go_loop [3, 4] (fun i _ => ∃ k : Nat, k ≤ s.size ∧ i = .int .i64 k ∧ (s.data.toList.take k).all nameC = true) (fun i _ => s.size - (intOf i).toNat)
  case atStart => exact ⟨0, Nat.zero_le _, rfl, rfl⟩
  case round =>
    obtain ⟨k, hk, rfl, hall⟩ := hrel
    by_cases hlt : k < s.size
    · have hlt' : k < s.data.toList.length := by simpa using hlt
      have H1 := Lib.hid (all_take_succ nameC s.data.toList k hlt' hall)
      have H2 := Lib.hid (good_bad s.data.toList k hlt')
      have h3 := nameC_int s[k]
      clear hall
      by_cases hc : nameC s[k] = true
      · have hc' := h3.1 hc
        have HC := Lib.hid hc
        clear hc h3
        rcases hc' with h | ⟨h, h'⟩ | ⟨h, h'⟩
        · have hb : ((s[k].toNat : Int) == 45) = true := by simp; omega
          go_wp2
          go_round
          case rel => exact ⟨k + 1, by omega, by go_num, H1.out.trans HC.out⟩
          case measure => simp [intOf]; omega
        · have hb : ((s[k].toNat : Int) == 45) = false := by simp; omega
          go_wp2
          go_round
          case rel => exact ⟨k + 1, by omega, by go_num, H1.out.trans HC.out⟩
          case measure => simp [intOf]; omega
        · have hb : ((s[k].toNat : Int) == 45) = false := by simp; omega
          go_wp2
          go_round
          case rel => exact ⟨k + 1, by omega, by go_num, H1.out.trans HC.out⟩
          case measure => simp [intOf]; omega
      · have hn : ¬ ((s[k].toNat : Int) = 45 ∨ (48 ≤ (s[k].toNat : Int) ∧ (s[k].toNat : Int) ≤ 57) ∨ (97 ≤ (s[k].toNat : Int) ∧ (s[k].toNat : Int) ≤ 122)) := fun h => hc (h3.2 h)
        have HB := Lib.hid (H2.out (Bool.eq_false_iff.2 hc))
        have hb : ((s[k].toNat : Int) == 45) = false := by simp; omega
        have hr : ((s[k].toNat : Int) < 48) ∨ (58 ≤ (s[k].toNat : Int) ∧ (s[k].toNat : Int) < 97) ∨ (123 ≤ (s[k].toNat : Int)) := by omega
        clear hc h3 hn
        rcases hr with h | ⟨h, h'⟩ | h
        all_goals
          go_wp2
          all_goals first
            | (exfalso; have hx := ‹(!decide _) = false›; simp at hx; omega)
            | (exfalso; have hx := ‹(!decide _) = false ∨ (!decide _) = false›; simp at hx; omega)
            | (go_ret; exact ⟨ret_bool HB.out.symm, rfl⟩)
    · obtain rfl : k = s.size := by omega
      have e : s.data.toList.take s.size = s.data.toList := List.take_of_length_le (by simp)
      rw [e] at hall
      have HG := Lib.hid (show good s.data.toList = (!s.data.toList.isEmpty && decide (s.data.toList.length ≤ 32)) by simp [good, hall])
      clear hall e
      by_cases h0 : s.size = 0
      · have e1 : s.toList = [] := list_nil s h0
        go_wp2
        go_ret
        exact ⟨by rw [HG.out, ← bytes_list, e1]; rfl, rfl⟩
      · have e1 : 0 < s.size := by omega
        have e2 : s.toList.isEmpty = false := by simpa using list_cons s h0
        have E2 := Lib.hid e2
        clear e2
        go_wp2
        go_ret
        refine ⟨?_, rfl⟩
        rw [HG.out, ← bytes_list, E2.out]
        simp [bytes_list]
        omega
end Go.Proofs.YtkaejgpnhcdlnaaDoor
