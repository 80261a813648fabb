/- stemmaref07.Good, walked. -/
import Derived.Test.YtcmcdddnckcpcaaGreatDoorGf
namespace Go.Proofs.YtcmcdddnckcpcaaGreatDoor
open Go.RowKit
theorem ret_bool {a b : Bool} (h : a = b) : Ending.returned (.bool a) = .returned (.bool b) := by rw [h]
set_option maxHeartbeats 800000 in
theorem rgood_any (s : ByteArray) (w : World) (hs : s.size ≤ maxLen) :
    Calls Tryz.prog 12 #[.string s] w fun e w' => e = .returned (.bool (goodF s.data.toList)) ∧ w = w' := by
  unfold maxLen at hs
  have hsl : s.data.toList.length = s.size := by simp
  by_cases h0 : s.size < 1 ∨ 80 < s.size
  · have HG := Lib.hid (show goodF s.data.toList = false by
      unfold goodF; rw [hsl]
      rcases h0 with h | h
      · rw [decide_eq_false (show ¬ 1 ≤ s.size by omega)]; simp
      · rw [decide_eq_false (show ¬ s.size ≤ 80 by omega)]; simp)
    clear hsl
    rcases h0 with h | h
    all_goals
      go_enter Tryz.func12, Tryz.ntmps12
      go_wp2
      go_ret
      exact ⟨ret_bool HG.out.symm, rfl⟩
  · have h1 : 1 ≤ s.size ∧ s.size ≤ 80 := by omega
    obtain ⟨h1, h2⟩ := h1
    have HT := Lib.hid (show goodF s.data.toList = s.data.toList.all signC by
      unfold goodF; rw [hsl, decide_eq_true h1, decide_eq_true h2]; simp)
    clear h0
    go_enter Tryz.func12, Tryz.ntmps12
    go_wp2
    go_loop [3] (fun i => ∃ k : Nat, k ≤ s.size ∧ i = .int .i64 k ∧ (s.data.toList.take k).all signC = true) (fun i => s.size - (intOf i).toNat)
    case atStart => exact ⟨0, Nat.zero_le _, rfl, rfl⟩
    case round =>
      obtain ⟨k, hk, rfl, hall⟩ := hrel
      by_cases hlt : k < s.size
      · have hlt' : k < s.data.toList.length := by omega
        have H1 := Lib.hid (all_take_succ signC s.data.toList k hlt' hall)
        have H2 := Lib.hid (all_false signC s.data.toList k hlt')
        have h3 := signC_nat s[k]
        clear hall
        by_cases hc : signC s[k] = true
        · obtain ⟨h, h'⟩ := h3.1 hc
          have hi : 33 ≤ (s[k].toNat : Int) := by omega
          have hi' : (s[k].toNat : Int) ≤ 126 := by omega
          have HC := Lib.hid hc
          clear hc h3 h h'
          go_wp2
          go_round
          case rel => exact ⟨k + 1, by omega, by go_num, H1.out.trans HC.out⟩
          case measure => simp [intOf]; omega
        · have hn : ¬ (33 ≤ s[k].toNat ∧ s[k].toNat ≤ 126) := fun h => hc (h3.2 h)
          have HB := Lib.hid (H2.out (Bool.eq_false_iff.2 hc))
          have hr : ((s[k].toNat : Int) < 33) ∨ (127 ≤ (s[k].toNat : Int)) := by omega
          clear hc h3 hn
          rcases hr with h | h
          all_goals
            go_wp2
            go_ret
            exact ⟨ret_bool (HT.out.trans HB.out).symm, rfl⟩
      · obtain rfl : k = s.size := by omega
        have e : s.data.toList.take s.size = s.data.toList := List.take_of_length_le (by omega)
        rw [e] at hall
        have HA := Lib.hid hall
        clear hall e
        go_wp2
        go_ret
        exact ⟨ret_bool (HT.out.trans HA.out).symm, rfl⟩
end Go.Proofs.YtcmcdddnckcpcaaGreatDoor
