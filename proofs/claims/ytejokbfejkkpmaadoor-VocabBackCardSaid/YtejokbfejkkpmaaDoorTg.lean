/- Tokens: which texts may be one; merges.Good, walked. -/
import Derived.Test.YtejokbfejkkpmaaDoorRows
import Derived.WalkKit
import Derived.Lib.Hide
import Derived.Lib.Bytes2
namespace Go.Proofs.YtejokbfejkkpmaaDoor
open Go.RowKit
abbrev Bs := List UInt8
/-- The text of a list of bytes. -/
def mk (l : Bs) : ByteArray := ⟨l.toArray⟩
theorem mk_list (s : ByteArray) : mk s.data.toList = s := rfl
theorem mk_data (l : Bs) : (mk l).data.toList = l := by simp [mk]
theorem mk_size (l : Bs) : (mk l).size = l.length := by simp [mk, ByteArray.size]
def signC (c : UInt8) : Bool := 33 ≤ c && c ≤ 126
def tok (s : Bs) : Bool := s.all signC && (decide (1 ≤ s.length) && decide (s.length ≤ 64))
theorem signC_int (c : UInt8) : signC c = true ↔ 33 ≤ (c.toNat : Int) ∧ (c.toNat : Int) ≤ 126 := by
  unfold signC
  simp only [Bool.and_eq_true, decide_eq_true_eq, UInt8.le_iff_toNat_le]
  simp
  omega
theorem all_take_succ (p : UInt8 → Bool) (l : Bs) (k : Nat) (h : k < l.length) (h0 : (l.take k).all p = true) : (l.take (k + 1)).all p = p l[k] := by
  rw [List.take_succ_eq_append_getElem h, List.all_append, h0]
  simp
theorem all_false (p : UInt8 → Bool) (l : Bs) (k : Nat) (h : k < l.length) (h0 : p l[k] = false) : l.all p = false := by
  rw [List.all_eq_false]
  exact ⟨l[k], List.getElem_mem h, by simp [h0]⟩
theorem ret_bool {a b : Bool} (h : a = b) : Ending.returned (.bool a) = .returned (.bool b) := by rw [h]
set_option maxHeartbeats 800000 in
theorem tok_any (s : ByteArray) (w : World) (hs : s.size ≤ maxLen) :
    Calls Tryd.prog 12 #[.string s] w fun e w' => e = .returned (.bool (tok s.data.toList)) ∧ w = w' := by
  unfold maxLen at hs
  have hsl : s.data.toList.length = s.size := by simp
  by_cases h0 : s.size < 1 ∨ 64 < s.size
  · have HG := Lib.hid (show tok s.data.toList = false by
      unfold tok; rw [hsl]
      rcases h0 with h | h
      · rw [decide_eq_false (show ¬ 1 ≤ s.size by omega)]; simp
      · rw [decide_eq_false (show ¬ s.size ≤ 64 by omega)]; simp)
    clear hsl
    rcases h0 with h | h
    all_goals
      go_enter Tryd.func12, Tryd.ntmps12
      go_wp2
      go_ret
      exact ⟨ret_bool HG.out.symm, rfl⟩
  · have h1 : 1 ≤ s.size ∧ s.size ≤ 64 := by omega
    obtain ⟨h1, h2⟩ := h1
    have HT := Lib.hid (show tok s.data.toList = s.data.toList.all signC by
      unfold tok; rw [hsl, decide_eq_true h1, decide_eq_true h2]; simp)
    clear h0
    go_enter Tryd.func12, Tryd.ntmps12
    go_wp2
    go_loop [3, 14] (fun _ i => ∃ k : Nat, k ≤ s.size ∧ i = .int .i64 k ∧ (s.data.toList.take k).all signC = true) (fun _ i => s.size - (intOf i).toNat)
    case atStart => exact ⟨0, Nat.zero_le _, rfl, rfl⟩
    case round =>
      obtain ⟨k, hk, rfl, hall⟩ := hrel
      by_cases hlt : k < s.size
      · have hlt' : k < s.data.toList.length := by omega
        have H1 := Lib.hid (all_take_succ signC s.data.toList k hlt' hall)
        have H2 := Lib.hid (all_false signC s.data.toList k hlt')
        have h3 := signC_int s[k]
        clear hall
        by_cases hc : signC s[k] = true
        · obtain ⟨h, h'⟩ := h3.1 hc
          have HC := Lib.hid hc
          clear hc h3
          go_wp2
          go_round
          case rel => exact ⟨k + 1, by omega, by go_num, H1.out.trans HC.out⟩
          case measure => simp [intOf]; omega
        · have hn : ¬ (33 ≤ (s[k].toNat : Int) ∧ (s[k].toNat : Int) ≤ 126) := fun h => hc (h3.2 h)
          have HB := Lib.hid (H2.out (Bool.eq_false_iff.2 hc))
          have hr : ((s[k].toNat : Int) < 33) ∨ (127 ≤ (s[k].toNat : Int)) := by omega
          clear hc h3 hn
          rcases hr with h | h
          all_goals
            go_wp2
            go_ret
            exact ⟨ret_bool (HT.out.trans HB.out).symm, rfl⟩
      · obtain rfl : k = s.size := by omega
        have e : s.data.toList.take s.size = s.data.toList := List.take_of_length_le (by omega)
        rw [e] at hall
        have HA := Lib.hid hall
        clear hall e
        go_wp2
        go_ret
        exact ⟨ret_bool (HT.out.trans HA.out).symm, rfl⟩
end Go.Proofs.YtejokbfejkkpmaaDoor
