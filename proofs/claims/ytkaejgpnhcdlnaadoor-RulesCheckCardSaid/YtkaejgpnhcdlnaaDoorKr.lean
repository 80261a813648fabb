/- The document's own Kind, walked: it gives what rules.Kind gives. -/
import Derived.Test.YtkaejgpnhcdlnaaDoorSp
namespace Go.Proofs.YtkaejgpnhcdlnaaDoor
open Go.RowKit
theorem suf_drop (s t : Bs) (d : Nat) (h : s.length = d + t.length) : Lib.hasSuffix s t = (s.drop d == t) := by
  unfold Lib.hasSuffix
  rw [Bool.eq_iff_iff, List.isSuffixOf_iff_suffix, beq_iff_eq, List.suffix_iff_eq_drop, show s.length - t.length = d by omega]
  exact eq_comm
theorem suf_short (s t : Bs) (h : s.length < t.length) : Lib.hasSuffix s t = false := by
  unfold Lib.hasSuffix
  rw [Bool.eq_false_iff]
  intro h2
  have := (List.isSuffixOf_iff_suffix.1 h2).length_le
  omega
theorem ext_end (s : ByteArray) (d : Nat) : (s.extract d s.size).toList = s.data.toList.drop d := by
  rw [bytes_list, ByteArray.data_extract]
  simp [List.extract_eq_take_drop]
  exact List.take_of_length_le (by simp)
set_option maxRecDepth 100000 in
set_option maxHeartbeats 1600000 in
theorem ends_any (s t : ByteArray) (w : World) (hs : s.size ≤ maxLen) (ht : t.size ≤ maxLen) (b : Bool) (hb : Lib.hasSuffix s.data.toList t.data.toList = b) :
    Calls Tryd.prog 32 #[.string s, .string t] w fun e w' => e = .returned (.bool b) ∧ w = w' := by
  unfold maxLen at hs ht
  have hsl : s.data.toList.length = s.size := by simp
  have htl : t.data.toList.length = t.size := by simp
  by_cases hlt : s.size < t.size
  · rw [suf_short _ _ (by rw [hsl, htl]; exact hlt)] at hb
    subst hb
    clear hsl htl
    go_enter Tryd.func32, Tryd.ntmps32
    go_wp2
    go_ret
    exact ⟨rfl, rfl⟩
  · obtain ⟨d, hd⟩ : ∃ d, s.size = d + t.size := ⟨s.size - t.size, by omega⟩
    rw [suf_drop _ _ d (by rw [hsl, htl]; exact hd), ← ext_end, ← bytes_list] at hb
    have hd1 : (s.size : Int) - (t.size : Int) = (d : Int) := by omega
    have hd2 : (d : Int) ≤ (s.size : Int) := by omega
    have hd0 : (0 : Int) ≤ (d : Int) := by omega
    have hd3 : ((s.size : Int) - (t.size : Int)).toNat = d := by omega
    obtain ⟨X, hX⟩ : ∃ X, s.extract d s.size = X := ⟨_, rfl⟩
    rw [hX] at hb
    clear hsl htl hd
    cases b
    all_goals
      go_enter Tryd.func32, Tryd.ntmps32
      go_wp2
      go_ret
      exact ⟨rfl, rfl⟩
set_option maxRecDepth 100000 in
set_option maxHeartbeats 1600000 in
theorem rkind_any (s : ByteArray) (w : World) (hs : s.size ≤ maxLen) :
    Calls Tryd.prog 18 #[.string s] w fun e w' => e = .returned (.int .i64 (kindS s.data.toList)) ∧ Below w.heap.size w w' := by
  have hB : Below w.heap.size w (w.alloc (.cells #[.string ⟨#[46, 109, 101, 114, 103, 101, 115]⟩, .string ⟨#[46, 118, 111, 99, 97, 98]⟩, .string ⟨#[46, 114, 117, 108, 101, 115]⟩, .string ⟨#[46, 99, 104, 97, 116]⟩] 9)) := (Below.refl _ w).alloc (Nat.le_refl _) _
  have h1 := fun w b h => ends_any s ⟨#[46, 109, 101, 114, 103, 101, 115]⟩ w hs (by decide) b h
  have h2 := fun w b h => ends_any s ⟨#[46, 118, 111, 99, 97, 98]⟩ w hs (by decide) b h
  have h3 := fun w b h => ends_any s ⟨#[46, 114, 117, 108, 101, 115]⟩ w hs (by decide) b h
  have h4 := fun w b h => ends_any s ⟨#[46, 99, 104, 97, 116]⟩ w hs (by decide) b h
  unfold kindS
  simp only [] at h1 h2 h3 h4
  obtain ⟨b1, hb1⟩ : ∃ b, Lib.hasSuffix s.data.toList [46, 109, 101, 114, 103, 101, 115] = b := ⟨_, rfl⟩
  obtain ⟨b2, hb2⟩ : ∃ b, Lib.hasSuffix s.data.toList [46, 118, 111, 99, 97, 98] = b := ⟨_, rfl⟩
  obtain ⟨b3, hb3⟩ : ∃ b, Lib.hasSuffix s.data.toList [46, 114, 117, 108, 101, 115] = b := ⟨_, rfl⟩
  obtain ⟨b4, hb4⟩ : ∃ b, Lib.hasSuffix s.data.toList [46, 99, 104, 97, 116] = b := ⟨_, rfl⟩
  rw [hb1, hb2, hb3, hb4]
  have k1 := fun w => h1 w b1 hb1
  have k2 := fun w => h2 w b2 hb2
  have k3 := fun w => h3 w b3 hb3
  have k4 := fun w => h4 w b4 hb4
  clear h1 h2 h3 h4 hb1 hb2 hb3 hb4
  go_enter Tryd.func18, Tryd.ntmps18
  go_wp2_with fail
  refine wp_loop_rounds 5 ?_
  rw [rounds_succ]
  go_wp2_with fail
  refine (k1 _).mono ?_
  rintro e w1 ⟨rfl, rfl⟩
  cases b1
  · go_wp2_with fail
    rw [rounds_succ]
    go_wp2_with fail
    refine (k2 _).mono ?_
    rintro e w1 ⟨rfl, rfl⟩
    cases b2
    · go_wp2_with fail
      rw [rounds_succ]
      go_wp2_with fail
      refine (k3 _).mono ?_
      rintro e w1 ⟨rfl, rfl⟩
      cases b3
      · go_wp2_with fail
        rw [rounds_succ]
        go_wp2_with fail
        refine (k4 _).mono ?_
        rintro e w1 ⟨rfl, rfl⟩
        cases b4
        · go_wp2_with fail
          rw [rounds_succ]
          go_wp2
          go_ret
          exact ⟨rfl, hB⟩
        · go_wp2
          go_ret
          exact ⟨rfl, hB⟩
      · go_wp2
        go_ret
        exact ⟨rfl, hB⟩
    · go_wp2
      go_ret
      exact ⟨rfl, hB⟩
  · go_wp2
    go_ret
    exact ⟨rfl, hB⟩
end Go.Proofs.YtkaejgpnhcdlnaaDoor
