/- stemmaref16.Good and Branch, walked. -/
import Derived.Test.YtlkfnhcnfjdgbaaDoorRh
namespace Go.Proofs.YtlkfnhcnfjdgbaaDoor
open Go.RowKit
theorem ref_just (w : World) : Calls Tryd.prog 9 #[.string ⟨#[116, 97, 103, 115, 47]⟩] w fun e w' => e = .returned (.bool false) ∧ w' = w := by
  have e5 : ((⟨#[116, 97, 103, 115, 47]⟩ : ByteArray).extract 0 5).toList = [116, 97, 103, 115, 47] := by rw [ByteArray.toList_eq]; rfl
  have z : (⟨#[116, 97, 103, 115, 47]⟩ : ByteArray).size = 5 := rfl
  go_enter Tryd.func9, Tryd.ntmps9
  go_wp2
  go_loop [4, 5, 6, 7, 8] (fun l i _ _ _ => i = .int .i64 5 ∧ l = .int .u8 47) (fun _ _ _ _ _ => 0)
  case atStart => exact ⟨rfl, rfl⟩
  case round =>
    obtain ⟨rfl, rfl⟩ := hrel
    go_wp2
    go_ret
    exact ⟨rfl, rfl⟩
theorem ref_none (s : ByteArray) (w : World) (hs : s.size ≤ 2000000) (hh : ¬ (headsB ++ [47]).isPrefixOf s.data.toList = true) (ht : ¬ (tagsB ++ [47]).isPrefixOf s.data.toList = true) :
    Calls Tryd.prog 9 #[.string s] w fun e w' => e = .returned (.bool false) ∧ w' = w := by
  have hsl : s.data.toList.length = s.size := by simp
  have e6 : 5 < s.size → ((s.extract 0 6).toList == [104, 101, 97, 100, 115, 47]) = false := by
    intro h
    rw [beq_eq_false_iff_ne, ByteArray.toList_eq, ByteArray.data_extract, Array.toList_extract]
    intro e
    have e' : s.data.toList.take 6 = headsB ++ [47] := by have h2 := e; simp [List.extract] at h2; exact h2
    exact hh (List.isPrefixOf_iff_prefix.2 ⟨s.data.toList.drop 6, by rw [← e']; exact List.take_append_drop 6 _⟩)
  have e5 : 4 < s.size → ((s.extract 0 5).toList == [116, 97, 103, 115, 47]) = false := by
    intro h
    rw [beq_eq_false_iff_ne, ByteArray.toList_eq, ByteArray.data_extract, Array.toList_extract]
    intro e
    have e' : s.data.toList.take 5 = tagsB ++ [47] := by have h2 := e; simp [List.extract] at h2; exact h2
    exact ht (List.isPrefixOf_iff_prefix.2 ⟨s.data.toList.drop 5, by rw [← e']; exact List.take_append_drop 5 _⟩)
  clear hh ht
  rcases Nat.lt_or_ge 5 s.size with h | h
  · have q6 := e6 h
    have q5 := e5 (by omega)
    have g1 : (5 : Int) < (s.size : Int) := by omega
    have g2 : (4 : Int) < (s.size : Int) := by omega
    have g3 : (6 : Int) ≤ (s.size : Int) := by omega
    have g4 : (5 : Int) ≤ (s.size : Int) := by omega
    clear e5 e6
    go_enter Tryd.func9, Tryd.ntmps9
    go_wp2
    go_ret
    exact ⟨rfl, rfl⟩
  · rcases Nat.lt_or_ge 4 s.size with h' | h'
    · have q5 := e5 (by omega)
      have z : s.size = 5 := by omega
      have g2 : (4 : Int) < (s.size : Int) := by omega
      clear e5 e6
      go_enter Tryd.func9, Tryd.ntmps9
      go_wp2
      go_ret
      exact ⟨rfl, rfl⟩
    · have g1 : ¬ (5 : Int) < (s.size : Int) := by omega
      have g2 : ¬ (4 : Int) < (s.size : Int) := by omega
      clear e5 e6
      go_enter Tryd.func9, Tryd.ntmps9
      go_wp2
      go_ret
      exact ⟨rfl, rfl⟩
theorem ref_any (s : ByteArray) (w : World) (hs : s.size ≤ 2000000) :
    Calls Tryd.prog 9 #[.string s] w fun e w' => e = .returned (.bool (goodB s.data.toList)) ∧ w' = w := by
  rw [good_ref]
  by_cases hh : (headsB ++ [47]).isPrefixOf s.data.toList = true
  · exact ref_heads s w hs hh
  · by_cases ht : (tagsB ++ [47]).isPrefixOf s.data.toList = true
    · by_cases h5 : s.size = 5
      · obtain ⟨u, hu⟩ := List.isPrefixOf_iff_prefix.1 ht
        have hsl : s.data.toList.length = s.size := by simp
        have : u = [] := List.eq_nil_of_length_eq_zero (by have := congrArg List.length hu; simp [tagsB] at this; omega)
        subst this
        have e : s = ⟨#[116, 97, 103, 115, 47]⟩ := by rw [← mk_list s, ← hu]; rfl
        subst e
        exact ref_just w
      · exact ref_tags s w hs hh ht h5
    · have := ref_none s w hs hh ht
      rw [show refB s.data.toList = false by unfold refB; rw [if_neg hh, if_neg ht]]
      exact this
theorem rbranch_any (s : ByteArray) (w : World) (hs : s.size ≤ 2000000) :
    Calls Tryd.prog 11 #[.string s] w fun e w' => e = .returned (.bool (branchB s.data.toList)) ∧ w' = w := by
  have KG := ref_any s w hs
  have hsl : s.data.toList.length = s.size := by simp
  unfold branchB
  cases hg : goodB s.data.toList
  · rw [hg] at KG
    clear hg
    go_enter Tryd.func11, Tryd.ntmps11
    go_wp2_with (go_at_call 9; refine KG.mono ?_; rintro e w' ⟨rfl, rfl⟩)
    go_wp2
    go_ret
    exact ⟨rfl, rfl⟩
  · rw [hg] at KG
    rw [good_ref] at hg
    unfold refB at hg
    by_cases hh : (headsB ++ [47]).isPrefixOf s.data.toList = true
    · obtain ⟨u, hu⟩ := List.isPrefixOf_iff_prefix.1 hh
      have h0 : 0 < s.size := by rw [← hsl, ← hu]; simp [headsB]
      have e0 : s[0] = 104 := by
        have h1 : s.data.toList[0]'(by omega) = 104 := by simp only [← hu]; rfl
        rw [← h1]; simp; rfl
      have e0' : (s[0].toNat : Int) = 104 := by rw [e0]; rfl
      have g0 : (0 : Int) < (s.size : Int) := by omega
      rw [hh]
      clear hh hu hg e0
      go_enter Tryd.func11, Tryd.ntmps11
      go_wp2_with (go_at_call 9; refine KG.mono ?_; rintro e w' ⟨rfl, rfl⟩)
      go_wp2
      go_ret
      exact ⟨rfl, rfl⟩
    · rw [if_neg hh] at hg
      by_cases ht : (tagsB ++ [47]).isPrefixOf s.data.toList = true
      · obtain ⟨u, hu⟩ := List.isPrefixOf_iff_prefix.1 ht
        have h0 : 0 < s.size := by rw [← hsl, ← hu]; simp [tagsB]
        have e0 : s[0] = 116 := by
          have h1 : s.data.toList[0]'(by omega) = 116 := by simp only [← hu]; rfl
          rw [← h1]; simp; rfl
        have e0' : (s[0].toNat : Int) = 116 := by rw [e0]; rfl
        have g0 : (0 : Int) < (s.size : Int) := by omega
        rw [Bool.eq_false_iff.2 hh]
        clear hh ht hu hg e0
        go_enter Tryd.func11, Tryd.ntmps11
        go_wp2_with (go_at_call 9; refine KG.mono ?_; rintro e w' ⟨rfl, rfl⟩)
        go_wp2
        go_ret
        exact ⟨rfl, rfl⟩
      · rw [if_neg ht] at hg
        cases hg
end Go.Proofs.YtlkfnhcnfjdgbaaDoor
