/- stemmaref16.Good and Branch, walked: the other ways. -/
import Derived.Test.YtlkfnhcnfjdgbaaDoorRg
namespace Go.Proofs.YtlkfnhcnfjdgbaaDoor
open Go.RowKit
set_option maxHeartbeats 4000000 in
theorem ref_tags (s : ByteArray) (w : World) (hs : s.size ≤ 2000000) (hh : ¬ (headsB ++ [47]).isPrefixOf s.data.toList = true) (ht : (tagsB ++ [47]).isPrefixOf s.data.toList = true) (h5 : s.size ≠ 5) :
    Calls Tryd.prog 9 #[.string s] w fun e w' => e = .returned (.bool (refB s.data.toList)) ∧ w' = w := by
  have hsl : s.data.toList.length = s.size := by simp
  have HR := Lib.hid (show refB s.data.toList = (decide (s.size ≤ 64) && scan 47 (s.data.toList.drop 5 ++ [47])) by unfold refB; rw [if_neg hh, if_pos ht, hsl])
  obtain ⟨u, hu⟩ := List.isPrefixOf_iff_prefix.1 ht
  have h6 : 5 ≤ s.size := by rw [← hsl, ← hu]; simp [tagsB]
  have e5 : (s.extract 0 5).toList = [116, 97, 103, 115, 47] := by rw [ByteArray.toList_eq, ByteArray.data_extract, Array.toList_extract, ← hu]; rfl
  have e6 : ¬ (s.extract 0 6).toList = [104, 101, 97, 100, 115, 47] := by
    rw [ByteArray.toList_eq, ByteArray.data_extract, Array.toList_extract, ← hu]
    simp [tagsB]
  have e7 : ((s.extract 0 6).toList == [104, 101, 97, 100, 115, 47]) = false := beq_eq_false_iff_ne.2 e6
  have g4 : (4 : Int) < (s.size : Int) := by omega
  have g6 : (5 : Int) ≤ (s.size : Int) := by omega
  clear hh hu ht
  have h5' : s.size ≠ 5 := h5
  have g5 : (5 : Int) < (s.size : Int) := by omega
  have g7 : (6 : Int) ≤ (s.size : Int) := by omega
  by_cases h64 : 64 < s.size
  · have HB := Lib.hid (show refB s.data.toList = false by rw [HR.out, decide_eq_false (by omega)]; rfl)
    clear HR
    go_enter Tryd.func9, Tryd.ntmps9
    go_wp2
    all_goals go_ret
    all_goals exact ⟨ret_bool HB.out.symm, rfl⟩
  · have hz : True := trivial
    have HX := Lib.hid (show refB s.data.toList = scan 47 (s.data.toList.drop 5 ++ [47]) by rw [HR.out, decide_eq_true (by omega)]; rfl)
    have hxl : (s.data.toList.drop 5 ++ [47]).length = s.size - 5 + 1 := by simp
    have HD := Lib.hid (show ∀ k (h : k < s.size), 5 ≤ k → (s.data.toList.drop 5 ++ [47]).drop (k - 5) = s[k] :: (s.data.toList.drop 5 ++ [47]).drop (k + 1 - 5) from fun k h hk => by
      rw [List.drop_eq_getElem_cons (by omega), show k - 5 + 1 = k + 1 - 5 by omega]
      congr 1
      rw [List.getElem_append_left (by simp; omega), List.getElem_drop]
      simp only [show 5 + (k - 5) = k by omega]
      simp; rfl)
    have HE := Lib.hid (show (s.data.toList.drop 5 ++ [47]).drop (s.size - 5) = ([47] : Bs) by
      rw [List.drop_append, List.drop_eq_nil_of_le (by simp), List.length_drop, hsl, Nat.sub_self]; rfl)
    obtain ⟨x, hx⟩ : ∃ x, s.data.toList.drop 5 ++ [47] = x := ⟨_, rfl⟩
    rw [hx] at HX HD HE hxl
    clear hx HR
    go_enter Tryd.func9, Tryd.ntmps9
    go_wp2
    go_loop [4, 5, 6, 7, 8] (fun l i _ _ _ => ∃ (k : Nat) (L : UInt8), 5 ≤ k ∧ i = .int .i64 k ∧ l = .int .u8 (L.toNat : Int) ∧ St x (k - 5) L) (fun _ i _ _ _ => s.size + 2 - (intOf i).toNat)
    case atStart => exact ⟨5, 47, Nat.le_refl _, rfl, rfl, Nat.zero_le _, rfl⟩
    case round =>
      obtain ⟨k, L, hk, rfl, rfl, hj, hst⟩ := hrel
      rw [hxl] at hj
      by_cases hlt : k < s.size
      · rw [HD.out k hlt hk] at hst
        have hle : (k : Int) ≤ (s.size : Int) := by omega
        obtain ⟨c, hc⟩ : ∃ c, s[k] = c := ⟨_, rfl⟩
        rw [hc] at hst
        have hc' : (s[k].toNat : Int) = (c.toNat : Int) := by rw [hc]
        rcases kinds c with ⟨hp, hn⟩ | ⟨hp, hd, hn⟩ | ⟨hp, hd, hn⟩
        · have HS := Lib.hid (show St x (k + 1 - 5) c from ⟨by omega, by rw [hst, scan_plain L c _ hp]⟩)
          clear hst hp HD HE
          rcases hn with ⟨h1, h2⟩ | ⟨h1, h2, h3⟩ | h1 | h1
          all_goals go_wp2
          all_goals go_round
          all_goals first
              | exact ⟨k + 1, c, by omega, by go_num, by first | rfl | exact congrArg (Value.int .u8) hc' | exact congrArg (Value.int .u8) (by omega), HS.out⟩
              | (simp [intOf]; omega)
        · rcases ends_int L with ⟨he, e1, e2⟩ | ⟨he, e1, e2⟩ | ⟨he, e1, e2⟩
          · have HB := Lib.hid (show refB s.data.toList = false by rw [HX.out, hst, scan_bad L c _ hp (.inr he)])
            clear hst hp hd he HD HE HX
            rcases hn with h1 | h1
            all_goals
              go_wp2
              go_ret
              exact ⟨ret_bool HB.out.symm, rfl⟩
          · have HB := Lib.hid (show refB s.data.toList = false by rw [HX.out, hst, scan_bad L c _ hp (.inr he)])
            clear hst hp hd he HD HE HX
            rcases hn with h1 | h1
            all_goals
              go_wp2
              go_ret
              exact ⟨ret_bool HB.out.symm, rfl⟩
          · have HS := Lib.hid (show St x (k + 1 - 5) c from ⟨by omega, by rw [hst, scan_sep L c _ hp hd he]⟩)
            clear hst hp hd he HD HE
            rcases hn with h1 | h1
            all_goals go_wp2
            all_goals go_round
            all_goals first
                | exact ⟨k + 1, c, by omega, by go_num, by first | rfl | exact congrArg (Value.int .u8) hc' | exact congrArg (Value.int .u8) (by omega), HS.out⟩
                | (simp [intOf]; omega)
        · have HB := Lib.hid (show refB s.data.toList = false by rw [HX.out, hst, scan_bad L c _ hp (.inl hd)])
          have q1 : ((c.toNat : Int) == 45) = false := by rw [beq_eq_false_iff_ne]; omega
          have q2 : ((c.toNat : Int) == 95) = false := by rw [beq_eq_false_iff_ne]; omega
          have q3 : ((c.toNat : Int) == 47) = false := by rw [beq_eq_false_iff_ne]; omega
          have q4 : ((c.toNat : Int) == 46) = false := by rw [beq_eq_false_iff_ne]; omega
          clear hst hp hd HD HE HX
          have hn' : ((c.toNat : Int) < 45) ∨ (57 < (c.toNat : Int) ∧ (c.toNat : Int) < 95 ∧ decide ((c.toNat : Int) ≤ 57) = false) ∨ (c.toNat : Int) = 96 ∨ (122 < (c.toNat : Int) ∧ decide ((c.toNat : Int) ≤ 57) = false ∧ decide ((c.toNat : Int) ≤ 122) = false) := by
            rcases hn with h | h | h | h
            · exact .inl h
            · exact .inr (.inl ⟨h.1, h.2, decide_eq_false (by omega)⟩)
            · exact .inr (.inr (.inl h))
            · exact .inr (.inr (.inr ⟨h, decide_eq_false (by omega), decide_eq_false (by omega)⟩))
          clear hn
          rcases hn' with h1 | ⟨h1, h2, h3⟩ | h1 | ⟨h1, h2, h3⟩
          all_goals go_wp2
          all_goals go_ret
          all_goals exact ⟨ret_bool HB.out.symm, rfl⟩
      · by_cases heq : k = s.size
        · subst heq
          rw [HE.out] at hst
          have h47 : plainC 47 = false := by decide
          rcases ends_int L with ⟨he, e1, e2⟩ | ⟨he, e1, e2⟩ | ⟨he, e1, e2⟩
          · have HB := Lib.hid (show refB s.data.toList = false by rw [HX.out, hst, scan_bad L 47 _ h47 (.inr he)])
            clear hst he HD HE HX
            go_wp2
            go_ret
            exact ⟨ret_bool HB.out.symm, rfl⟩
          · have HB := Lib.hid (show refB s.data.toList = false by rw [HX.out, hst, scan_bad L 47 _ h47 (.inr he)])
            clear hst he HD HE HX
            go_wp2
            go_ret
            exact ⟨ret_bool HB.out.symm, rfl⟩
          · have HS := Lib.hid (show St x (s.size + 1 - 5) 47 from ⟨by omega, by rw [hst, scan_sep L 47 _ h47 (by decide) he, List.drop_eq_nil_of_le (by omega)]⟩)
            clear hst he HD HE
            go_wp2
            go_round
            case rel => exact ⟨s.size + 1, 47, by omega, by go_num, rfl, HS.out⟩
            case measure => (simp [intOf] <;> omega)
        · rw [List.drop_eq_nil_of_le (by omega)] at hst
          have HB := Lib.hid (show refB s.data.toList = true by rw [HX.out, hst]; rfl)
          have hgt : ¬ (k : Int) ≤ (s.size : Int) := by omega
          clear hst HD HE HX
          go_wp2
          go_ret
          exact ⟨ret_bool HB.out.symm, rfl⟩
end Go.Proofs.YtlkfnhcnfjdgbaaDoor
