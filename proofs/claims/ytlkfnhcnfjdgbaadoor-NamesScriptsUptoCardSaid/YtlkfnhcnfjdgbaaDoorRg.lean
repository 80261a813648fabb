/- stemmaref16.Good and Branch, walked. -/
import Derived.Test.YtlkfnhcnfjdgbaaDoorGx
namespace Go.Proofs.YtlkfnhcnfjdgbaaDoor
open Go.RowKit
/-- The kinds of signs. -/
theorem kinds (c : UInt8) :
    (plainC c = true ∧ (((97 : Int) ≤ (c.toNat : Int) ∧ (c.toNat : Int) ≤ 122) ∨ ((c.toNat : Int) < 97 ∧ (48 : Int) ≤ (c.toNat : Int) ∧ (c.toNat : Int) ≤ 57) ∨ (c.toNat : Int) = 45 ∨ (c.toNat : Int) = 95)) ∨
    (plainC c = false ∧ (c == 47 || c == 46) = true ∧ ((c.toNat : Int) = 47 ∨ (c.toNat : Int) = 46)) ∨
    (plainC c = false ∧ (c == 47 || c == 46) = false ∧ ((c.toNat : Int) < 45 ∨ (57 < (c.toNat : Int) ∧ (c.toNat : Int) < 95) ∨ (c.toNat : Int) = 96 ∨ 122 < (c.toNat : Int))) := by
  have hp := plainC_int c
  have h1 := of_u8 c 47 (by omega)
  have h2 := of_u8 c 46 (by omega)
  have e1 : (c == 47 || c == 46) = true ↔ c = UInt8.ofNat 47 ∨ c = UInt8.ofNat 46 := by simp
  by_cases h : plainC c = true
  · exact .inl ⟨h, by have := hp.1 h; omega⟩
  · have hf := Bool.eq_false_iff.2 h
    by_cases h' : (c == 47 || c == 46) = true
    · refine .inr (.inl ⟨hf, h', ?_⟩)
      rcases e1.1 h' with e | e
      · exact .inl (h1.1 e)
      · exact .inr (h2.1 e)
    · refine .inr (.inr ⟨hf, Bool.eq_false_iff.2 h', ?_⟩)
      have n1 : ¬ (c.toNat : Int) = 47 := fun e => h' (e1.2 (.inl (h1.2 e)))
      have n2 : ¬ (c.toNat : Int) = 46 := fun e => h' (e1.2 (.inr (h2.2 e)))
      have n3 : ¬ ((97 ≤ (c.toNat : Int) ∧ (c.toNat : Int) ≤ 122) ∨ (48 ≤ (c.toNat : Int) ∧ (c.toNat : Int) ≤ 57) ∨ (c.toNat : Int) = 45 ∨ (c.toNat : Int) = 95) := fun x => h (hp.2 x)
      omega
theorem ends_int (c : UInt8) : (endsC c = true ∧ ((c.toNat : Int) == 47) = true ∧ (c.toNat : Int) = 47) ∨ (endsC c = true ∧ ((c.toNat : Int) == 47) = false ∧ (c.toNat : Int) = 46) ∨ (endsC c = false ∧ ((c.toNat : Int) == 47) = false ∧ ((c.toNat : Int) == 46) = false) := by
  have h1 := of_u8 c 47 (by omega)
  have h2 := of_u8 c 46 (by omega)
  by_cases a : c = UInt8.ofNat 47
  · exact .inl ⟨by rw [a]; rfl, by rw [h1.1 a]; rfl, h1.1 a⟩
  · have a' : ¬ (c.toNat : Int) = 47 := fun e => a (h1.2 e)
    by_cases b : c = UInt8.ofNat 46
    · exact .inr (.inl ⟨by rw [b]; rfl, by simpa using a', h2.1 b⟩)
    · have b' : ¬ (c.toNat : Int) = 46 := fun e => b (h2.2 e)
      refine .inr (.inr ⟨?_, by simpa using a', by simpa using b'⟩)
      unfold endsC
      have x1 : (c == 47) = false := beq_eq_false_iff_ne.2 a
      have x2 : (c == 46) = false := beq_eq_false_iff_ne.2 b
      rw [x1, x2]; rfl
theorem scan_plain (l c : UInt8) (t : Bs) (h : plainC c = true) : scan l (c :: t) = scan c t := by rw [scan, if_pos h]
theorem scan_sep (l c : UInt8) (t : Bs) (h : plainC c = false) (h2 : (c == 47 || c == 46) = true) (h3 : endsC l = false) : scan l (c :: t) = scan c t := by
  rw [scan, h, h2, h3]; simp
theorem scan_bad (l c : UInt8) (t : Bs) (h : plainC c = false) (h2 : (c == 47 || c == 46) = false ∨ endsC l = true) : scan l (c :: t) = false := by
  rw [scan, h]
  rcases h2 with h2 | h2 <;> simp [h2]
/-- The loop's state: j signs are read. -/
def St (x : Bs) (j : Nat) (l : UInt8) : Prop := j ≤ x.length ∧ scan 47 x = scan l (x.drop j)
set_option maxHeartbeats 4000000 in
theorem ref_heads (s : ByteArray) (w : World) (hs : s.size ≤ 2000000) (hh : (headsB ++ [47]).isPrefixOf s.data.toList = true) :
    Calls Tryd.prog 9 #[.string s] w fun e w' => e = .returned (.bool (refB s.data.toList)) ∧ w' = w := by
  have hsl : s.data.toList.length = s.size := by simp
  have HR := Lib.hid (show refB s.data.toList = (decide (s.size ≤ 64) && scan 47 (s.data.toList.drop 6 ++ [47])) by unfold refB; rw [if_pos hh, hsl])
  obtain ⟨u, hu⟩ := List.isPrefixOf_iff_prefix.1 hh
  have h6 : 6 ≤ s.size := by rw [← hsl, ← hu]; simp [headsB]
  have e6 : (s.extract 0 6).toList = [104, 101, 97, 100, 115, 47] := by rw [ByteArray.toList_eq, ByteArray.data_extract, Array.toList_extract, ← hu]; rfl
  have g5 : (5 : Int) < (s.size : Int) := by omega
  have g6 : (6 : Int) ≤ (s.size : Int) := by omega
  clear hh hu
  by_cases h64 : 64 < s.size
  · have HB := Lib.hid (show refB s.data.toList = false by rw [HR.out, decide_eq_false (by omega)]; rfl)
    clear HR
    go_enter Tryd.func9, Tryd.ntmps9
    go_wp2
    go_ret
    exact ⟨ret_bool HB.out.symm, rfl⟩
  · have hz : True := trivial
    have HX := Lib.hid (show refB s.data.toList = scan 47 (s.data.toList.drop 6 ++ [47]) by rw [HR.out, decide_eq_true (by omega)]; rfl)
    have hxl : (s.data.toList.drop 6 ++ [47]).length = s.size - 6 + 1 := by simp
    have HD := Lib.hid (show ∀ k (h : k < s.size), 6 ≤ k → (s.data.toList.drop 6 ++ [47]).drop (k - 6) = s[k] :: (s.data.toList.drop 6 ++ [47]).drop (k + 1 - 6) from fun k h hk => by
      rw [List.drop_eq_getElem_cons (by omega), show k - 6 + 1 = k + 1 - 6 by omega]
      congr 1
      rw [List.getElem_append_left (by simp; omega), List.getElem_drop]
      simp only [show 6 + (k - 6) = k by omega]
      simp; rfl)
    have HE := Lib.hid (show (s.data.toList.drop 6 ++ [47]).drop (s.size - 6) = ([47] : Bs) by
      rw [List.drop_append, List.drop_eq_nil_of_le (by simp), List.length_drop, hsl, Nat.sub_self]; rfl)
    obtain ⟨x, hx⟩ : ∃ x, s.data.toList.drop 6 ++ [47] = x := ⟨_, rfl⟩
    rw [hx] at HX HD HE hxl
    clear hx HR
    go_enter Tryd.func9, Tryd.ntmps9
    go_wp2
    go_loop [4, 5, 6, 7, 8] (fun l i _ _ _ => ∃ (k : Nat) (L : UInt8), 6 ≤ k ∧ i = .int .i64 k ∧ l = .int .u8 (L.toNat : Int) ∧ St x (k - 6) L) (fun _ i _ _ _ => s.size + 2 - (intOf i).toNat)
    case atStart => exact ⟨6, 47, Nat.le_refl _, rfl, rfl, Nat.zero_le _, rfl⟩
    case round =>
      obtain ⟨k, L, hk, rfl, rfl, hj, hst⟩ := hrel
      rw [hxl] at hj
      by_cases hlt : k < s.size
      · rw [HD.out k hlt hk] at hst
        have hle : (k : Int) ≤ (s.size : Int) := by omega
        obtain ⟨c, hc⟩ : ∃ c, s[k] = c := ⟨_, rfl⟩
        rw [hc] at hst
        have hc' : (s[k].toNat : Int) = (c.toNat : Int) := by rw [hc]
        rcases kinds c with ⟨hp, hn⟩ | ⟨hp, hd, hn⟩ | ⟨hp, hd, hn⟩
        · have HS := Lib.hid (show St x (k + 1 - 6) c from ⟨by omega, by rw [hst, scan_plain L c _ hp]⟩)
          clear hst hp HD HE
          rcases hn with ⟨h1, h2⟩ | ⟨h1, h2, h3⟩ | h1 | h1
          all_goals go_wp2
          all_goals go_round
          all_goals first
              | exact ⟨k + 1, c, by omega, by go_num, by first | rfl | exact congrArg (Value.int .u8) hc' | exact congrArg (Value.int .u8) (by omega), HS.out⟩
              | (simp [intOf]; omega)
        · rcases ends_int L with ⟨he, e1, e2⟩ | ⟨he, e1, e2⟩ | ⟨he, e1, e2⟩
          · have HB := Lib.hid (show refB s.data.toList = false by rw [HX.out, hst, scan_bad L c _ hp (.inr he)])
            clear hst hp hd he HD HE HX
            rcases hn with h1 | h1
            all_goals
              go_wp2
              go_ret
              exact ⟨ret_bool HB.out.symm, rfl⟩
          · have HB := Lib.hid (show refB s.data.toList = false by rw [HX.out, hst, scan_bad L c _ hp (.inr he)])
            clear hst hp hd he HD HE HX
            rcases hn with h1 | h1
            all_goals
              go_wp2
              go_ret
              exact ⟨ret_bool HB.out.symm, rfl⟩
          · have HS := Lib.hid (show St x (k + 1 - 6) c from ⟨by omega, by rw [hst, scan_sep L c _ hp hd he]⟩)
            clear hst hp hd he HD HE
            rcases hn with h1 | h1
            all_goals go_wp2
            all_goals go_round
            all_goals first
                | exact ⟨k + 1, c, by omega, by go_num, by first | rfl | exact congrArg (Value.int .u8) hc' | exact congrArg (Value.int .u8) (by omega), HS.out⟩
                | (simp [intOf]; omega)
        · have HB := Lib.hid (show refB s.data.toList = false by rw [HX.out, hst, scan_bad L c _ hp (.inl hd)])
          have q1 : ((c.toNat : Int) == 45) = false := by rw [beq_eq_false_iff_ne]; omega
          have q2 : ((c.toNat : Int) == 95) = false := by rw [beq_eq_false_iff_ne]; omega
          have q3 : ((c.toNat : Int) == 47) = false := by rw [beq_eq_false_iff_ne]; omega
          have q4 : ((c.toNat : Int) == 46) = false := by rw [beq_eq_false_iff_ne]; omega
          clear hst hp hd HD HE HX
          have hn' : ((c.toNat : Int) < 45) ∨ (57 < (c.toNat : Int) ∧ (c.toNat : Int) < 95 ∧ decide ((c.toNat : Int) ≤ 57) = false) ∨ (c.toNat : Int) = 96 ∨ (122 < (c.toNat : Int) ∧ decide ((c.toNat : Int) ≤ 57) = false ∧ decide ((c.toNat : Int) ≤ 122) = false) := by
            rcases hn with h | h | h | h
            · exact .inl h
            · exact .inr (.inl ⟨h.1, h.2, decide_eq_false (by omega)⟩)
            · exact .inr (.inr (.inl h))
            · exact .inr (.inr (.inr ⟨h, decide_eq_false (by omega), decide_eq_false (by omega)⟩))
          clear hn
          rcases hn' with h1 | ⟨h1, h2, h3⟩ | h1 | ⟨h1, h2, h3⟩
          all_goals go_wp2
          all_goals go_ret
          all_goals exact ⟨ret_bool HB.out.symm, rfl⟩
      · by_cases heq : k = s.size
        · subst heq
          rw [HE.out] at hst
          have h47 : plainC 47 = false := by decide
          rcases ends_int L with ⟨he, e1, e2⟩ | ⟨he, e1, e2⟩ | ⟨he, e1, e2⟩
          · have HB := Lib.hid (show refB s.data.toList = false by rw [HX.out, hst, scan_bad L 47 _ h47 (.inr he)])
            clear hst he HD HE HX
            go_wp2
            go_ret
            exact ⟨ret_bool HB.out.symm, rfl⟩
          · have HB := Lib.hid (show refB s.data.toList = false by rw [HX.out, hst, scan_bad L 47 _ h47 (.inr he)])
            clear hst he HD HE HX
            go_wp2
            go_ret
            exact ⟨ret_bool HB.out.symm, rfl⟩
          · have HS := Lib.hid (show St x (s.size + 1 - 6) 47 from ⟨by omega, by rw [hst, scan_sep L 47 _ h47 (by decide) he, List.drop_eq_nil_of_le (by omega)]⟩)
            clear hst he HD HE
            go_wp2
            go_round
            case rel => exact ⟨s.size + 1, 47, by omega, by go_num, rfl, HS.out⟩
            case measure => (simp [intOf] <;> omega)
        · rw [List.drop_eq_nil_of_le (by omega)] at hst
          have HB := Lib.hid (show refB s.data.toList = true by rw [HX.out, hst]; rfl)
          have hgt : ¬ (k : Int) ≤ (s.size : Int) := by omega
          clear hst HD HE HX
          go_wp2
          go_ret
          exact ⟨ret_bool HB.out.symm, rfl⟩
end Go.Proofs.YtlkfnhcnfjdgbaaDoor
