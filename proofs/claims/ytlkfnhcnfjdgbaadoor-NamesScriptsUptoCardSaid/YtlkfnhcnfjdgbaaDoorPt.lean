/- names.part, walked. -/
import Derived.Test.YtlkfnhcnfjdgbaaDoorNp
import Derived.Test.YtlkfnhcnfjdgbaaDoorShelf
namespace Go.Proofs.YtlkfnhcnfjdgbaaDoor
open Go.RowKit
theorem all_take_succ (p : UInt8 → Bool) (l : Bs) (k : Nat) (h : k < l.length) (h0 : (l.take k).all p = true) : (l.take (k + 1)).all p = p l[k] := by
  rw [List.take_succ_eq_append_getElem h, List.all_append, h0]
  simp
theorem all_false (p : UInt8 → Bool) (l : Bs) (k : Nat) (h : k < l.length) (h0 : p l[k] = false) : l.all p = false := by
  rw [List.all_eq_false]
  exact ⟨l[k], List.getElem_mem h, by simp [h0]⟩
theorem ret_bool {a b : Bool} (h : a = b) : Ending.returned (.bool a) = .returned (.bool b) := by rw [h]
theorem ix3 (c : UInt8) : Lib.indexByte [45, 95, 46] c = if c = 45 then 0 else if c = 95 then 1 else if c = 46 then 2 else -1 := by
  simp only [Lib.indexByte]
  by_cases h1 : c = 45
  · subst h1; rfl
  · by_cases h2 : c = 95
    · subst h2; rfl
    · by_cases h3 : c = 46
      · subst h3; rfl
      · have e1 : ((45 : UInt8) == c) = false := beq_eq_false_iff_ne.2 (Ne.symm h1)
        have e2 : ((95 : UInt8) == c) = false := beq_eq_false_iff_ne.2 (Ne.symm h2)
        have e3 : ((46 : UInt8) == c) = false := beq_eq_false_iff_ne.2 (Ne.symm h3)
        simp [e1, e2, e3, h1, h2, h3]
theorem of_u8 (c : UInt8) (n : Nat) (hn : n < 256) : c = UInt8.ofNat n ↔ (c.toNat : Int) = n := by
  constructor
  · rintro rfl
    rw [UInt8.toNat_ofNat', Nat.mod_eq_of_lt (by omega)]
  · intro h
    refine UInt8.toNat_inj.1 ?_
    rw [UInt8.toNat_ofNat', Nat.mod_eq_of_lt (by omega)]
    omega
theorem plainC_int (c : UInt8) : plainC c = true ↔ (97 ≤ (c.toNat : Int) ∧ (c.toNat : Int) ≤ 122) ∨ (48 ≤ (c.toNat : Int) ∧ (c.toNat : Int) ≤ 57) ∨ (c.toNat : Int) = 45 ∨ (c.toNat : Int) = 95 := by
  unfold plainC
  have h1 := of_u8 c 45 (by omega)
  have h2 := of_u8 c 95 (by omega)
  simp only [Bool.or_eq_true, Bool.and_eq_true, decide_eq_true_eq, UInt8.le_iff_toNat_le, beq_iff_eq]
  rw [show (45 : UInt8) = UInt8.ofNat 45 from rfl, show (95 : UInt8) = UInt8.ofNat 95 from rfl, h1, h2]
  simp
  omega
/-- The two ways of a sign: a letter or a digit; another one, which is asked for among three. -/
theorem sign_cases (c : UInt8) : (allowC c = true ∧ 97 ≤ (c.toNat : Int) ∧ (c.toNat : Int) ≤ 122) ∨ (allowC c = true ∧ (c.toNat : Int) < 97 ∧ 48 ≤ (c.toNat : Int) ∧ (c.toNat : Int) ≤ 57) ∨
    ((((c.toNat : Int) < 97 ∧ (c.toNat : Int) < 48) ∨ ((c.toNat : Int) < 97 ∧ 57 < (c.toNat : Int)) ∨ 122 < (c.toNat : Int)) ∧ ((allowC c = true ∧ 0 ≤ Lib.indexByte [45, 95, 46] c) ∨ (allowC c = false ∧ Lib.indexByte [45, 95, 46] c < 0))) := by
  have hp := plainC_int c
  have h1 := of_u8 c 45 (by omega)
  have h2 := of_u8 c 95 (by omega)
  have h3 := of_u8 c 46 (by omega)
  have hix : Lib.indexByte [45, 95, 46] c = if c = UInt8.ofNat 45 then 0 else if c = UInt8.ofNat 95 then 1 else if c = UInt8.ofNat 46 then 2 else -1 := ix3 c
  have ha : allowC c = true ↔ plainC c = true ∨ c = UInt8.ofNat 46 := by
    unfold allowC
    rw [Bool.or_eq_true, beq_iff_eq]; rfl
  by_cases a1 : 97 ≤ (c.toNat : Int) ∧ (c.toNat : Int) ≤ 122
  · exact .inl ⟨ha.2 (.inl (hp.2 (.inl a1))), a1⟩
  · by_cases a2 : 48 ≤ (c.toNat : Int) ∧ (c.toNat : Int) ≤ 57
    · exact .inr (.inl ⟨ha.2 (.inl (hp.2 (.inr (.inl a2)))), by omega, a2⟩)
    · refine .inr (.inr ⟨by omega, ?_⟩)
      by_cases b1 : c = UInt8.ofNat 45
      · exact .inl ⟨ha.2 (.inl (hp.2 (.inr (.inr (.inl (h1.1 b1)))))), by rw [hix, if_pos b1]; decide⟩
      · by_cases b2 : c = UInt8.ofNat 95
        · exact .inl ⟨ha.2 (.inl (hp.2 (.inr (.inr (.inr (h2.1 b2)))))), by rw [hix, if_neg b1, if_pos b2]; decide⟩
        · by_cases b3 : c = UInt8.ofNat 46
          · exact .inl ⟨ha.2 (.inr b3), by rw [hix, if_neg b1, if_neg b2, if_pos b3]; decide⟩
          · refine .inr ⟨Bool.eq_false_iff.2 (fun h => ?_), by rw [hix, if_neg b1, if_neg b2, if_neg b3]; decide⟩
            rcases ha.1 h with h | h
            · rcases hp.1 h with h | h | h | h
              · exact a1 h
              · exact a2 h
              · exact b1 (h1.2 h)
              · exact b2 (h2.2 h)
            · exact b3 h
set_option maxHeartbeats 1600000 in
theorem part_any (s : ByteArray) (m : Int) (w : World) (hs : s.size < 4294967281) (hm : w.cell? ⟨0, 0, none⟩ = some (.int .i64 m)) :
    Calls Tryd.prog 25 #[.string s] w fun e w' => e = .returned (.bool (okP 47 s.data.toList)) ∧ w' = w := by
  have hsl : s.data.toList.length = s.size := by simp
  have HP := Lib.hid (okP_parts s.data.toList 47)
  have KC := Tryd.strings_Contains s ⟨#[46, 46]⟩ m w hs hm
  rw [show (⟨#[46, 46]⟩ : ByteArray).data.toList = [46, 46] from rfl, contains_dd] at KC
  clear hm
  go_enter Tryd.func25, Tryd.ntmps25
  go_wp2
  go_loop [3, 4, 7] (fun _ _ i => ∃ k : Nat, k ≤ s.size ∧ i = .int .i64 k ∧ (s.data.toList.take k).all allowC = true) (fun _ _ i => s.size - (intOf i).toNat)
  case atStart => exact ⟨0, Nat.zero_le _, rfl, rfl⟩
  case round =>
    obtain ⟨k, hk, rfl, hall⟩ := hrel
    by_cases hlt : k < s.size
    · have hlt' : k < s.data.toList.length := by omega
      have H1 := Lib.hid (all_take_succ allowC s.data.toList k hlt' hall)
      have H2 := Lib.hid (all_false allowC s.data.toList k hlt')
      have hg : s.data.toList[k] = s[k] := by simp; rfl
      rw [hg] at H1 H2
      have K := Tryd.strings_IndexByte ⟨#[45, 95, 46]⟩ (s[k].toNat : Int) w
      rw [show ((s[k].toNat : Int)).toNat.toUInt8 = s[k] from by simp, show (⟨#[45, 95, 46]⟩ : ByteArray).data.toList = [45, 95, 46] from rfl] at K
      have hcs := sign_cases s[k]
      obtain ⟨v, hv⟩ : ∃ v, Lib.indexByte [45, 95, 46] s[k] = v := ⟨_, rfl⟩
      rw [hv] at K hcs
      clear hall hg hv
      rcases hcs with ⟨ha, h1, h2⟩ | ⟨ha, h1, h2, h3⟩ | ⟨hr, hc⟩
      · have HA := Lib.hid (H1.out.trans ha)
        clear H1 H2 ha K
        go_wp2
        go_round
        case rel => exact ⟨k + 1, by omega, by go_num, HA.out⟩
        case measure => simp [intOf]; omega
      · have HA := Lib.hid (H1.out.trans ha)
        clear H1 H2 ha K
        go_wp2
        go_round
        case rel => exact ⟨k + 1, by omega, by go_num, HA.out⟩
        case measure => simp [intOf]; omega
      · have hv : (allowC s[k] = true ∧ 0 ≤ v) ∨ (allowC s[k] = false ∧ v < 0) := hc
        clear hc
        rcases hv with ⟨ha, hv⟩ | ⟨ha, hv⟩
        · have HA := Lib.hid (H1.out.trans ha)
          clear H1 H2 ha
          rcases hr with ⟨h1, h2⟩ | ⟨h1, h2⟩ | h1
          all_goals
            go_wp2_with (go_at_call 46; refine K.mono ?_; rintro e w' ⟨rfl, rfl⟩)
            go_wp2
            go_round
            all_goals first
              | exact ⟨k + 1, by omega, by go_num, HA.out⟩
              | (simp [intOf]; omega)
        · have HB := Lib.hid (show okP 47 s.data.toList = false by rw [HP.out, if_neg (by intro e; rw [e] at hlt'; simp at hlt'), H2.out ha]; rfl)
          clear H1 H2 ha
          rcases hr with ⟨h1, h2⟩ | ⟨h1, h2⟩ | h1
          all_goals
            go_wp2_with (go_at_call 46; refine K.mono ?_; rintro e w' ⟨rfl, rfl⟩)
            go_wp2
            go_ret
            exact ⟨ret_bool HB.out.symm, rfl⟩
    · obtain rfl : k = s.size := by omega
      have e : s.data.toList.take s.size = s.data.toList := List.take_of_length_le (by omega)
      rw [e] at hall
      rw [hall, Bool.true_and] at HP
      have HP' := HP.out
      clear HP hall e
      rcases Nat.eq_zero_or_pos s.size with h0 | h0
      · have hnil : s.data.toList = [] := List.eq_nil_of_length_eq_zero (by omega)
        rw [if_pos hnil] at HP'
        obtain rfl : s = ⟨#[]⟩ := by rw [← mk_list s, hnil]; rfl
        have HB := Lib.hid (show okP 47 (⟨#[]⟩ : ByteArray).data.toList = false by rw [HP']; rfl)
        clear HP' hnil KC
        go_wp2
        go_ret
        exact ⟨ret_bool HB.out.symm, rfl⟩
      · have hne : s.data.toList ≠ [] := by intro e; rw [e] at hsl; simp at hsl; omega
        rw [if_neg hne, show endsC 47 = true from rfl, Bool.true_and] at HP'
        have hh : s.data.toList.head? = some s[0] := by rw [List.head?_eq_getElem?, List.getElem?_eq_getElem (by omega)]; simp; rfl
        have hl : s.data.toList.getLast? = some s[s.size - 1] := by rw [List.getLast?_eq_getElem?, hsl, List.getElem?_eq_getElem (by omega)]; simp; rfl
        rw [hh, hl] at HP'
        have b0 := of_u8 s[0] 46 (by omega)
        have b1 := of_u8 s[s.size - 1] 46 (by omega)
        have n0 : ¬ s.toList = [] := by rw [ByteArray.toList_eq]; exact hne
        have ht : ((s.size : Int) - 1).toNat = s.size - 1 := by omega
        have x0 : (0 : Int) ≤ (s.size : Int) - 1 := by omega
        have x1 : (s.size : Int) - 1 < (s.size : Int) := by omega
        clear hh hl
        by_cases c0 : s[0] = 46
        · have HB := Lib.hid (show okP 47 s.data.toList = false by rw [HP', c0]; rfl)
          have c0' : ((s[0].toNat : Int) != 46) = false := by rw [b0.1 c0]; rfl
          clear HP' c0 b0 b1 KC
          go_wp2
          go_ret
          exact ⟨ret_bool HB.out.symm, rfl⟩
        · have d0 : ((s[0].toNat : Int) != 46) = true := by rw [bne_iff_ne]; exact fun e => c0 (b0.2 e)
          by_cases c1 : s[s.size - 1] = 46
          · have HB := Lib.hid (show okP 47 s.data.toList = false by rw [HP', c1]; simp)
            have d1 : ((s[s.size - 1].toNat : Int) != 46) = false := by rw [b1.1 c1]; rfl
            clear HP' c0 c1 b0 b1 KC
            go_wp2
            go_ret
            exact ⟨ret_bool HB.out.symm, rfl⟩
          · have d1 : ((s[s.size - 1].toNat : Int) != 46) = true := by rw [bne_iff_ne]; exact fun e => c1 (b1.2 e)
            have e0 : (some s[0] == some (46 : UInt8)) = false := by rw [beq_eq_false_iff_ne]; exact fun e => c0 (Option.some.inj e)
            have e1 : (some s[s.size - 1] == some (46 : UInt8)) = false := by rw [beq_eq_false_iff_ne]; exact fun e => c1 (Option.some.inj e)
            have HB := Lib.hid (show okP 47 s.data.toList = !dd s.data.toList by rw [HP', e0, e1]; simp)
            clear HP' c0 c1 b0 b1 e0 e1
            go_wp2_with (go_at_call 47; refine KC.mono ?_; rintro e w' ⟨rfl, rfl⟩)
            go_wp2
            go_ret
            exact ⟨ret_bool (by rw [HB.out]; simp [n0]), rfl⟩
end Go.Proofs.YtlkfnhcnfjdgbaaDoor
