/- The document's own Good and Digits, walked. -/
import Derived.Test.YtejokbfejkkpmaaDoorVw
namespace Go.Proofs.YtejokbfejkkpmaaDoor
open Go.RowKit Go.Maps Go.WideMaps
theorem tok_fit (s : ByteArray) : tok s.data.toList = (s.data.toList.all signC && (decide (0 < s.size) && decide (s.size < 65))) := by
  unfold tok
  have hsl : s.data.toList.length = s.size := by simp
  rw [hsl]
  have e1 : (1 ≤ s.size) = (0 < s.size) := rfl
  have e2 : (s.size ≤ 64) = (s.size < 65) := by apply propext; omega
  simp only [e1, e2]
set_option maxHeartbeats 1600000 in
theorem rtok_any (s : ByteArray) (w : World) (hs : s.size ≤ maxLen) :
    Calls Tryd.prog 28 #[.string s] w fun e w' => e = .returned (.bool (tok s.data.toList)) ∧ w = w' := by
  unfold maxLen at hs
  have hsl : s.data.toList.length = s.size := by simp
  have HF := Lib.hid (tok_fit s)
  go_enter Tryd.func28, Tryd.ntmps28
  go_wp2
  go_loop [3] (fun i => ∃ k : Nat, k ≤ s.size ∧ i = .int .i64 k ∧ (s.data.toList.take k).all signC = true) (fun i => s.size - (intOf i).toNat)
  case atStart => exact ⟨0, Nat.zero_le _, rfl, rfl⟩
  case round =>
    obtain ⟨k, hk, rfl, hall⟩ := hrel
    by_cases hlt : k < s.size
    · have hlt' : k < s.data.toList.length := by omega
      have H1 := Lib.hid (all_take_succ signC s.data.toList k hlt' hall)
      have H2 := Lib.hid (all_false signC s.data.toList k hlt')
      have h3 := signC_int s[k]
      clear hall
      by_cases hc : signC s[k] = true
      · obtain ⟨h, h'⟩ := h3.1 hc
        have HC := Lib.hid hc
        clear hc h3
        go_wp2
        go_round
        case rel => exact ⟨k + 1, by omega, by go_num, H1.out.trans HC.out⟩
        case measure => simp [intOf]; omega
      · have hn : ¬ (33 ≤ (s[k].toNat : Int) ∧ (s[k].toNat : Int) ≤ 126) := fun h => hc (h3.2 h)
        have HB := Lib.hid (H2.out (Bool.eq_false_iff.2 hc))
        have hr : ((s[k].toNat : Int) < 33) ∨ (126 < (s[k].toNat : Int)) := by omega
        clear hc h3 hn
        rcases hr with h | h
        all_goals
          go_wp2
          go_ret
          exact ⟨ret_bool (by rw [HF.out, HB.out]; rfl), rfl⟩
    · obtain rfl : k = s.size := by omega
      have e : s.data.toList.take s.size = s.data.toList := List.take_of_length_le (by omega)
      rw [e] at hall
      have HA := Lib.hid hall
      clear hall e
      by_cases h0 : 0 < s.size
      · by_cases h1 : s.size < 65
        all_goals
          go_wp2
          go_ret
          exact ⟨ret_bool (by rw [HF.out, HA.out]; simp [h0, h1] <;> omega), rfl⟩
      · go_wp2
        go_ret
        exact ⟨ret_bool (by rw [HF.out, HA.out]; simp [h0]), rfl⟩
/-- The digits that are still to come. -/
def digB (m : Nat) : Bs := if m = 0 then [] else Lib.decDigits m
theorem digB_step (m : Nat) (h : 0 < m) : digB (m / 10) ++ [UInt8.ofNat (48 + m % 10)] = digB m := by
  unfold digB
  rw [if_neg (show m ≠ 0 by omega)]
  conv => rhs; rw [Lib.decDigits]
  by_cases h10 : m < 10
  · rw [dif_pos h10, if_pos (by omega), Nat.mod_eq_of_lt h10]; rfl
  · rw [dif_neg h10, if_neg (by omega)]
theorem digB_zero (n : Nat) : Lib.decDigits n = if n = 0 then [48] else digB n := by
  unfold digB
  by_cases h : n = 0
  · subst h; rw [if_pos rfl, Lib.decDigits, dif_pos (by decide)]; rfl
  · rw [if_neg h, if_neg h]
def strOf : Value → Nat | .string b => (if b.size = 0 then 1 else 0) | _ => 0
set_option maxRecDepth 100000 in
set_option maxHeartbeats 1600000 in
theorem digits_any (n : Nat) (w : World) (hn : n ≤ 4611686018427387904) :
    Calls Tryd.prog 53 #[.int .i64 n] w fun e w' => e = .returned (.string (mk (Lib.decDigits n))) ∧ Below w.heap.size w w' := by
  go_enter Tryd.func53, Tryd.ntmps53
  go_wp2
  go_loopw [0, 3] (fun m s wr => ∃ (k : Nat) (S : Bs), k ≤ n ∧ S.length + k ≤ n + 1 ∧ m = .int .i64 k ∧ s = .string (mk S) ∧ Below w.heap.size w wr ∧ ((S = [] ∧ k = n) ∨ (S ≠ [] ∧ digB k ++ S = Lib.decDigits n))) (fun m s _ => (intOf m).toNat + strOf s)
  case atStart => exact ⟨n, [], Nat.le_refl _, by simp, rfl, rfl, Below.refl _ _, .inl ⟨rfl, rfl⟩⟩
  case round =>
    obtain ⟨k, S, hk, hSk, rfl, rfl, hB, hst⟩ := hrel
    have hsz := hB.size
    have hz : (mk S).size = S.length := mk_size _
    by_cases hgo : 0 < k ∨ S = []
    · have ht : ((k : Int)).tmod 10 = ((k % 10 : Nat) : Int) := by rw [Int.tmod_eq_emod_of_nonneg (by omega)]; omega
      have hd : ((k : Int)).tdiv 10 = ((k / 10 : Nat) : Int) := by rw [Int.tdiv_eq_ediv_of_nonneg (by omega)]; omega
      have ha10 : k % 10 < 10 := Nat.mod_lt _ (by decide)
      have hnat := (dg_isD (k % 10) ha10).2
      have hnext : (UInt8.ofNat (48 + k % 10) :: S ≠ [] ∧ digB (k / 10) ++ UInt8.ofNat (48 + k % 10) :: S = Lib.decDigits n) := by
        refine ⟨by simp, ?_⟩
        rcases Nat.eq_zero_or_pos k with h0 | h0
        · subst h0
          rcases hst with ⟨rfl, rfl⟩ | ⟨h1, h2⟩
          · rw [digB_zero, if_pos rfl]; rfl
          · rcases hgo with h | h
            · omega
            · exact absurd h h1
        · have e := digB_step k h0
          rw [show UInt8.ofNat (48 + k % 10) :: S = [UInt8.ofNat (48 + k % 10)] ++ S from rfl, ← List.append_assoc, e]
          rcases hst with ⟨rfl, rfl⟩ | ⟨h1, h2⟩
          · rw [digB_zero, if_neg (by omega), List.append_nil]
          · exact h2
      have hlen : S.length + 1 + k / 10 ≤ n + 1 := by
        rcases Nat.eq_zero_or_pos k with h0 | h0
        · subst h0
          rcases hgo with h | h
          · omega
          · subst h; simp
        · omega
      have hms : k / 10 + 0 < k + strOf (.string (mk S)) := by
        rcases Nat.eq_zero_or_pos k with h0 | h0
        · subst h0
          rcases hgo with h | h
          · omega
          · subst h; decide
        · omega
      have hap : mk [UInt8.ofNat (48 + k % 10)] ++ mk S = mk (UInt8.ofNat (48 + k % 10) :: S) := mk_append _ _
      have hk10 : k / 10 ≤ n := by omega
      obtain ⟨a, ha⟩ : ∃ a, k % 10 = a := ⟨_, rfl⟩
      obtain ⟨b, hb⟩ : ∃ b, k / 10 = b := ⟨_, rfl⟩
      rw [ha] at ht ha10 hnat hnext hap
      rw [hb] at hd hnext hlen hms hk10
      obtain ⟨c, hc⟩ : ∃ c, UInt8.ofNat (48 + a) = c := ⟨_, rfl⟩
      rw [hc] at hnat hnext hap
      have hcv0 : ∀ x : Int, x = 48 + (a : Int) → (convert 53 9 (.slice (some ⟨wr.heap.size, 0, none⟩) 1 1)).run Tryd.prog (wr.alloc (.cells #[.int .u8 x] 5)) = .ok (.string (mk [c])) (wr.alloc (.cells #[.int .u8 x] 5)) := by
        rintro x rfl
        refine run_convert_bytes_back (P := Tryd.prog) (wr.alloc (.cells #[.int .u8 (48 + (a : Int))] 5)) 53 9 5 ⟨wr.heap.size, 0, none⟩ 1 [c] Tryd.underlying53 Tryd.underlying5 Tryd.underlying9 (fun j hj => ?_)
        obtain rfl : j = 0 := by simpa using hj
        refine (World.news_of_block (cs := #[.int .u8 (48 + (a : Int))]) (t := 5) (fr := (0, 0)) (heap_alloc_new wr _) 0 _ rfl).trans ?_
        show some (Value.int .u8 (48 + (a : Int))) = some (Value.int .u8 ((c.toNat : Nat) : Int))
        rw [hnat]
        congr 2
      have hs1 : (mk [c]).size = 1 := mk_size _
      have HN := Lib.hid hnext
      have HA := Lib.hid hap
      have HM := Lib.hid hms
      have hlen' := Lib.hid hlen
      have hq : (k = 0 ∧ (mk S).size = 0 ∧ mk S = ⟨#[]⟩) ∨ 0 < k := by
        rcases hgo with h | h
        · exact .inr h
        · rcases Nat.eq_zero_or_pos k with h0 | h0
          · exact .inl ⟨h0, by rw [hz, h]; rfl, by rw [h]; rfl⟩
          · exact .inr h0
      obtain ⟨M, hM⟩ : ∃ M, mk [c] = M := ⟨_, rfl⟩
      rw [hM] at HA hcv0 hs1
      have hb0 : k = 0 → b = 0 := fun h => by subst h; omega
      have h48 : k = 0 → (48 : Int) = 48 + (a : Int) := fun h => by subst h; omega
      have HZ := Lib.hid hz
      have hzl : (mk S).size ≤ 4611686018427387905 := by omega
      obtain ⟨Z, hZ⟩ : ∃ Z, mk S = Z := ⟨_, rfl⟩
      rw [hZ] at hq hzl HA HM ⊢
      clear hst hgo hnext hap hms hlen hz hM hnat hc ha hb HZ hZ
      have hz1 : 1 + Z.size ≤ 9223372036854775807 := by omega
      have hM0 : strOf (.string (M ++ Z)) = 0 := by
        show (if (M ++ Z).size = 0 then 1 else 0) = 0
        rw [ByteArray.size_append, if_neg (by omega)]
      have rb : ∀ w', (Op.stringOp .add M Z).run Tryd.prog w' = .ok (.string (M ++ Z)) w' := fun w' => by go_simp
      have hB2 := fun x => hB.alloc hsz (.cells #[.int .u8 x] 5)
      rcases hq with ⟨rfl, hq, rfl⟩ | hq
      · have hcv := hcv0 48 (h48 rfl)
        obtain rfl : a = 0 := by have := h48 rfl; omega
        obtain rfl := hb0 rfl
        clear hcv0 h48 hb0
        go_wp2
        go_roundw
        case rel => exact ⟨0, c :: S, hk10, hlen'.out, by go_num, by rw [HA.out], hB2 _, .inr HN.out⟩
        case measure => have h := HM.out; have h2 := hM0; simp only [intOf]; omega
      · have hcv := hcv0 _ rfl
        clear hcv0 h48 hb0
        go_wp2
        go_roundw
        case rel => exact ⟨b, c :: S, hk10, hlen'.out, by go_num, by rw [HA.out], hB2 _, .inr HN.out⟩
        case measure => have h := HM.out; have h2 := hM0; simp only [intOf]; omega
    · obtain ⟨rfl, hS⟩ : k = 0 ∧ S ≠ [] := ⟨by omega, fun h => hgo (.inr h)⟩
      have hz1 : 0 < (mk S).size := by rw [hz]; exact List.length_pos_iff.2 hS
      have hst : mk S = mk (Lib.decDigits n) := by
        rcases hst with ⟨h, _⟩ | ⟨_, h⟩
        · exact absurd h hS
        · rw [← h]; rfl
      rw [hst] at hz1 ⊢
      have hne : mk (Lib.decDigits n) ≠ ⟨#[]⟩ := by intro e; rw [e] at hz1; exact absurd hz1 (by decide)
      clear hst hz hSk
      obtain ⟨Z, hZ⟩ : ∃ Z, mk (Lib.decDigits n) = Z := ⟨_, rfl⟩
      rw [hZ] at hz1 hne ⊢
      have he : Z.toList.isEmpty = false := by
        rw [← hZ, ByteArray.toList_eq, mk_data]
        have := dec_pos n
        cases hd : Lib.decDigits n with
        | nil => rw [hd] at this; simp at this
        | cons a b => rfl
      go_wp2
      go_ret
      exact ⟨by rw [← hZ]; rfl, hB⟩
end Go.Proofs.YtejokbfejkkpmaaDoor
