/- names.Good and names.Branch, walked. -/
import Derived.Test.YtlkfnhcnfjdgbaaDoorPt
namespace Go.Proofs.YtlkfnhcnfjdgbaaDoor
open Go.RowKit
theorem ix_hit (s : Bs) : Lib.index (47 :: s) [47] = 0 := by rw [Lib.index]; simp [List.isPrefixOf]
theorem ix_ne (c : UInt8) (s : Bs) (h : c ≠ 47) : Lib.index (c :: s) [47] = if Lib.index s [47] == -1 then -1 else Lib.index s [47] + 1 := by
  have hp : ([47] : Bs).isPrefixOf (c :: s) = false := by simp [List.isPrefixOf, Ne.symm h]
  rw [Lib.index, hp]; simp
theorem ix_some (s : Bs) (h : 0 < s.count 47) : ∃ i : Nat, Lib.index s [47] = i ∧ i < s.length := by
  induction s with
  | nil => simp at h
  | cons c s ih =>
    by_cases hc : c = 47
    · subst hc; exact ⟨0, by rw [ix_hit]; rfl, by simp⟩
    · rw [List.count_cons_of_ne (by simpa using hc)] at h
      obtain ⟨i, hi, hl⟩ := ih h
      exact ⟨i + 1, by rw [ix_ne c s hc, hi, if_neg (by simp)]; rfl, by simpa using hl⟩
theorem split_sp (s : Bs) : Lib.splitK [47] 0 (s.count 47) s = sp s := by
  induction s with
  | nil => rfl
  | cons c s ih =>
    by_cases hc : c = 47
    · subst hc
      rw [show (47 :: s : Bs).count 47 = s.count 47 + 1 by simp, Lib.splitK, ix_hit, sp, if_pos rfl, ← ih]
      simp
    · rw [List.count_cons_of_ne (by simpa using hc), sp, if_neg hc, ← ih]
      rcases Nat.eq_zero_or_pos (s.count 47) with h0 | h0
      · rw [h0]; rfl
      · obtain ⟨i, hi, hl⟩ := ix_some s h0
        obtain ⟨k, hk⟩ : ∃ k, s.count 47 = k + 1 := ⟨s.count 47 - 1, by omega⟩
        rw [hk, Lib.splitK, Lib.splitK, ix_ne c s hc, hi]
        rw [if_neg (show ¬ ((i : Int) == -1) = true by simp), if_neg (show ¬ (((i : Int) == -1) = true) by simp)]
        rw [if_neg (show ¬ (((i : Int) + 1 == -1) = true) by simp; omega)]
        rw [show ((i : Int) + 1).toNat = i + 1 by omega, show ((i : Int)).toNat = i by omega]
        simp
theorem splitB_sp (s : ByteArray) : (Lib.splitB ⟨#[47]⟩ 0 (s.data.toList.count 47) s) = (sp s.data.toList).map mk := by
  have h := Lib.splitB_data ⟨#[47]⟩ 0 (s.data.toList.count 47) s
  have h2 := congrArg (List.map mk) h
  rw [List.map_map] at h2
  have h3 : (mk ∘ fun b : ByteArray => b.data.toList) = id := rfl
  rw [h3, List.map_id] at h2
  rw [h2]
  exact congrArg _ (split_sp _)
theorem countB_sl (s : ByteArray) : Lib.countB s ⟨#[47]⟩ = s.data.toList.count 47 := by
  unfold Lib.countB; exact Lib.count_one 47 _
theorem sp_length (s : Bs) : (sp s).length = s.count 47 + 1 := by
  induction s with
  | nil => rfl
  | cons c s ih =>
    by_cases hc : c = 47
    · subst hc; rw [sp, if_pos rfl]; simp [ih]
    · obtain ⟨f, t, e⟩ := sp_ne s
      rw [sp, if_neg hc, List.count_cons_of_ne (by simpa using hc), ← ih, e]; simp
theorem sp_le (s : Bs) : ∀ l ∈ sp s, l.length ≤ s.length := by
  induction s with
  | nil => intro l h; simp [sp] at h; subst h; simp
  | cons c s ih =>
    intro l h
    rw [sp] at h
    split at h
    · rcases List.mem_cons.1 h with rfl | h
      · simp
      · have := ih l h; simp; omega
    · obtain ⟨f, t, e⟩ := sp_ne s
      rw [e] at h ih
      rcases List.mem_cons.1 h with rfl | h
      · have := ih f (List.mem_cons_self ..); simp; omega
      · have := ih l (List.mem_cons_of_mem _ h); simp; omega
/-- strings.Split at '/'. -/
theorem split_any (s : ByteArray) (m : Int) (w : World) (hs : s.size < 4294967281) (hm : w.cell? ⟨0, 0, none⟩ = some (.int .i64 m)) :
    Calls Tryd.prog 22 #[.string s, .string ⟨#[47]⟩] w fun e w' => e = .returned (.slice (some ⟨w.heap.size, 0, none⟩) (sp s.data.toList).length (sp s.data.toList).length) ∧
      w' = w.alloc (.cells ((sp s.data.toList).map (fun t => Value.string (mk t))).toArray 9) := by
  have H := Tryd.strings_Split s ⟨#[47]⟩ m w hs hm (by decide)
  rw [countB_sl, splitB_sp, ← sp_length, List.map_map] at H
  exact H
end Go.Proofs.YtlkfnhcnfjdgbaaDoor
