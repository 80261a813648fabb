/- Plain laws for the lines of a text: lists of bytes alone, no program. -/
import Derived.Test.YtkaejgpnhcdlnaaDoorPl
namespace Go.Proofs.YtkaejgpnhcdlnaaDoor
/-- A text cut behind each newline; no part is empty. -/
def lines : Bs → List Bs
  | [] => []
  | c :: s => if c = 10 then [10] :: lines s else match lines s with
    | [] => [[c]]
    | l :: r => (c :: l) :: r
/-- What strings.SplitAfter gives at a newline. -/
def spl (s : Bs) : List Bs := Lib.splitK [10] 1 (s.count 10) s
theorem spl_nil : spl [] = [[]] := rfl
theorem ix_hit (s : Bs) : Lib.index (10 :: s) [10] = 0 := by rw [Lib.index]; simp [List.isPrefixOf]
theorem ix_ne (c : UInt8) (s : Bs) (h : c ≠ 10) : Lib.index (c :: s) [10] = if Lib.index s [10] == -1 then -1 else Lib.index s [10] + 1 := by
  have hp : ([10] : Bs).isPrefixOf (c :: s) = false := by simp [List.isPrefixOf, Ne.symm h]
  rw [Lib.index, hp]; simp
theorem ix_none (s : Bs) (h : s.count 10 = 0) : Lib.index s [10] = -1 := by
  induction s with
  | nil => rfl
  | cons c s ih =>
    by_cases hc : c = 10
    · subst hc; simp at h
    · rw [List.count_cons_of_ne (by simpa using hc)] at h
      rw [ix_ne c s hc, ih h]; rfl
theorem ix_some (s : Bs) (h : 0 < s.count 10) : ∃ i : Nat, Lib.index s [10] = i ∧ i < s.length := by
  induction s with
  | nil => simp at h
  | cons c s ih =>
    by_cases hc : c = 10
    · subst hc; exact ⟨0, by rw [ix_hit]; rfl, by simp⟩
    · rw [List.count_cons_of_ne (by simpa using hc)] at h
      obtain ⟨i, hi, hl⟩ := ih h
      exact ⟨i + 1, by rw [ix_ne c s hc, hi, if_neg (by simp)]; rfl, by simpa using hl⟩
theorem spl_nl (s : Bs) : spl (10 :: s) = [10] :: spl s := by
  unfold spl
  rw [show (10 :: s : Bs).count 10 = s.count 10 + 1 by simp, Lib.splitK, ix_hit]
  simp
theorem spl_ne (c : UInt8) (s : Bs) (h : c ≠ 10) : ∃ l t, spl s = l :: t ∧ spl (c :: s) = (c :: l) :: t := by
  unfold spl
  rw [List.count_cons_of_ne (by simpa using h)]
  rcases Nat.eq_zero_or_pos (s.count 10) with h0 | h0
  · rw [h0]; exact ⟨s, [], rfl, rfl⟩
  · obtain ⟨i, hi, hl⟩ := ix_some s h0
    obtain ⟨k, hk⟩ : ∃ k, s.count 10 = k + 1 := ⟨s.count 10 - 1, by omega⟩
    rw [hk, Lib.splitK, Lib.splitK, ix_ne c s h, hi]
    rw [if_neg (show ¬ ((i : Int) == -1) = true by simp), if_neg (show ¬ (((i : Int) == -1) = true) by simp)]
    rw [if_neg (show ¬ (((i : Int) + 1 == -1) = true) by simp; omega)]
    refine ⟨_, _, rfl, ?_⟩
    rw [show ((i : Int) + 1).toNat = i + 1 by omega, show ((i : Int)).toNat = i by omega]
    simp
theorem spl_lines (s : Bs) : (spl s = lines s ∧ ∃ l, (spl s).getLast? = some l ∧ l ≠ []) ∨ spl s = lines s ++ [[]] := by
  induction s with
  | nil => exact .inr rfl
  | cons c s ih =>
    by_cases hc : c = 10
    · subst hc
      rw [spl_nl, lines, if_pos rfl]
      rcases ih with ⟨h, l, hl, hn⟩ | h
      · exact .inl ⟨by rw [h], l, by rw [List.getLast?_cons, hl]; rfl, hn⟩
      · exact .inr (by rw [h]; rfl)
    · obtain ⟨l, t, h1, h2⟩ := spl_ne c s hc
      rw [h2, lines, if_neg hc]
      rcases ih with ⟨h, l', hl, hn⟩ | h
      · rw [← h, h1]
        refine .inl ⟨rfl, ?_⟩
        rw [h1] at hl
        cases t with
        | nil => exact ⟨c :: l, rfl, by simp⟩
        | cons a b => exact ⟨l', by rw [List.getLast?_cons_cons] at hl ⊢; exact hl, hn⟩
      · cases hls : lines s with
        | nil =>
          rw [h1, hls] at h
          simp at h
          rw [h.1, h.2]
          exact .inl ⟨rfl, [c], rfl, by simp⟩
        | cons a b =>
          rw [h1, hls] at h
          simp at h
          rw [h.1, h.2]
          exact .inr rfl
theorem spl_last (s : Bs) : ∃ l, (spl s)[(spl s).length - 1]? = some l ∧ ((l = [] ∧ spl s = lines s ++ [[]]) ∨ (l ≠ [] ∧ spl s = lines s)) := by
  rcases spl_lines s with ⟨h, l, hl, hn⟩ | h
  · exact ⟨l, by rw [← List.getLast?_eq_getElem?]; exact hl, .inr ⟨hn, h⟩⟩
  · exact ⟨[], by rw [h]; simp, .inl ⟨rfl, h⟩⟩
theorem spl_le (s : Bs) : (lines s).length ≤ (spl s).length := by
  rcases spl_lines s with ⟨h, _⟩ | h <;> rw [h] <;> simp
theorem spl_get (s : Bs) (i : Nat) (h : i < (lines s).length) : (spl s)[i]? = some (lines s)[i] := by
  rcases spl_lines s with ⟨e, _⟩ | e <;> rw [e]
  · simp [h]
  · rw [List.getElem?_append_left h]; simp [h]
theorem spl_length (s : Bs) : (spl s).length = s.count 10 + 1 := by
  induction s with
  | nil => rfl
  | cons c s ih =>
    by_cases hc : c = 10
    · subst hc; rw [spl_nl]; simp [ih]
    · obtain ⟨l, t, h1, h2⟩ := spl_ne c s hc
      rw [h2, List.count_cons_of_ne (by simpa using hc), ← ih, h1]; rfl
theorem lines_join (s : Bs) : (lines s).flatten = s := by
  induction s with
  | nil => rfl
  | cons c s ih =>
    rw [lines]
    split
    · rename_i h; subst h; simp [ih]
    · split
      · rename_i h; rw [h] at ih; simp at ih; simp [← ih]
      · rename_i l r h; rw [h] at ih; simp at ih; simp [ih]
/-- A line: not empty, and no newline in it but at its end. -/
theorem lines_in (s : Bs) : ∀ l ∈ lines s, l ≠ [] ∧ ∀ k, k + 1 < l.length → l[k]? ≠ some 10 := by
  induction s with
  | nil => intro l h; simp [lines] at h
  | cons c s ih =>
    intro l hl
    rw [lines] at hl
    split at hl
    · rcases List.mem_cons.1 hl with rfl | hl
      · exact ⟨by simp, fun k hk => by simp at hk⟩
      · exact ih l hl
    · rename_i hc
      split at hl
      · simp at hl; subst hl; exact ⟨by simp, fun k hk => by simp at hk⟩
      · rename_i a b h
        rcases List.mem_cons.1 hl with rfl | hl
        · refine ⟨by simp, fun k hk => ?_⟩
          cases k with
          | zero => simpa using hc
          | succ k => simpa using (ih a (by rw [h]; simp)).2 k (by simpa using hk)
        · exact ih l (by rw [h]; simp [hl])
/-- Each line but the last ends in a newline. -/
theorem lines_end (s : Bs) : ∀ i (h : i < (lines s).length), i + 1 < (lines s).length → (lines s)[i].getLast? = some 10 := by
  induction s with
  | nil => intro i h; simp [lines] at h
  | cons c s ih =>
    intro i h h1
    by_cases hc : c = 10
    · have e : lines (c :: s) = [10] :: lines s := by rw [lines, if_pos hc]
      simp only [e] at h h1 ⊢
      cases i with
      | zero => rfl
      | succ i => simpa using ih i (by simpa using h) (by simpa using h1)
    · cases hls : lines s with
      | nil =>
        have e : lines (c :: s) = [[c]] := by rw [lines, if_neg hc, hls]
        simp only [e] at h1; simp at h1
      | cons a b =>
        have e : lines (c :: s) = (c :: a) :: b := by rw [lines, if_neg hc, hls]
        simp only [e] at h h1 ⊢
        simp only [hls] at ih
        cases i with
        | zero =>
          have := ih 0 (by simp) (by simpa using h1)
          simp at this ⊢
          cases a with
          | nil => simp at this
          | cons x y => simpa using this
        | succ i => simpa using ih (i + 1) (by simpa using h) (by simpa using h1)
end Go.Proofs.YtkaejgpnhcdlnaaDoor
