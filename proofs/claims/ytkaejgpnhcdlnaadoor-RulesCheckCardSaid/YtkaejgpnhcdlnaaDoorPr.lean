/- Plain laws for the document's own parser: a line by places. Lists of bytes alone, no program. -/
import Derived.Test.YtkaejgpnhcdlnaaDoorPb
namespace Go.Proofs.YtkaejgpnhcdlnaaDoor
/-- What stands ahead of the first newline. -/
def bodyOf (r : Bs) : Bs := r.takeWhile (· != 10)
def qOf (r : Bs) : Nat := (bodyOf r).length
theorem body_no (r : Bs) : (10 : UInt8) ∉ bodyOf r := by
  unfold bodyOf
  induction r with
  | nil => simp
  | cons c r ih =>
    by_cases hc : c = 10
    · subst hc; simp
    · simp only [List.takeWhile_cons, bne_iff_ne.2 hc, if_true, List.mem_cons, not_or]
      exact ⟨fun e => hc e.symm, ih⟩
theorem body_take (r : Bs) : r.take (qOf r) = bodyOf r := by
  unfold qOf bodyOf
  induction r with
  | nil => rfl
  | cons c r ih =>
    by_cases hc : c = 10
    · subst hc; simp
    · simp only [List.takeWhile_cons, bne_iff_ne.2 hc, if_true, List.length_cons, List.take_succ_cons]
      rw [ih]
theorem q_le (r : Bs) : qOf r ≤ r.length := by
  have := body_take r
  have h := congrArg List.length this
  rw [List.length_take] at h
  unfold qOf at *; omega
theorem q_at (r : Bs) (h : qOf r < r.length) : r[qOf r] = 10 := by
  induction r with
  | nil => simp at h
  | cons c r ih =>
    by_cases hc : c = 10
    · subst hc; rfl
    · have e : qOf (c :: r) = qOf r + 1 := by simp [qOf, bodyOf, hc]
      simp only [e] at h ⊢
      simpa using ih (by simpa using h)
theorem q_ne (r : Bs) (j : Nat) (h : j < qOf r) (hl : j < r.length) : r[j] ≠ 10 := by
  have e : r[j] ∈ bodyOf r := by
    rw [← body_take, List.mem_take_iff_getElem]
    exact ⟨j, by omega, rfl⟩
  intro hc
  rw [hc] at e
  exact body_no r e
theorem lines_body (r : Bs) (h : qOf r < r.length) : lines r = (bodyOf r ++ [10]) :: lines (r.drop (qOf r + 1)) := by
  have e : r = bodyOf r ++ 10 :: r.drop (qOf r + 1) := by
    conv => lhs; rw [← List.take_append_drop (qOf r) r, body_take, List.drop_eq_getElem_cons h, q_at r h]
  conv => lhs; rw [e]
  rw [lines_cons _ _ (body_no r)]
theorem lines_last (r : Bs) (h0 : r ≠ []) (h : qOf r = r.length) : lines r = [r] ∧ ended r = false := by
  have e : bodyOf r = r := by rw [← body_take, h, List.take_length]
  have hn : (10 : UInt8) ∉ r := by rw [← e]; exact body_no r
  refine ⟨?_, ?_⟩
  · clear h e
    induction r with
    | nil => exact absurd rfl h0
    | cons c r ih =>
      have hc : c ≠ 10 := fun e => hn (by simp [e])
      rw [lines, if_neg hc]
      cases r with
      | nil => rfl
      | cons d r => rw [ih (by simp) (fun h => hn (by simp [h]))]
  · unfold ended Lib.hasSuffix
    cases hs : ([10] : Bs).isSuffixOf r
    · rfl
    · obtain ⟨x, hx⟩ := List.isSuffixOf_iff_suffix.1 hs
      exact absurd (by rw [← hx]; simp) hn
theorem ix_snoc (x : Bs) (c d : UInt8) : Lib.index (x ++ [c]) [d] = if Lib.index x [d] = -1 then (if c = d then (x.length : Int) else -1) else Lib.index x [d] := by
  induction x with
  | nil =>
    by_cases h : c = d
    · subst h; simp [Lib.index, List.isPrefixOf]
    · simp [Lib.index, List.isPrefixOf, h, Ne.symm h]
  | cons a x ih =>
    have hge := Lib.index_ge x [d]
    by_cases ha : a = d
    · subst ha
      have e1 : ∀ y : Bs, Lib.index (a :: y) [a] = 0 := fun y => by rw [Lib.index]; simp [List.isPrefixOf]
      rw [List.cons_append, e1, e1]; rfl
    · have e1 : ∀ y : Bs, Lib.index (a :: y) [d] = if Lib.index y [d] = -1 then -1 else Lib.index y [d] + 1 := fun y => by
        have hp : ([d] : Bs).isPrefixOf (a :: y) = false := by simp [List.isPrefixOf, Ne.symm ha]
        rw [Lib.index, hp]; simp
      rw [List.cons_append, e1, e1, ih]
      by_cases hm : Lib.index x [d] = -1
      · rw [if_pos hm, if_pos hm, if_pos rfl]
        by_cases hc : c = d
        · rw [if_pos hc, if_pos hc, if_neg (by omega)]; simp
        · rw [if_neg hc, if_neg hc]; rfl
      · rw [if_neg hm, if_neg hm, if_neg (by omega)]
theorem name_pat (c : UInt8) (h : nameC c = true) : patC c = true := by
  rw [patC_int]
  rw [nameC_int] at h
  omega
theorem all_name_pat (n : Bs) (h : good n = true) : n.all patC = true := by
  simp only [good, Bool.and_eq_true, List.all_eq_true] at h ⊢
  exact fun c hc => name_pat c (h.1 c hc)
/-- When a line is a rule's, by places. -/
theorem ok_places (x : Bs) (b : Nat) (hb : Lib.index x [32] = b) :
    (ended (x ++ [10]) && (sp (x ++ [10]) && (good (nm (x ++ [10])) && pat (pt (x ++ [10]))))) = (x.all patC && (good (x.take b) && (decide (2 ≤ x.length - b) && decide (x.length - b ≤ 257)))) ∧
      nm (x ++ [10]) = x.take b ∧ pt (x ++ [10]) = x.drop (b + 1) ∧ b < x.length := by
  have hs := index_split x 32 b hb
  have hbl : b < x.length := by
    have := congrArg List.length hs
    simp at this
    omega
  have hc : Lib.cut x [32] = (x.take b, x.drop (b + 1), true) := by
    unfold Lib.cut
    rw [hb, if_pos (by omega)]
    simp
  have h1 : nm (x ++ [10]) = x.take b := by unfold nm; rw [trim_line, hc]
  have h2 : pt (x ++ [10]) = x.drop (b + 1) := by unfold pt; rw [trim_line, hc]
  have h3 : sp (x ++ [10]) = true := by unfold sp; rw [trim_line, hc]
  refine ⟨?_, h1, h2, hbl⟩
  rw [ended_line, h1, h2, h3]
  simp only [Bool.true_and]
  have ha : x.all patC = ((x.take b).all patC && (x.drop (b + 1)).all patC) := by
    conv => lhs; rw [hs]
    rw [List.all_append, List.all_cons, show patC 32 = true by decide, Bool.true_and]
  have hl : (x.drop (b + 1)).length = x.length - b - 1 := by simp; omega
  cases hg : good (x.take b)
  · simp
  · rw [ha, all_name_pat _ hg]
    unfold pat
    rw [hl]
    simp only [Bool.true_and]
    congr 1
    have e1 : (!(x.drop (b + 1)).isEmpty) = decide (2 ≤ x.length - b) := by
      cases hd : x.drop (b + 1) with
      | nil => rw [hd] at hl; simp at hl ⊢; omega
      | cons a l => rw [hd] at hl; simp at hl ⊢; omega
    have e2 : decide (x.length - b - 1 ≤ 256) = decide (x.length - b ≤ 257) := by
      apply decide_eq_decide.2; omega
    rw [e1, e2]
theorem bad_nospace (x : Bs) (hb : Lib.index x [32] = -1) : sp (x ++ [10]) = false := by
  unfold sp Lib.cut
  rw [trim_line, hb]; rfl
theorem leqB_not (a b : Bs) : leqB a b = !Op.bytesLess b a := by
  cases h : Op.bytesLess b a
  · cases h2 : leqB a b
    · rw [(leqB_false a b).1 h2] at h; cases h
    · rfl
  · rw [(leqB_false a b).2 h]; rfl
theorem ext_mk (s : ByteArray) (f a : Nat) : s.extract f (f + a) = mk ((s.data.toList.drop f).take a) := by
  apply ByteArray.ext
  rw [ByteArray.data_extract]
  apply Array.ext'
  simp [mk, List.extract_eq_take_drop]
/-- The blank's place, or -1. -/
def bv (f : Nat) (x : Bs) : Int := if Lib.index x [32] = -1 then -1 else f + Lib.index x [32]
theorem bv_snoc (f : Nat) (x : Bs) (c : UInt8) : bv f (x ++ [c]) = if bv f x < 0 then (if c = 32 then ((f + x.length : Nat) : Int) else -1) else bv f x := by
  have hge := Lib.index_ge x [32]
  unfold bv
  rw [ix_snoc]
  by_cases hm : Lib.index x [32] = -1
  · by_cases hc : c = 32
    · have h1 : ¬ ((x.length : Int) = -1) := by omega
      simp [hm, hc, h1]
    · simp [hm, hc]
  · have h1 : ¬ ((f : Int) + Lib.index x [32] < 0) := by omega
    simp [hm, h1]
theorem bv_cases (f : Nat) (x : Bs) : (Lib.index x [32] = -1 ∧ bv f x = -1) ∨ ∃ i : Nat, Lib.index x [32] = i ∧ bv f x = ((f + i : Nat) : Int) := by
  have hge := Lib.index_ge x [32]
  by_cases hm : Lib.index x [32] = -1
  · exact .inl ⟨hm, by unfold bv; rw [if_pos hm]⟩
  · refine .inr ⟨(Lib.index x [32]).toNat, by omega, ?_⟩
    unfold bv; rw [if_neg hm]; omega
theorem patC_false (c : UInt8) : patC c = false ↔ (c.toNat : Int) < 32 ∨ 126 < (c.toNat : Int) := by
  rw [← Bool.not_eq_true, patC_int]; omega
end Go.Proofs.YtkaejgpnhcdlnaaDoor
