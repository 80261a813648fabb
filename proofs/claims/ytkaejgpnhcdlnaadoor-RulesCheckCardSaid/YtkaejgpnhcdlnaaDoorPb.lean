/- Plain laws: the text of rules, and reading it again. Lists of bytes alone, no program. -/
import Derived.Test.YtkaejgpnhcdlnaaDoorPa
namespace Go.Proofs.YtkaejgpnhcdlnaaDoor
def lineOf (r : Rl) : Bs := r.1 ++ 32 :: (r.2 ++ [10])
def showS (l : List Rl) : Bs := l.flatMap lineOf
def okR (r : Rl) : Prop := good r.1 = true ∧ pat r.2 = true
def fits : List Rl → List Rl → Prop
  | _, [] => True
  | acc, r :: l => (0 < acc.length → leqB r.1 (lastN acc) = false) ∧ okR r ∧ fits (acc ++ [r]) l
theorem good_no (n : Bs) (h : good n = true) (c : UInt8) (hc : nameC c = false) : c ∉ n := by
  intro hm
  simp only [good, Bool.and_eq_true, List.all_eq_true] at h
  rw [h.1 c hm] at hc; cases hc
theorem pat_no (n : Bs) (h : pat n = true) (c : UInt8) (hc : patC c = false) : c ∉ n := by
  intro hm
  simp only [pat, Bool.and_eq_true, List.all_eq_true] at h
  rw [h.1 c hm] at hc; cases hc
theorem lines_cons (a : Bs) (s : Bs) (h : (10 : UInt8) ∉ a) : lines (a ++ 10 :: s) = (a ++ [10]) :: lines s := by
  induction a with
  | nil => simp [lines]
  | cons c a ih =>
    have hc : c ≠ 10 := fun e => h (by simp [e])
    have ih := ih (fun e => h (by simp [e]))
    rw [List.cons_append, lines, if_neg hc, ih]; rfl
theorem lines_show (l : List Rl) (h : ∀ r ∈ l, okR r) : lines (showS l) = l.map lineOf := by
  induction l with
  | nil => rfl
  | cons r l ih =>
    have hr := h r (by simp)
    have e : showS (r :: l) = (r.1 ++ 32 :: r.2) ++ 10 :: showS l := by simp [showS, lineOf]
    rw [e, lines_cons, ih (fun x hx => h x (by simp [hx]))]
    · simp [lineOf]
    · intro hm
      rcases List.mem_append.1 hm with hm | hm
      · exact good_no _ hr.1 10 (by decide) hm
      · rcases List.mem_cons.1 hm with hm | hm
        · cases hm
        · exact pat_no _ hr.2 10 (by decide) hm
theorem trim_line (x : Bs) : Lib.trimSuffix (x ++ [10]) [10] = x := by
  unfold Lib.trimSuffix Lib.hasSuffix
  rw [if_pos (by simp)]
  simp
theorem ended_line (x : Bs) : ended (x ++ [10]) = true := by
  unfold ended Lib.hasSuffix
  simp
theorem ix32 (n p : Bs) (h : (32 : UInt8) ∉ n) : Lib.index (n ++ 32 :: p) [32] = n.length := by
  induction n with
  | nil => rw [List.nil_append, Lib.index]; simp [List.isPrefixOf]
  | cons c n ih =>
    have hc : c ≠ 32 := fun e => h (by simp [e])
    have ih := ih (fun e => h (by simp [e]))
    have hp : ([32] : Bs).isPrefixOf (c :: (n ++ 32 :: p)) = false := by simp [List.isPrefixOf, Ne.symm hc]
    rw [List.cons_append, Lib.index, hp, ih]
    rw [if_neg (by simp), if_neg (by simp)]
    simp
theorem cut_line (n p : Bs) (h : (32 : UInt8) ∉ n) : Lib.cut (n ++ 32 :: p) [32] = (n, p, true) := by
  unfold Lib.cut
  rw [ix32 n p h, if_pos (by omega)]
  simp
theorem line_parts (r : Rl) (h : okR r) : ended (lineOf r) = true ∧ sp (lineOf r) = true ∧ nm (lineOf r) = r.1 ∧ pt (lineOf r) = r.2 := by
  have e : lineOf r = (r.1 ++ 32 :: r.2) ++ [10] := by simp [lineOf]
  have hn := good_no _ h.1 32 (by decide)
  refine ⟨by rw [e]; exact ended_line _, ?_, ?_, ?_⟩
  · unfold sp; rw [e, trim_line, cut_line _ _ hn]
  · unfold nm; rw [e, trim_line, cut_line _ _ hn]
  · unfold pt; rw [e, trim_line, cut_line _ _ hn]
theorem line_ok (r : Rl) (h : okR r) : (ended (lineOf r) && (sp (lineOf r) && (good (nm (lineOf r)) && pat (pt (lineOf r))))) = true := by
  obtain ⟨h1, h2, h3, h4⟩ := line_parts r h
  rw [h1, h2, h3, h4, h.1, h.2]; rfl
theorem steps_pass (x : List Rl) : ∀ (acc : List Rl) (ls : List Bs), acc.length + x.length ≤ 4096 → fits acc x → stepsG (x.map lineOf ++ ls) acc = stepsG ls (acc ++ x) := by
  induction x with
  | nil => intro acc ls _ _; simp
  | cons r x ih =>
    intro acc ls hl hf
    obtain ⟨h1, h2, h3⟩ := hf
    obtain ⟨p1, p2, p3, p4⟩ := line_parts r h2
    simp only [List.length_cons] at hl
    rw [List.map_cons, List.cons_append, stepsG_next _ _ _ (by omega) (line_ok r h2) (by rw [p3]; exact h1), p3, p4]
    rw [ih (acc ++ [r]) ls (by simp; omega) h3]
    simp
theorem fits_ok (x : List Rl) : ∀ acc, fits acc x → ∀ r ∈ x, okR r := by
  induction x with
  | nil => intro acc _ r h; cases h
  | cons a x ih =>
    intro acc hf r hr
    rcases List.mem_cons.1 hr with rfl | hr
    · exact hf.2.1
    · exact ih _ hf.2.2 r hr
theorem fits_append (x y : List Rl) : ∀ acc, fits acc (x ++ y) ↔ fits acc x ∧ fits (acc ++ x) y := by
  induction x with
  | nil => intro acc; simp [fits]
  | cons a x ih =>
    intro acc
    simp only [List.cons_append, fits, ih (acc ++ [a]), List.append_assoc]
    constructor
    · rintro ⟨h1, h2, h3, h4⟩; exact ⟨⟨h1, h2, h3⟩, h4⟩
    · rintro ⟨⟨h1, h2, h3⟩, h4⟩; exact ⟨h1, h2, h3, h4⟩
/-- Rules that fit are read again of their text. -/
theorem steps_show (l : List Rl) (hl : l.length ≤ 4096) (h : fits [] l) : stepsG (lines (showS l)) [] = (l, 0, 0) := by
  rw [lines_show l (fits_ok l [] h)]
  have := steps_pass l [] [] (by simpa using hl) h
  simp only [List.append_nil, List.nil_append] at this
  rw [this, stepsG]
theorem index_split (s : Bs) (c : UInt8) : ∀ (i : Nat), Lib.index s [c] = i → s = s.take i ++ c :: s.drop (i + 1) := by
  induction s with
  | nil => intro i h; simp [Lib.index] at h
  | cons a s ih =>
    intro i h
    by_cases ha : a = c
    · subst ha
      have : Lib.index (a :: s) [a] = 0 := by rw [Lib.index]; simp [List.isPrefixOf]
      rw [this] at h
      obtain rfl : i = 0 := by omega
      simp
    · have hp : ([c] : Bs).isPrefixOf (a :: s) = false := by simp [List.isPrefixOf, Ne.symm ha]
      rw [Lib.index, hp, if_neg (by simp)] at h
      by_cases hm : Lib.index s [c] = -1
      · rw [hm] at h; simp at h
      · rw [if_neg (by simpa using hm)] at h
        obtain ⟨j, rfl⟩ : ∃ j, i = j + 1 := ⟨i - 1, by have := Lib.index_ge s [c]; omega⟩
        have := ih j (by omega)
        rw [List.take_succ_cons, List.drop_succ_cons, List.cons_append, ← this]
theorem line_of_ok (t : Bs) (h : (ended t && (sp t && (good (nm t) && pat (pt t)))) = true) : lineOf (nm t, pt t) = t ∧ okR (nm t, pt t) := by
  simp only [Bool.and_eq_true] at h
  obtain ⟨h1, h2, h3, h4⟩ := h
  refine ⟨?_, h3, h4⟩
  have e1 : Lib.trimSuffix t [10] ++ [10] = t := by
    unfold ended Lib.hasSuffix at h1
    obtain ⟨x, hx⟩ := List.isSuffixOf_iff_suffix.1 h1
    rw [← hx, trim_line]
  have e2 : nm t ++ 32 :: pt t = Lib.trimSuffix t [10] := by
    unfold nm pt
    unfold sp at h2
    unfold Lib.cut at h2 ⊢
    split at h2
    · rename_i hix
      obtain ⟨i, hi⟩ : ∃ i : Nat, Lib.index (Lib.trimSuffix t [10]) [32] = i := ⟨_, (Int.toNat_of_nonneg hix).symm⟩
      have := index_split _ _ i hi
      rw [if_pos hix, hi]
      simpa using this.symm
    · cases h2
  unfold lineOf
  show nm t ++ 32 :: (pt t ++ [10]) = t
  rw [show nm t ++ 32 :: (pt t ++ [10]) = (nm t ++ 32 :: pt t) ++ [10] by simp, e2, e1]
/-- What is read without an error: the lines are its text, and it fits. -/
theorem steps_back (ls : List Bs) : ∀ (acc l : List Rl) (n : Nat), acc.length ≤ 4096 → stepsG ls acc = (l, n, 0) → ∃ x, l = acc ++ x ∧ ls = x.map lineOf ∧ fits acc x ∧ n = 0 ∧ l.length ≤ 4096 := by
  induction ls with
  | nil =>
    intro acc l n hl h
    simp only [stepsG, Prod.mk.injEq] at h
    obtain ⟨rfl, rfl, _⟩ := h
    exact ⟨[], by simp, rfl, trivial, rfl, hl⟩
  | cons t ls ih =>
    intro acc l n hl h
    rw [stepsG] at h
    split at h
    · simp at h
    · split at h
      · simp at h
      · split at h
        · simp at h
        · rename_i h1 h2 h3
          have h2' := (Bool.not_eq_false _).mp h2
          obtain ⟨e, hok⟩ := line_of_ok t h2'
          obtain ⟨x, hx1, hx2, hx3, hx4, hx5⟩ := ih _ _ _ (by simp; omega) h
          refine ⟨(nm t, pt t) :: x, by rw [hx1]; simp, by rw [List.map_cons, e, hx2], ⟨fun hp => ?_, hok, hx3⟩, hx4, hx5⟩
          cases hle : leqB (nm t) (lastN acc)
          · rfl
          · exact absurd ⟨hp, hle⟩ h3
theorem parse_back (s : Bs) (l : List Rl) (n : Nat) (h : parseS s = (l, n, 0)) : fits [] l ∧ showS l = s ∧ n = 0 ∧ l.length ≤ 4096 := by
  unfold parseS at h
  split at h
  · simp at h
  · obtain ⟨x, h1, h2, h3, h4, h5⟩ := steps_back _ _ _ _ (by simp) h
    rw [List.nil_append] at h1
    subst h1
    refine ⟨h3, ?_, h4, h5⟩
    have := lines_join s
    rw [h2] at this
    rw [← this, showS, List.flatMap_def]
/-- The order of texts. -/
theorem less_irr (a : Bs) : Op.bytesLess a a = false := by
  induction a with
  | nil => rfl
  | cons x a ih => simp [Op.bytesLess, ih, UInt8.lt_irrefl]
theorem less_trans (a : Bs) : ∀ b c : Bs, Op.bytesLess a b = true → Op.bytesLess b c = true → Op.bytesLess a c = true := by
  induction a with
  | nil =>
    intro b c h1 h2
    cases c with
    | nil => cases b <;> simp [Op.bytesLess] at h2
    | cons z c => rfl
  | cons x a ih =>
    intro b c h1 h2
    cases b with
    | nil => simp [Op.bytesLess] at h1
    | cons y b =>
      cases c with
      | nil => simp [Op.bytesLess] at h2
      | cons z c =>
        simp only [Op.bytesLess, Bool.or_eq_true, Bool.and_eq_true, decide_eq_true_eq, beq_iff_eq] at h1 h2 ⊢
        rcases h1 with h1 | ⟨rfl, h1⟩
        · rcases h2 with h2 | ⟨rfl, h2⟩
          · exact .inl (UInt8.lt_trans h1 h2)
          · exact .inl h1
        · rcases h2 with h2 | ⟨rfl, h2⟩
          · exact .inl h2
          · exact .inr ⟨rfl, ih _ _ h1 h2⟩
theorem less_total (a : Bs) : ∀ b : Bs, Op.bytesLess a b = true ∨ a = b ∨ Op.bytesLess b a = true := by
  induction a with
  | nil => intro b; cases b with
    | nil => exact .inr (.inl rfl)
    | cons y b => exact .inl rfl
  | cons x a ih =>
    intro b
    cases b with
    | nil => exact .inr (.inr rfl)
    | cons y b =>
      simp only [Op.bytesLess, Bool.or_eq_true, Bool.and_eq_true, decide_eq_true_eq, beq_iff_eq, List.cons.injEq]
      rcases Nat.lt_trichotomy x.toNat y.toNat with h | h | h
      · exact .inl (.inl (UInt8.lt_iff_toNat_lt.2 h))
      · have e := UInt8.toNat_inj.1 h
        subst e
        rcases ih b with h | h | h
        · exact .inl (.inr ⟨rfl, h⟩)
        · exact .inr (.inl ⟨rfl, h⟩)
        · exact .inr (.inr (.inr ⟨rfl, h⟩))
      · exact .inr (.inr (.inl (UInt8.lt_iff_toNat_lt.2 h)))
theorem leqB_false (a b : Bs) : leqB a b = false ↔ Op.bytesLess b a = true := by
  unfold leqB
  constructor
  · intro h
    simp only [Bool.or_eq_false_iff, beq_eq_false_iff_ne] at h
    rcases less_total a b with h1 | h1 | h1
    · rw [h.1] at h1; cases h1
    · exact absurd h1 h.2
    · exact h1
  · intro h
    simp only [Bool.or_eq_false_iff, beq_eq_false_iff_ne]
    refine ⟨?_, ?_⟩
    · cases hl : Op.bytesLess a b
      · rfl
      · have := less_trans _ _ _ h hl
        rw [less_irr] at this; cases this
    · rintro rfl; rw [less_irr] at h; cases h
theorem leqB_true (a b : Bs) (h : Op.bytesLess a b = true) : leqB a b = true := by unfold leqB; rw [h]; rfl
/-- Two neighbours turned: the second of them is out of order. -/
theorem steps_swap (x r : List Rl) (a b : Rl) (hl : (x ++ a :: b :: r).length ≤ 4096) (h : fits [] (x ++ a :: b :: r)) :
    stepsG (lines (showS (x ++ b :: a :: r))) [] = ([], x.length + 2, 12) := by
  have hok := fits_ok _ _ h
  rw [lines_show _ (fun y hy => hok y (by simp only [List.mem_append, List.mem_cons] at hy ⊢; rcases hy with h | h | h | h <;> simp [h]))]
  obtain ⟨hx, h1, hoa, h2, hob, _⟩ := (fits_append x (a :: b :: r) []).1 h
  rw [List.nil_append] at h1 h2
  have hlast : lastN (x ++ [a]) = a.1 := by simp [lastN]
  rw [hlast] at h2
  have hab := (leqB_false _ _).1 (h2 (by simp))
  simp only [List.length_append, List.length_cons] at hl
  have hb : 0 < x.length → leqB b.1 (lastN x) = false := fun hp => (leqB_false _ _).2 (less_trans _ _ _ ((leqB_false _ _).1 (h1 hp)) hab)
  have hf : fits [] (x ++ [b]) := (fits_append x [b] []).2 ⟨hx, by rw [List.nil_append]; exact hb, hob, trivial⟩
  have e : (x ++ b :: a :: r).map lineOf = (x ++ [b]).map lineOf ++ (lineOf a :: r.map lineOf) := by simp
  rw [e, steps_pass (x ++ [b]) [] _ (by simp; omega) hf, List.nil_append]
  obtain ⟨p1, p2, p3, p4⟩ := line_parts a hoa
  rw [stepsG_order _ _ _ (by simp; omega) (line_ok a hoa) (by simp) (by rw [p3, show lastN (x ++ [b]) = b.1 by simp [lastN]]; exact leqB_true _ _ hab)]
  simp
theorem show_le (l : List Rl) : ∀ r ∈ l, (lineOf r).length ≤ (showS l).length := by
  induction l with
  | nil => intro r h; cases h
  | cons a l ih =>
    intro r hr
    rw [show showS (a :: l) = lineOf a ++ showS l from rfl, List.length_append]
    rcases List.mem_cons.1 hr with rfl | hr
    · omega
    · have := ih r hr; omega
end Go.Proofs.YtkaejgpnhcdlnaaDoor
