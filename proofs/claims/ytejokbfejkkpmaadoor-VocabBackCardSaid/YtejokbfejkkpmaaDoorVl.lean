/- Plain laws for vocabularies as texts: a line by its parts and by its digits; the whole text, line by line. Lists of bytes alone, no program. -/
import Derived.Test.YtejokbfejkkpmaaDoorTg
import Derived.Lib.ItoaNum
import Derived.Lib.AtoiAllCases
import Derived.Lib.IndexMore
import Derived.Lib.CutLaws
namespace Go.Proofs.YtejokbfejkkpmaaDoor
theorem ixc (d : UInt8) (n p : Bs) (h : d ∉ n) : Lib.index (n ++ d :: p) [d] = n.length := by
  induction n with
  | nil => rw [List.nil_append, Lib.index]; simp [List.isPrefixOf]
  | cons c n ih =>
    have hc : c ≠ d := fun e => h (by simp [e])
    have ih := ih (fun e => h (by simp [e]))
    have hp : ([d] : Bs).isPrefixOf (c :: (n ++ d :: p)) = false := by simp [List.isPrefixOf, Ne.symm hc]
    rw [List.cons_append, Lib.index, hp, ih]
    rw [if_neg (by simp), if_neg (by simp)]
    simp
theorem ixn (d : UInt8) (n : Bs) (h : d ∉ n) : Lib.index n [d] = -1 := by
  induction n with
  | nil => simp [Lib.index]
  | cons c n ih =>
    have hc : c ≠ d := fun e => h (by simp [e])
    have ih := ih (fun e => h (by simp [e]))
    have hp : ([d] : Bs).isPrefixOf (c :: n) = false := by simp [List.isPrefixOf, Ne.symm hc]
    rw [Lib.index, hp, ih]
    simp
theorem cut_at (d : UInt8) (n p : Bs) (h : d ∉ n) : Lib.cut (n ++ d :: p) [d] = (n, p, true) := by
  unfold Lib.cut
  rw [ixc d n p h, if_pos (by omega)]
  simp
theorem cut_none (d : UInt8) (n : Bs) (h : d ∉ n) : Lib.cut n [d] = (n, [], false) := by
  unfold Lib.cut
  rw [ixn d n h, if_neg (by omega)]
theorem mem_first (d : UInt8) (s : Bs) (h : d ∈ s) : ∃ a b, s = a ++ d :: b ∧ d ∉ a := by
  induction s with
  | nil => cases h
  | cons c s ih =>
    by_cases hc : c = d
    · subst hc; exact ⟨[], s, rfl, by simp⟩
    · obtain ⟨a, b, e, ha⟩ := ih (by simpa [Ne.symm hc] using h)
      exact ⟨c :: a, b, by rw [e]; rfl, by simp [ha, Ne.symm hc]⟩
theorem cut_some (d : UInt8) (s : Bs) (h : (Lib.cut s [d]).2.2 = true) : s = (Lib.cut s [d]).1 ++ d :: (Lib.cut s [d]).2.1 := by
  by_cases hm : d ∈ s
  · obtain ⟨a, b, rfl, ha⟩ := mem_first d s hm
    rw [cut_at d a b ha]
  · rw [cut_none d s hm] at h; cases h
theorem cut_len (d : UInt8) (s : Bs) : (Lib.cut s [d]).1.length ≤ s.length ∧ (Lib.cut s [d]).2.1.length ≤ s.length := by
  by_cases hm : d ∈ s
  · obtain ⟨a, b, rfl, ha⟩ := mem_first d s hm
    rw [cut_at d a b ha]
    simp; omega
  · rw [cut_none d s hm]; simp
/-! numerals -/
def isD (c : UInt8) : Bool := 48 ≤ c && c ≤ 57
def stepD (n : Nat) (c : UInt8) : Nat := 10 * n + (c.toNat - 48)
/-- The number of digits. -/
def valD (l : Bs) : Nat := l.foldl stepD 0
theorem valD_snoc (l : Bs) (c : UInt8) : valD (l ++ [c]) = 10 * valD l + (c.toNat - 48) := by simp [valD, stepD]
theorem isD_int (c : UInt8) : isD c = true ↔ 48 ≤ (c.toNat : Int) ∧ (c.toNat : Int) ≤ 57 := by
  unfold isD
  simp only [Bool.and_eq_true, decide_eq_true_eq, UInt8.le_iff_toNat_le]
  simp
  omega
theorem dg_isD (n : Nat) (h : n < 10) : isD (UInt8.ofNat (48 + n)) = true ∧ (UInt8.ofNat (48 + n)).toNat = 48 + n := by
  have e : (UInt8.ofNat (48 + n)).toNat = 48 + n := by rw [UInt8.toNat_ofNat']; omega
  exact ⟨(isD_int _).2 (by rw [e]; omega), e⟩
theorem dec_all (u : Nat) : (Lib.decDigits u).all isD = true := by
  induction u using Nat.strongRecOn with
  | _ u ih =>
    rw [Lib.decDigits]
    split
    · rename_i h; rw [List.all_cons, (dg_isD u h).1]; rfl
    · rename_i h; simp only [List.all_append, ih (u / 10) (by omega), List.all_cons, List.all_nil, (dg_isD (u % 10) (by omega)).1]; rfl
theorem dec_val (u : Nat) : valD (Lib.decDigits u) = u := by
  induction u using Nat.strongRecOn with
  | _ u ih =>
    rw [Lib.decDigits]
    split
    · rename_i h
      have := (dg_isD u h).2
      show stepD 0 _ = u
      unfold stepD; rw [this]; omega
    · rename_i h
      rw [valD_snoc, ih (u / 10) (by omega), (dg_isD (u % 10) (by omega)).2]; omega
theorem dec_pos (u : Nat) : 0 < (Lib.decDigits u).length := by rw [Lib.decDigits_length]; exact Lib.nDigits_pos u
theorem dec_len (k : Nat) : ∀ u, u < 10 ^ (k + 1) → (Lib.decDigits u).length ≤ k + 1 := by
  induction k with
  | zero => intro u h; rw [Lib.decDigits, dif_pos (by simpa using h)]; simp
  | succ k ih =>
    intro u h
    rw [Lib.decDigits]
    split
    · simp
    · have := ih (u / 10) (by rw [Nat.pow_succ] at h; omega)
      simp; omega
theorem dec_no (u : Nat) (d : UInt8) (h : isD d = false) : d ∉ Lib.decDigits u := by
  intro hm
  have := List.all_eq_true.1 (dec_all u) d hm
  rw [h] at this; cases this
theorem fold_ge (l : Bs) : ∀ n, n ≤ l.foldl stepD n := by
  induction l with
  | nil => intro n; exact Nat.le_refl _
  | cons c l ih =>
    intro n
    refine Nat.le_trans ?_ (ih (stepD n c))
    unfold stepD; omega
theorem parse_digits (l : Bs) : ∀ acc, l.all isD = true → l.foldl stepD acc < 1000000000000000000 → Lib.parseUint10 acc l = .ok (l.foldl stepD acc) := by
  induction l with
  | nil => intro acc _ _; rfl
  | cons c l ih =>
    intro acc ha hl
    simp only [List.all_cons, Bool.and_eq_true] at ha
    have hc := (isD_int c).1 ha.1
    have hge := fold_ge l (stepD acc c)
    simp only [List.foldl_cons] at hl ⊢
    have hs : stepD acc c = 10 * acc + (c.toNat - 48) := rfl
    rw [Lib.parseUint10, if_pos (by omega), if_neg (by omega), if_neg (by omega), show acc * 10 + (c.toNat - 48) = stepD acc c by omega]
    exact ih _ ha.2 hl
theorem atoi_digits (l : Bs) (h0 : l ≠ []) (ha : l.all isD = true) (hl : valD l < 1000000000000000000) : Lib.atoiAll l = .ok (valD l : Int) := by
  obtain ⟨c, r, rfl⟩ := List.exists_cons_of_ne_nil h0
  have hc : isD c = true := by simp at ha; exact ha.1
  have hi := (isD_int c).1 hc
  have h1 : Lib.parseMag (c :: r) = .ok (valD (c :: r)) := by
    unfold Lib.parseMag
    rw [if_neg h0]
    exact parse_digits (c :: r) 0 ha hl
  unfold Lib.atoiAll
  simp only [if_neg (show ¬ (c.toNat = 43 ∨ c.toNat = 45) by omega), h1]
  rw [if_neg (by omega), if_neg (by omega), if_neg (by omega)]
theorem atoi_dec (n : Nat) (h : n ≤ 1073741824) : Lib.atoiAll (Lib.decDigits n) = .ok (n : Int) := by
  rw [atoi_digits _ (by intro e; have := dec_pos n; rw [e] at this; simp at this) (dec_all n) (by rw [dec_val]; omega), dec_val]
/-! a line -/
abbrev En := Nat × Bs
/-- The entry of a line, as strconv reads it. -/
def lineV (x : Bs) : Option En :=
  match Lib.atoiAll (Lib.cut x [32]).1 with
  | .ok v => if (Lib.cut x [32]).2.2 = true ∧ 0 ≤ v ∧ v ≤ 1073741824 ∧ Lib.itoa v = (Lib.cut x [32]).1 ∧ tok (Lib.cut x [32]).2.1 = true then some (v.toNat, (Lib.cut x [32]).2.1) else none
  | _ => none
def lineOfE (e : En) : Bs := Lib.decDigits e.1 ++ 32 :: e.2
theorem lineV_some (x : Bs) (n : Nat) (t : Bs) : lineV x = some (n, t) ↔ n ≤ 1073741824 ∧ tok t = true ∧ x = Lib.decDigits n ++ 32 :: t := by
  constructor
  · intro h
    unfold lineV at h
    split at h
    · rename_i v hv
      split at h
      · rename_i hc
        obtain ⟨h1, h2, h3, h4, h5⟩ := hc
        simp only [Option.some.injEq, Prod.mk.injEq] at h
        obtain ⟨rfl, rfl⟩ := h
        refine ⟨by omega, h5, ?_⟩
        have hx := cut_some 32 x h1
        have h4' : Lib.decDigits v.toNat = (Lib.cut x [32]).1 := by
          unfold Lib.itoa at h4
          rwa [if_neg (by omega)] at h4
        rw [h4']; exact hx
      · cases h
    · cases h
  · rintro ⟨h1, h2, rfl⟩
    unfold lineV
    rw [cut_at 32 _ t (dec_no n 32 (by decide))]
    simp only [atoi_dec n h1]
    rw [if_pos ⟨trivial, by omega, by omega, by unfold Lib.itoa; rw [if_neg (by omega)]; rfl, h2⟩]
    rfl
/-- How many digits lead a line; ten at most count. -/
def refK (x : Bs) : Nat := ((x.take 10).takeWhile isD).length
theorem refK_le (x : Bs) : refK x ≤ x.length ∧ refK x ≤ 10 := by
  have := (List.takeWhile_sublist (l := x.take 10) isD).length_le
  rw [List.length_take] at this
  unfold refK; omega
theorem tw_lt {p : UInt8 → Bool} : ∀ (l : Bs) (j : Nat) (_ : j < (l.takeWhile p).length) (h2 : j < l.length), p l[j] = true := by
  intro l
  induction l with
  | nil => intro j h; simp at h
  | cons c l ih =>
    intro j h h2
    by_cases hc : p c = true
    · simp only [List.takeWhile_cons, hc, if_true, List.length_cons] at h
      cases j with
      | zero => exact hc
      | succ j => exact ih j (by omega) (by simpa using h2)
    · simp [hc] at h
theorem tw_at {p : UInt8 → Bool} : ∀ (l : Bs) (h : (l.takeWhile p).length < l.length), p l[(l.takeWhile p).length] = false := by
  intro l
  induction l with
  | nil => intro h; simp at h
  | cons c l ih =>
    intro h
    by_cases hc : p c = true
    · have e : ((c :: l).takeWhile p).length = (l.takeWhile p).length + 1 := by simp [hc]
      simp only [e] at h ⊢
      simpa using ih (by simpa using h)
    · have e : ((c :: l).takeWhile p).length = 0 := by simp [hc]
      simp only [e]
      simpa using hc
theorem refK_lt (x : Bs) (j : Nat) (h : j < refK x) (h2 : j < x.length) : isD x[j] = true := by
  have hk := refK_le x
  have := tw_lt (p := isD) (x.take 10) j h (by rw [List.length_take]; omega)
  simpa using this
theorem refK_at (x : Bs) (h : refK x < x.length) (h2 : refK x < 10) : isD x[refK x] = false := by
  have := tw_at (p := isD) (x.take 10) (by rw [List.length_take]; unfold refK at h h2; omega)
  simpa [refK] using this
theorem refK_take (x : Bs) : (x.take (refK x)).all isD = true := by
  rw [List.all_eq_true]
  intro c hc
  obtain ⟨i, hi, rfl⟩ := List.mem_take_iff_getElem.1 hc
  exact refK_lt x i (by omega) (by omega)
theorem refK_line (n : Nat) (t : Bs) (h : n ≤ 1073741824) : refK (Lib.decDigits n ++ 32 :: t) = (Lib.decDigits n).length := by
  have hl := dec_len 9 n (by omega)
  have ha := dec_all n
  obtain ⟨D, hD⟩ : ∃ D, Lib.decDigits n = D := ⟨_, rfl⟩
  rw [hD] at hl ha ⊢
  have e : (D ++ 32 :: t).take 10 = D ++ (32 :: t).take (10 - D.length) := by
    rw [List.take_append, List.take_of_length_le (by omega)]
  unfold refK
  rw [e, List.takeWhile_append_of_pos (fun c hc => List.all_eq_true.1 ha c hc)]
  have : ((32 :: t).take (10 - D.length)).takeWhile isD = [] := by
    rcases Nat.eq_zero_or_pos (10 - D.length) with h0 | h0
    · rw [h0]; rfl
    · obtain ⟨m, hm⟩ : ∃ m, 10 - D.length = m + 1 := ⟨10 - D.length - 1, by omega⟩
      rw [hm]
      simp [isD]
  rw [this]; simp
/-- A line, by its digits. -/
theorem line_ref (x : Bs) : lineV x = if refK x ≠ 0 ∧ x[refK x]? = some 32 ∧ valD (x.take (refK x)) ≤ 1073741824 ∧ Lib.decDigits (valD (x.take (refK x))) = x.take (refK x) ∧ tok (x.drop (refK x + 1)) = true
    then some (valD (x.take (refK x)), x.drop (refK x + 1)) else none := by
  split
  · rename_i hc
    obtain ⟨h1, h2, h3, h4, h5⟩ := hc
    refine (lineV_some _ _ _).2 ⟨h3, h5, ?_⟩
    obtain ⟨hl, he⟩ := List.getElem?_eq_some_iff.1 h2
    rw [h4]
    conv => lhs; rw [← List.take_append_drop (refK x) x, List.drop_eq_getElem_cons hl, he]
  · rename_i hc
    cases hv : lineV x with
    | none => rfl
    | some e =>
      exfalso
      apply hc
      obtain ⟨n, t⟩ := e
      obtain ⟨h1, h2, rfl⟩ := (lineV_some _ _ _).1 hv
      have hk := refK_line n t h1
      have hp := dec_pos n
      have hd := dec_val n
      rw [hk]
      refine ⟨by omega, by simp, ?_, ?_, ?_⟩
      · rw [List.take_left, hd]; exact h1
      · rw [List.take_left, hd]
      · have : (Lib.decDigits n ++ 32 :: t).drop ((Lib.decDigits n).length + 1) = t := by
          rw [List.drop_append, List.drop_eq_nil_of_le (by omega)]; simp
        rw [this]; exact h2
/-! the text -/
/-- What stands ahead of the first newline. -/
def bodyOf (r : Bs) : Bs := r.takeWhile (· != 10)
def qOf (r : Bs) : Nat := (bodyOf r).length
theorem body_no (r : Bs) : (10 : UInt8) ∉ bodyOf r := by
  unfold bodyOf
  induction r with
  | nil => simp
  | cons c r ih =>
    by_cases hc : c = 10
    · subst hc; simp
    · simp only [List.takeWhile_cons, bne_iff_ne.2 hc, if_true, List.mem_cons, not_or]
      exact ⟨fun e => hc e.symm, ih⟩
theorem body_take (r : Bs) : r.take (qOf r) = bodyOf r := by
  unfold qOf bodyOf
  induction r with
  | nil => rfl
  | cons c r ih =>
    by_cases hc : c = 10
    · subst hc; simp
    · simp only [List.takeWhile_cons, bne_iff_ne.2 hc, if_true, List.length_cons, List.take_succ_cons]
      rw [ih]
theorem q_le (r : Bs) : qOf r ≤ r.length := by
  have := body_take r
  have h := congrArg List.length this
  rw [List.length_take] at h
  unfold qOf at *; omega
theorem q_at (r : Bs) (h : qOf r < r.length) : r[qOf r] = 10 := by
  induction r with
  | nil => simp at h
  | cons c r ih =>
    by_cases hc : c = 10
    · subst hc; rfl
    · have e : qOf (c :: r) = qOf r + 1 := by simp [qOf, bodyOf, hc]
      simp only [e] at h ⊢
      simpa using ih (by simpa using h)
theorem q_ne (r : Bs) (j : Nat) (h : j < qOf r) (hl : j < r.length) : r[j] ≠ 10 := by
  have e : r[j] ∈ bodyOf r := by
    rw [← body_take, List.mem_take_iff_getElem]
    exact ⟨j, by omega, rfl⟩
  intro hc
  rw [hc] at e
  exact body_no r e
theorem body_split (r : Bs) (h : qOf r < r.length) : r = bodyOf r ++ 10 :: r.drop (qOf r + 1) := by
  conv => lhs; rw [← List.take_append_drop (qOf r) r, body_take, List.drop_eq_getElem_cons h, q_at r h]
theorem body_whole (r : Bs) (h : qOf r = r.length) : bodyOf r = r ∧ (10 : UInt8) ∉ r := by
  have e : bodyOf r = r := by rw [← body_take, h, List.take_length]
  exact ⟨e, by rw [← e]; exact body_no r⟩
theorem cut_nl (r : Bs) : Lib.cut r [10] = (bodyOf r, r.drop (qOf r + 1), decide (qOf r < r.length)) := by
  by_cases h : qOf r < r.length
  · conv => lhs; rw [body_split r h, cut_at 10 _ _ (body_no r)]
    rw [decide_eq_true h]
  · have hq : qOf r = r.length := by have := q_le r; omega
    obtain ⟨h1, h2⟩ := body_whole r hq
    rw [cut_none 10 r h2, h1, decide_eq_false h, List.drop_eq_nil_of_le (by omega)]
theorem body_line (x t : Bs) (h : (10 : UInt8) ∉ x) : bodyOf (x ++ 10 :: t) = x ∧ qOf (x ++ 10 :: t) = x.length := by
  have e : bodyOf (x ++ 10 :: t) = x := by
    unfold bodyOf
    rw [List.takeWhile_append_of_pos (fun c hc => by rw [bne_iff_ne]; rintro rfl; exact h hc)]
    simp
  exact ⟨e, by unfold qOf; rw [e]⟩
def lastI (acc : List En) : Nat := (acc.getLast?.map Prod.fst).getD 0
theorem lastI_at (l : List En) (k : Nat) (h : l.length = k + 1) : lastI l = l[k].1 := by
  unfold lastI
  rw [List.getLast?_eq_getElem?, show l.length - 1 = k by omega, List.getElem?_eq_getElem (by omega)]
  rfl
def hasT (acc : List En) (t : Bs) : Bool := acc.any fun e => e.2 == t
/-- What a text goes on to give, these entries being read. -/
def goV (r : Bs) (acc : List En) : List En × Nat × Nat :=
  if _ : r = [] then (acc, 0, 0)
  else if 4096 ≤ acc.length then ([], acc.length + 1, 6)
  else if _ : qOf r = r.length then ([], acc.length + 1, 2)
  else match lineV (bodyOf r) with
    | none => ([], acc.length + 1, 2)
    | some x =>
      if 0 < acc.length ∧ x.1 ≤ lastI acc then ([], acc.length + 1, 12)
      else if hasT acc x.2 = true then ([], acc.length + 1, 10)
      else goV (r.drop (qOf r + 1)) (acc ++ [x])
termination_by r.length
decreasing_by
  have : 0 < r.length := List.length_pos_iff.2 ‹_›
  rw [List.length_drop]; omega
def parseV (s : Bs) : List En × Nat × Nat := if 262144 < s.length then ([], 0, 6) else goV s []
theorem goV_nil (acc : List En) : goV [] acc = (acc, 0, 0) := by rw [goV]; simp
theorem goV_long (r : Bs) (acc : List En) (h0 : r ≠ []) (h : 4096 ≤ acc.length) : goV r acc = ([], acc.length + 1, 6) := by rw [goV, dif_neg h0, if_pos h]
theorem goV_open (r : Bs) (acc : List En) (h0 : r ≠ []) (h : acc.length < 4096) (hq : qOf r = r.length) : goV r acc = ([], acc.length + 1, 2) := by rw [goV, dif_neg h0, if_neg (by omega), dif_pos hq]
theorem goV_form (r : Bs) (acc : List En) (h0 : r ≠ []) (h : acc.length < 4096) (hv : lineV (bodyOf r) = none) : goV r acc = ([], acc.length + 1, 2) := by
  rw [goV, dif_neg h0, if_neg (by omega)]
  split
  · rfl
  · rw [hv]
theorem goV_order (r : Bs) (acc : List En) (x : En) (h : acc.length < 4096) (hq : qOf r < r.length) (hv : lineV (bodyOf r) = some x) (h1 : 0 < acc.length) (h2 : x.1 ≤ lastI acc) : goV r acc = ([], acc.length + 1, 12) := by
  rw [goV, dif_neg (by rintro rfl; simp at hq), if_neg (by omega), dif_neg (by omega), hv]
  simp only
  rw [if_pos ⟨h1, h2⟩]
theorem goV_known (r : Bs) (acc : List En) (x : En) (h : acc.length < 4096) (hq : qOf r < r.length) (hv : lineV (bodyOf r) = some x) (h1 : 0 < acc.length → ¬ x.1 ≤ lastI acc) (h2 : hasT acc x.2 = true) : goV r acc = ([], acc.length + 1, 10) := by
  rw [goV, dif_neg (by rintro rfl; simp at hq), if_neg (by omega), dif_neg (by omega), hv]
  simp only
  rw [if_neg (fun h => h1 h.1 h.2), if_pos h2]
theorem goV_next (r : Bs) (acc : List En) (x : En) (h : acc.length < 4096) (hq : qOf r < r.length) (hv : lineV (bodyOf r) = some x) (h1 : 0 < acc.length → ¬ x.1 ≤ lastI acc) (h2 : hasT acc x.2 = false) : goV r acc = goV (r.drop (qOf r + 1)) (acc ++ [x]) := by
  conv => lhs; rw [goV, dif_neg (by rintro rfl; simp at hq), if_neg (by omega), dif_neg (by omega), hv]
  simp only
  rw [if_neg (fun h => h1 h.1 h.2), if_neg (by simp [h2])]
end Go.Proofs.YtejokbfejkkpmaaDoor
