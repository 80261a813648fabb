/- Splitting a word by rounds, and by a heap of spots: what each keeps. Lists alone, no program. -/
import Derived.Test.YtejokbfejkkpmaaDoorHp
namespace Go.Proofs.YtejokbfejkkpmaaDoor
abbrev Tx := List UInt8
/-- Where part i begins. -/
def off : List Tx → Nat → Nat
  | _, 0 => 0
  | [], _ => 0
  | x :: P, i + 1 => x.length + off P i
theorem off_nil (i : Nat) : off [] i = 0 := by cases i <;> rfl
theorem off_zero (P : List Tx) : off P 0 = 0 := by cases P <;> rfl
theorem off_succ (P : List Tx) : ∀ (i : Nat) (x : Tx), P[i]? = some x → off P (i + 1) = off P i + x.length := by
  induction P with
  | nil => intro i x h; simp at h
  | cons a P ih =>
    intro i x h
    cases i with
    | zero => simp at h; subst h; simp [off, off_zero]
    | succ i => simp at h; have := ih i x h; simp only [off] at this ⊢; omega
theorem off_past (P : List Tx) : ∀ i, P.length ≤ i → off P i = off P P.length := by
  induction P with
  | nil => intro i _; rw [off_nil, off_nil]
  | cons a P ih =>
    intro i h
    cases i with
    | zero => simp at h
    | succ i => simp only [List.length_cons, off] at h ⊢; rw [ih i (by omega)]
def NE (P : List Tx) : Prop := ∀ t ∈ P, t ≠ []
theorem NE.pos {P : List Tx} (h : NE P) {i : Nat} {x : Tx} (hx : P[i]? = some x) : 0 < x.length := by
  have := h x (List.mem_of_getElem? hx)
  cases x with
  | nil => exact absurd rfl this
  | cons => simp
theorem off_lt {P : List Tx} (h : NE P) {i : Nat} (hi : i < P.length) : off P i < off P (i + 1) := by
  have hx : P[i]? = some P[i] := by simp [hi]
  rw [off_succ P i _ hx]; have := h.pos hx; omega
theorem off_mono {P : List Tx} (h : NE P) : ∀ {i j : Nat}, i < j → j ≤ P.length → off P i < off P j := by
  intro i j hij hj
  induction j with
  | zero => omega
  | succ j ih =>
    have h1 := off_lt h (i := j) (by omega)
    rcases Nat.lt_or_ge i j with h2 | h2
    · have := ih h2 (by omega); omega
    · have : i = j := by omega
      subst this; exact h1
theorem off_le {P : List Tx} (h : NE P) {i j : Nat} (hij : i ≤ j) (hj : j ≤ P.length) : off P i ≤ off P j := by
  rcases Nat.lt_or_ge i j with h2 | h2
  · exact Nat.le_of_lt (off_mono h h2 hj)
  · have : i = j := by omega
    subst this; exact Nat.le_refl _
theorem off_inj {P : List Tx} (h : NE P) {i j : Nat} (hi : i ≤ P.length) (hj : j ≤ P.length) (e : off P i = off P j) : i = j := by
  rcases Nat.lt_trichotomy i j with h1 | h1 | h1
  · have := off_mono h h1 hj; omega
  · exact h1
  · have := off_mono h h1 hi; omega
/-- The parts by places. -/
def partsOf : List Tx → List Tx
  | [] => []
  | x :: P => x :: (List.replicate (x.length - 1) [] ++ partsOf P)
theorem partsOf_length {P : List Tx} (h : NE P) : (partsOf P).length = off P P.length := by
  induction P with
  | nil => rfl
  | cons a P ih =>
    have h1 : 0 < a.length := h.pos (i := 0) (x := a) rfl
    have h2 := ih (fun t ht => h t (List.mem_cons_of_mem _ ht))
    simp only [partsOf, List.length_cons, List.length_append, List.length_replicate, off, h2]; omega
theorem partsOf_filter {P : List Tx} (h : NE P) : (partsOf P).filter (fun t => !t.isEmpty) = P := by
  induction P with
  | nil => rfl
  | cons a P ih =>
    have h1 := h a List.mem_cons_self
    have h2 := ih (fun t ht => h t (List.mem_cons_of_mem _ ht))
    have h3 : (!a.isEmpty) = true := by cases a <;> simp_all
    have h4 : (List.replicate (a.length - 1) ([] : Tx)).filter (fun t => !t.isEmpty) = [] := by
      rw [List.filter_eq_nil_iff]; intro x hx; rw [(List.mem_replicate.1 hx).2]; simp
    simp only [partsOf, List.filter_cons, h3, if_true, List.filter_append, h4, List.nil_append, h2]
theorem partsOf_at {P : List Tx} (h : NE P) : ∀ (i : Nat) (x : Tx), P[i]? = some x → (partsOf P)[off P i]? = some x := by
  induction P with
  | nil => intro i x hx; simp at hx
  | cons a P ih =>
    intro i x hx
    have h1 : 0 < a.length := h.pos (i := 0) (x := a) rfl
    cases i with
    | zero => simp at hx; subst hx; simp [partsOf, off]
    | succ i =>
      simp at hx
      have := ih (fun t ht => h t (List.mem_cons_of_mem _ ht)) i x hx
      simp only [partsOf, off]
      rw [show a.length + off P i = ((a.length - 1) + off P i) + 1 by omega, List.getElem?_cons_succ, List.getElem?_append_right (by simp), List.length_replicate, Nat.add_sub_cancel_left]
      exact this
theorem partsOf_live {P : List Tx} (h : NE P) : ∀ (p : Nat) (a : Tx), (partsOf P)[p]? = some a → a ≠ [] → ∃ i, P[i]? = some a ∧ off P i = p := by
  induction P with
  | nil => intro p a hp; simp [partsOf] at hp
  | cons b P ih =>
    intro p a hp ha
    have h1 : 0 < b.length := h.pos (i := 0) (x := b) rfl
    cases p with
    | zero => simp [partsOf] at hp; exact ⟨0, by simp [hp], rfl⟩
    | succ p =>
      simp only [partsOf, List.getElem?_cons_succ] at hp
      rcases Nat.lt_or_ge p (b.length - 1) with hlt | hge
      · rw [List.getElem?_append_left (by simpa using hlt), List.getElem?_replicate, if_pos hlt] at hp
        simp at hp; exact (ha hp).elim
      · rw [List.getElem?_append_right (by simpa using hge), List.length_replicate] at hp
        obtain ⟨i, hi, ho⟩ := ih (fun t ht => h t (List.mem_cons_of_mem _ ht)) _ _ hp ha
        exact ⟨i + 1, by simpa using hi, by simp only [off, ho]; omega⟩
/-- Parts j and the next one, merged. -/
def mergeAt : List Tx → Nat → List Tx
  | x :: y :: P, 0 => (x ++ y) :: P
  | x :: P, j + 1 => x :: mergeAt P j
  | P, _ => P
theorem mergeAt_at (P : List Tx) : ∀ (j i : Nat) (x y : Tx), P[j]? = some x → P[j + 1]? = some y → (mergeAt P j)[i]? = if i < j then P[i]? else if i = j then some (x ++ y) else P[i + 1]? := by
  induction P with
  | nil => intro j i x y h; simp at h
  | cons a P ih =>
    intro j i x y hx hy
    cases j with
    | zero =>
      cases P with
      | nil => simp at hy
      | cons b P =>
        simp at hx hy; subst hx; subst hy
        cases i <;> simp [mergeAt]
    | succ j =>
      simp at hx hy
      cases i with
      | zero => simp [mergeAt]
      | succ i =>
        have := ih j i x y hx hy
        simp only [mergeAt, List.getElem?_cons_succ, this]
        by_cases h1 : i < j
        · simp [h1]
        · by_cases h2 : i = j
          · simp [h2]
          · simp [h1, h2]
theorem mergeAt_length (P : List Tx) : ∀ (j : Nat) (y : Tx), P[j + 1]? = some y → (mergeAt P j).length + 1 = P.length := by
  induction P with
  | nil => intro j y h; simp at h
  | cons a P ih =>
    intro j y hy
    cases j with
    | zero =>
      cases P with
      | nil => simp at hy
      | cons b P => simp [mergeAt]
    | succ j => simp at hy; have := ih j y hy; simp [mergeAt]; omega
theorem mergeAt_off (P : List Tx) : ∀ (j i : Nat) (x y : Tx), P[j]? = some x → P[j + 1]? = some y → off (mergeAt P j) i = if i ≤ j then off P i else off P (i + 1) := by
  induction P with
  | nil => intro j i x y h; simp at h
  | cons a P ih =>
    intro j i x y hx hy
    cases j with
    | zero =>
      cases P with
      | nil => simp at hy
      | cons b P =>
        cases i with
        | zero => simp [off_zero]
        | succ i => simp only [mergeAt, off, List.length_append]; rw [if_neg (by omega)]; omega
    | succ j =>
      simp at hx hy
      cases i with
      | zero => simp [off_zero]
      | succ i =>
        have := ih j i x y hx hy
        simp only [mergeAt, off, this]
        by_cases h1 : i ≤ j
        · rw [if_pos h1, if_pos (by omega)]
        · rw [if_neg h1, if_neg (by omega)]
theorem mergeAt_ne {P : List Tx} (h : NE P) (j : Nat) (x y : Tx) (hx : P[j]? = some x) (hy : P[j + 1]? = some y) : NE (mergeAt P j) := by
  intro t ht
  obtain ⟨i, hi⟩ := List.mem_iff_getElem?.1 ht
  rw [mergeAt_at P j i x y hx hy] at hi
  split at hi
  · exact h t (List.mem_of_getElem? hi)
  · split at hi
    · simp at hi; subst hi
      have := h x (List.mem_of_getElem? hx)
      simp [this]
    · exact h t (List.mem_of_getElem? hi)
theorem mergeAt_flat (P : List Tx) : ∀ (j : Nat), (mergeAt P j).flatten = P.flatten := by
  induction P with
  | nil => intro j; rfl
  | cons a P ih =>
    intro j
    cases j with
    | zero => cases P <;> simp [mergeAt]
    | succ j => simp [mergeAt, ih]
theorem partsOf_merge {P : List Tx} (h : NE P) : ∀ (j : Nat) (x y : Tx), P[j]? = some x → P[j + 1]? = some y → ((partsOf P).set (off P j) (x ++ y)).set (off P (j + 1)) [] = partsOf (mergeAt P j) := by
  induction P with
  | nil => intro j x y hx; simp at hx
  | cons a P ih =>
    intro j x y hx hy
    have h1 : 0 < a.length := h.pos (i := 0) (x := a) rfl
    cases j with
    | zero =>
      cases P with
      | nil => simp at hy
      | cons b P =>
        have h2 : 0 < b.length := h.pos (i := 1) (x := b) rfl
        simp at hx hy; subst hx; subst hy
        simp only [partsOf, off, mergeAt, List.set_cons_zero]
        rw [show a.length + 0 = (a.length - 1) + 1 by omega, List.set_cons_succ, List.set_append_right _ _ (by simp), List.length_replicate, Nat.sub_self, List.set_cons_zero]
        rw [List.length_append, show a.length + b.length - 1 = (a.length - 1) + ((b.length - 1) + 1) by omega, ← List.replicate_append_replicate, List.replicate_succ]
        simp
    | succ j =>
      simp at hx hy
      have := ih (fun t ht => h t (List.mem_cons_of_mem _ ht)) j x y hx hy
      simp only [partsOf, off, mergeAt]
      rw [show a.length + off P j = ((a.length - 1) + off P j) + 1 by omega, show a.length + off P (j + 1) = ((a.length - 1) + off P (j + 1)) + 1 by omega, List.set_cons_succ, List.set_cons_succ,
        List.set_append_right _ _ (by simp), List.set_append_right _ _ (by simp), List.length_replicate, Nat.add_sub_cancel_left, Nat.add_sub_cancel_left, this]
/-- One round of the document's: each pair A, B merged, from the left. -/
def scan (A B : Tx) : List Tx → List Tx
  | x :: y :: P => if x = A ∧ y = B then (x ++ y) :: scan A B P else x :: scan A B (y :: P)
  | P => P
theorem scan_none (A B : Tx) (P : List Tx) (h : ∀ i, ¬ (P[i]? = some A ∧ P[i + 1]? = some B)) : scan A B P = P := by
  induction P with
  | nil => simp [scan]
  | cons a P ih =>
    cases P with
    | nil => simp [scan]
    | cons b P =>
      have h0 := h 0
      simp at h0
      rw [scan, if_neg (by rintro ⟨rfl, rfl⟩; exact h0 rfl rfl), ih (fun i => by have := h (i + 1); simpa using this)]
theorem scan_first (A B : Tx) (T : List Tx) : ∀ (k : Nat), T[k]? = some A → T[k + 1]? = some B → (∀ i, i < k → ¬ (T[i]? = some A ∧ T[i + 1]? = some B)) → scan A B T = T.take k ++ (A ++ B) :: scan A B (T.drop (k + 2)) := by
  induction T with
  | nil => intro k h; simp at h
  | cons a T ih =>
    intro k hA hB hno
    cases T with
    | nil => simp at hB
    | cons b T =>
      cases k with
      | zero => simp at hA hB; subst hA; subst hB; simp [scan]
      | succ k =>
        have h0 := hno 0 (by omega)
        simp at h0
        simp only [List.getElem?_cons_succ] at hA hB
        have := ih k (by simpa using hA) (by simpa using hB) (fun i hi => by have := hno (i + 1) (by omega); simpa using this)
        rw [scan, if_neg (by rintro ⟨rfl, rfl⟩; exact h0 rfl rfl), this]; simp
end Go.Proofs.YtejokbfejkkpmaaDoor
