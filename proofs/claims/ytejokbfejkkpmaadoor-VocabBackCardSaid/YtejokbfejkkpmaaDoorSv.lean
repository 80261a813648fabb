/- The rounds of splitting: the heap's spots against the document's rounds. Lists alone, no program. -/
import Derived.Test.YtejokbfejkkpmaaDoorSl
namespace Go.Proofs.YtejokbfejkkpmaaDoor
def IsBest (f : Tx × Tx → Option Nat) (P : List Tx) (r : Nat) : Prop :=
  (∃ i x y, P[i]? = some x ∧ P[i + 1]? = some y ∧ f (x, y) = some r) ∧ ∀ i x y r', P[i]? = some x → P[i + 1]? = some y → f (x, y) = some r' → r ≤ r'
/-- Round by round, to the end. -/
inductive Fin2 (f : Tx × Tx → Option Nat) : List Tx → List Tx → Prop
  | done {P : List Tx} (h : ∀ i x y, P[i]? = some x → P[i + 1]? = some y → f (x, y) = none) : Fin2 f P P
  | step {P Q : List Tx} (r : Nat) (A B : Tx) (hb : IsBest f P r) (hf : f (A, B) = some r) (h : Fin2 f (scan A B P) Q) : Fin2 f P Q
theorem Fin2.unique {f : Tx × Tx → Option Nat} (inj : ∀ p q r, f p = some r → f q = some r → p = q) {P Q : List Tx} (h : Fin2 f P Q) : ∀ {Q' : List Tx}, Fin2 f P Q' → Q = Q' := by
  induction h with
  | done h =>
    intro Q' k
    cases k with
    | done => rfl
    | step r A B hb hf k =>
      obtain ⟨⟨i, x, y, hx, hy, hr⟩, _⟩ := hb
      rw [h i x y hx hy] at hr; cases hr
  | step r A B hb hf h ih =>
    intro Q' k
    cases k with
    | done h' =>
      obtain ⟨⟨i, x, y, hx, hy, hr⟩, _⟩ := hb
      rw [h' i x y hx hy] at hr; cases hr
    | step r' A' B' hb' hf' k =>
      obtain ⟨⟨i, x, y, hx, hy, hr⟩, hm⟩ := hb
      obtain ⟨⟨i', x', y', hx', hy', hr'⟩, hm'⟩ := hb'
      have : r = r' := Nat.le_antisymm (hm _ _ _ _ hx' hy' hr') (hm' _ _ _ _ hx hy hr)
      subst this
      have := inj _ _ _ hf hf'
      injection this with e1 e2
      subst e1; subst e2
      exact ih k
def okSp (f : Tx × Tx → Option Nat) (n : Nat) (s : Sp) : Prop := s.a ≠ [] ∧ s.b ≠ [] ∧ f (s.a, s.b) = some s.rank ∧ s.place < n
/-- In the midst of a round: P's first d parts are done. -/
structure RI (f : Tx × Tx → Option Nat) (n : Nat) (P0 P : List Tx) (S : List Sp) (M : List Nat) (d rank : Nat) (A B : Tx) : Prop where
  ne : NE P
  tot : off P P.length = n
  hd : d ≤ P.length
  hf : f (A, B) = some rank
  hA : A ≠ []
  hB : B ≠ []
  sc : scan A B P0 = P.take d ++ scan A B (P.drop d)
  noAB : ∀ i, i < d → ¬ (P[i]? = some A ∧ P[i + 1]? = some B)
  okS : ∀ s ∈ S, okSp f n s ∧ rank ≤ s.rank
  cov : ∀ i x y r, P[i]? = some x → P[i + 1]? = some y → f (x, y) = some r → (⟨r, off P i, x, y⟩ : Sp) ∈ S ∨ off P i ∈ M ∨ off P (i + 1) ∈ M
  covT : ∀ i, d ≤ i → P[i]? = some A → P[i + 1]? = some B → (⟨rank, off P i, A, B⟩ : Sp) ∈ S
  liv : ∀ m ∈ M, ∃ i, i < d ∧ i < P.length ∧ off P i = m
/-- Between rounds. -/
structure MI (f : Tx × Tx → Option Nat) (n : Nat) (P : List Tx) (S : List Sp) (M : List Nat) : Prop where
  ne : NE P
  tot : off P P.length = n
  okS : ∀ s ∈ S, okSp f n s
  cov : ∀ i x y r, P[i]? = some x → P[i + 1]? = some y → f (x, y) = some r → (⟨r, off P i, x, y⟩ : Sp) ∈ S ∨ off P i ∈ M ∨ off P (i + 1) ∈ M
  liv : ∀ m ∈ M, ∃ i, i < P.length ∧ off P i = m
section
variable {f : Tx × Tx → Option Nat} (inj : ∀ p q r, f p = some r → f q = some r → p = q) {n : Nat} {P0 P : List Tx} {S S' : List Sp} {M : List Nat} {d rank : Nat} {A B : Tx} {s : Sp}
theorem MI.start (h : MI f n P S []) (hs : s ∈ S) (hm : ∀ t ∈ S, leS s t) : RI f n P P S [] 0 s.rank s.a s.b := by
  obtain ⟨ha, hb, hf, _⟩ := h.okS s hs
  refine ⟨h.ne, h.tot, Nat.zero_le _, hf, ha, hb, by simp, fun i hi => absurd hi (by omega), fun t ht => ⟨h.okS t ht, ?_⟩, h.cov, fun i _ hx hy => ?_, fun m hm => by cases hm⟩
  · have := hm t ht; unfold leS at this; omega
  · rcases h.cov i _ _ _ hx hy hf with h1 | h1 | h1
    · exact h1
    · cases h1
    · cases h1
theorem MI.fin (h : MI f n P S []) (hs : s ∈ S) (hm : ∀ t ∈ S, leS s t) {Q : List Tx} (k : Fin2 f (scan s.a s.b P) Q) : Fin2 f P Q := by
  obtain ⟨ha, hb, hf, _⟩ := h.okS s hs
  by_cases hx : ∃ i, P[i]? = some s.a ∧ P[i + 1]? = some s.b
  · obtain ⟨i, h1, h2⟩ := hx
    refine .step s.rank s.a s.b ⟨⟨i, _, _, h1, h2, hf⟩, fun i x y r hx hy hr => ?_⟩ hf k
    rcases h.cov i _ _ _ hx hy hr with h1 | h1 | h1
    · have := hm _ h1; unfold leS at this; simp only at this; omega
    · cases h1
    · cases h1
  · rw [scan_none _ _ _ (fun i hi => hx ⟨i, hi⟩)] at k; exact k
theorem MI.last (h : MI f n P [] []) : Fin2 f P P := by
  refine .done fun i x y hx hy => ?_
  cases hr : f (x, y) with
  | none => rfl
  | some r => rcases h.cov i x y r hx hy hr with h1 | h1 | h1 <;> cases h1
theorem RI.stale (h : RI f n P0 P S M d rank A B) (hp : S.Perm (s :: S')) (hst : ∀ i, P[i]? = some s.a → P[i + 1]? = some s.b → off P i ≠ s.place) : RI f n P0 P S' M d rank A B := by
  have hmem : ∀ t, t ∈ S → t ≠ s → t ∈ S' := fun t ht hne => by
    rcases List.mem_cons.1 (hp.mem_iff.1 ht) with h1 | h1
    · exact absurd h1 hne
    · exact h1
  refine ⟨h.ne, h.tot, h.hd, h.hf, h.hA, h.hB, h.sc, h.noAB, fun t ht => h.okS t (hp.mem_iff.2 (List.mem_cons_of_mem _ ht)), fun i x y r hx hy hr => ?_, fun i hi hx hy => ?_, h.liv⟩
  · rcases h.cov i x y r hx hy hr with h1 | h1
    · exact .inl (hmem _ h1 (by rintro rfl; exact hst i hx hy rfl))
    · exact .inr h1
  · exact hmem _ (h.covT i hi hx hy) (by rintro rfl; exact hst i hx hy rfl)
theorem mergeAt_eq (P : List Tx) : ∀ (j : Nat) (x y : Tx), P[j]? = some x → P[j + 1]? = some y → mergeAt P j = P.take j ++ (x ++ y) :: P.drop (j + 2) := by
  induction P with
  | nil => intro j x y h; simp at h
  | cons a P ih =>
    intro j x y hx hy
    cases j with
    | zero =>
      cases P with
      | nil => simp at hy
      | cons b P => simp at hx hy; subst hx; subst hy; simp [mergeAt]
    | succ j => simp at hx hy; have := ih j x y hx hy; simp [mergeAt, this]
include inj in
theorem RI.fresh (h : RI f n P0 P S M d rank A B) (hp : S.Perm (s :: S')) (hr : s.rank = rank) (hm : ∀ t ∈ S, leS s t) {j : Nat} (hx : P[j]? = some s.a) (hy : P[j + 1]? = some s.b) (ho : off P j = s.place) :
    RI f n P0 (mergeAt P j) S' (M ++ [s.place]) (j + 1) rank A B ∧ d ≤ j := by
  have hs : s ∈ S := hp.mem_iff.2 List.mem_cons_self
  obtain ⟨⟨_, _, hsf, _⟩, _⟩ := h.okS s hs
  rw [hr] at hsf
  have hab := inj _ _ _ hsf h.hf
  injection hab with ea eb
  rw [ea] at hx
  rw [eb] at hy
  have hjl : j + 1 < P.length := by
    rcases Nat.lt_or_ge (j + 1) P.length with h1 | h1
    · exact h1
    · rw [List.getElem?_eq_none h1] at hy; cases hy
  have hdj : d ≤ j := by
    rcases Nat.lt_or_ge j d with h1 | h1
    · exact absurd ⟨hx, hy⟩ (h.noAB j h1)
    · exact h1
  have hmem : ∀ t, t ∈ S → t.place ≠ s.place → t ∈ S' := fun t ht hne => by
    rcases List.mem_cons.1 (hp.mem_iff.1 ht) with h1 | h1
    · exact absurd (by rw [h1]) hne
    · exact h1
  have hno : ∀ i, d ≤ i → i < j → ¬ (P[i]? = some A ∧ P[i + 1]? = some B) := fun i h1 h2 hAB => by
    have := hm _ (h.covT i h1 hAB.1 hAB.2)
    unfold leS at this
    have := off_mono h.ne h2 (by omega)
    simp only at *
    omega
  have hne' := mergeAt_ne h.ne j A B hx hy
  have hlen := mergeAt_length P j B hy
  have hat := fun i => mergeAt_at P j i A B hx hy
  have hof := fun i => mergeAt_off P j i A B hx hy
  have hAp : 0 < A.length := List.length_pos_iff.2 h.hA
  have hBp : 0 < B.length := List.length_pos_iff.2 h.hB
  refine ⟨⟨hne', ?_, by omega, h.hf, h.hA, h.hB, ?_, ?_, fun t ht => h.okS t (hp.mem_iff.2 (List.mem_cons_of_mem _ ht)), ?_, ?_, ?_⟩, hdj⟩
  · rw [hof, if_neg (by omega), hlen]; exact h.tot
  · rw [h.sc, scan_first A B (P.drop d) (j - d) (by rw [List.getElem?_drop, show d + (j - d) = j by omega]; exact hx) (by rw [List.getElem?_drop, show d + (j - d + 1) = j + 1 by omega]; exact hy)
      (fun i hi => by rw [List.getElem?_drop, List.getElem?_drop, ← Nat.add_assoc]; exact hno (d + i) (by omega) (by omega))]
    rw [mergeAt_eq P j A B hx hy]
    have e1 : (P.take j).length = j := by rw [List.length_take]; omega
    rw [List.take_append, List.drop_append, e1, Nat.add_sub_cancel_left, List.take_of_length_le (l := P.take j) (by omega), List.drop_eq_nil_of_le (as := P.take j) (by omega)]
    rw [List.drop_drop, show d + (j - d + 2) = j + 2 by omega]
    have e2 : P.take j = P.take d ++ (P.drop d).take (j - d) := by
      rw [show j = d + (j - d) by omega, List.take_add, show d + (j - d) - d = j - d by omega]
    rw [e2]; simp
  · intro i hi
    rw [hat, hat]
    by_cases h1 : i < j
    · rw [if_pos h1]
      by_cases h2 : i + 1 < j
      · rw [if_pos h2]
        rcases Nat.lt_or_ge i d with h3 | h3
        · exact h.noAB i h3
        · exact hno i h3 h1
      · rw [if_neg h2, if_pos (by omega)]
        rintro ⟨_, h4⟩
        have := congrArg List.length (Option.some.inj h4)
        rw [List.length_append] at this; omega
    · rw [if_neg h1, if_pos (by omega)]
      rintro ⟨h4, _⟩
      have := congrArg List.length (Option.some.inj h4)
      rw [List.length_append] at this; omega
  · intro i x y r hx' hy' hf'
    rw [hat] at hx' hy'
    by_cases h1 : i < j
    · rw [if_pos h1] at hx'
      by_cases h2 : i + 1 < j
      · rw [if_pos h2] at hy'
        rw [hof, hof, if_pos (by omega), if_pos (by omega)]
        rcases h.cov i x y r hx' hy' hf' with h3 | h3 | h3
        · refine .inl (hmem _ h3 ?_)
          have := off_mono h.ne h1 (by omega)
          simp only; omega
        · exact .inr (.inl (List.mem_append_left _ h3))
        · exact .inr (.inr (List.mem_append_left _ h3))
      · have e : i + 1 = j := by omega
        refine .inr (.inr ?_)
        rw [hof, if_pos (by omega), e, ho]; simp
    · rw [if_neg h1] at hx'
      by_cases h2 : i = j
      · refine .inr (.inl ?_)
        rw [hof, if_pos (by omega), h2, ho]; simp
      · rw [if_neg h2] at hx'
        rw [if_neg (by omega), if_neg (by omega)] at hy'
        rw [hof, hof, if_neg (by omega), if_neg (by omega)]
        rcases h.cov (i + 1) x y r hx' hy' hf' with h3 | h3 | h3
        · refine .inl (hmem _ h3 ?_)
          have hl : i + 1 < P.length := by
            rcases Nat.lt_or_ge (i + 1) P.length with h4 | h4
            · exact h4
            · rw [List.getElem?_eq_none h4] at hx'; cases hx'
          have := off_mono h.ne (show j < i + 1 by omega) (by omega)
          simp only; omega
        · exact .inr (.inl (List.mem_append_left _ h3))
        · exact .inr (.inr (List.mem_append_left _ h3))
  · intro i hi hx' hy'
    rw [hat, if_neg (by omega), if_neg (by omega)] at hx'
    rw [hat, if_neg (by omega), if_neg (by omega)] at hy'
    rw [hof, if_neg (by omega)]
    refine hmem _ (h.covT (i + 1) (by omega) hx' hy') ?_
    have hl : i + 1 < P.length := by
      rcases Nat.lt_or_ge (i + 1) P.length with h4 | h4
      · exact h4
      · rw [List.getElem?_eq_none h4] at hx'; cases hx'
    have := off_mono h.ne (show j < i + 1 by omega) (by omega)
    simp only; omega
  · intro m hm'
    rcases List.mem_append.1 hm' with h1 | h1
    · obtain ⟨i, h2, h3, h4⟩ := h.liv m h1
      exact ⟨i, by omega, by omega, by rw [hof, if_pos (by omega)]; exact h4⟩
    · simp at h1
      exact ⟨j, by omega, by omega, by rw [hof, if_pos (by omega), h1, ho]⟩
theorem RI.stop (h : RI f n P0 P S M d rank A B) (hno : ∀ s ∈ S, s.rank ≠ rank) : P = scan A B P0 ∧ MI f n P S M := by
  refine ⟨?_, h.ne, h.tot, fun s hs => (h.okS s hs).1, h.cov, fun m hm => ?_⟩
  · rw [h.sc, scan_none A B (P.drop d), List.take_append_drop]
    rintro i ⟨h1, h2⟩
    rw [List.getElem?_drop] at h1
    rw [List.getElem?_drop, ← Nat.add_assoc] at h2
    exact hno _ (h.covT (d + i) (by omega) h1 h2) rfl
  · obtain ⟨i, _, h2, h3⟩ := h.liv m hm
    exact ⟨i, h2, h3⟩
/-- The spot of parts i and the next one, if there is one. -/
def spotAt (f : Tx × Tx → Option Nat) (P : List Tx) (i : Nat) : List Sp :=
  match P[i]?, P[i + 1]? with
  | some x, some y => match f (x, y) with
    | some r => [⟨r, off P i, x, y⟩]
    | none => []
  | _, _ => []
theorem spotAt_some {i : Nat} {x y : Tx} {r : Nat} (hx : P[i]? = some x) (hy : P[i + 1]? = some y) (hr : f (x, y) = some r) : spotAt f P i = [⟨r, off P i, x, y⟩] := by
  unfold spotAt; rw [hx, hy]; simp [hr]
theorem spotAt_none {i : Nat} {x y : Tx} (hx : P[i]? = some x) (hy : P[i + 1]? = some y) (hr : f (x, y) = none) : spotAt f P i = [] := by
  unfold spotAt; rw [hx, hy]; simp [hr]
theorem spotAt_past {i : Nat} (hi : P.length ≤ i + 1) : spotAt f P i = [] := by
  unfold spotAt
  rw [List.getElem?_eq_none (i := i + 1) hi]
  cases P[i]? <;> rfl
theorem spotAt_ok (hne : NE P) (hn : off P P.length = n) {i : Nat} {t : Sp} (ht : t ∈ spotAt f P i) : okSp f n t := by
  unfold spotAt at ht
  split at ht
  · rename_i x y hx hy
    split at ht
    · rename_i r hr
      simp at ht
      subst ht
      have hi : i < P.length := by
        rcases Nat.lt_or_ge i P.length with h4 | h4
        · exact h4
        · rw [List.getElem?_eq_none h4] at hx; cases hx
      exact ⟨hne _ (List.mem_of_getElem? hx), hne _ (List.mem_of_getElem? hy), hr, by have := off_mono hne hi (Nat.le_refl _); simp only; omega⟩
    · cases ht
  · cases ht
theorem spotAt_length (f : Tx × Tx → Option Nat) (P : List Tx) (i : Nat) : (spotAt f P i).length ≤ 1 := by
  unfold spotAt; split
  · split <;> simp
  · simp
/-- One merged place met again: the spots ahead of it and at it. -/
theorem MI.meet {m : Nat} (h : MI f n P S (m :: M)) {i : Nat} (hi : i < P.length) (ho : off P i = m) (hp : S'.Perm (S ++ ((if i = 0 then [] else spotAt f P (i - 1)) ++ spotAt f P i))) : MI f n P S' M := by
  refine ⟨h.ne, h.tot, fun t ht => ?_, fun k x y r hx hy hr => ?_, fun m' hm' => h.liv m' (List.mem_cons_of_mem _ hm')⟩
  · rcases List.mem_append.1 (hp.mem_iff.1 ht) with h1 | h1
    · exact h.okS t h1
    · rcases List.mem_append.1 h1 with h2 | h2
      · split at h2
        · cases h2
        · exact spotAt_ok h.ne h.tot h2
      · exact spotAt_ok h.ne h.tot h2
  · have hk : k + 1 < P.length := by
      rcases Nat.lt_or_ge (k + 1) P.length with h4 | h4
      · exact h4
      · rw [List.getElem?_eq_none h4] at hy; cases hy
    have here : ∀ t ∈ spotAt f P k, t ∈ (if i = 0 then [] else spotAt f P (i - 1)) ++ spotAt f P i → t ∈ S' := fun t _ h2 => hp.mem_iff.2 (List.mem_append_right _ h2)
    have e := spotAt_some hx hy hr
    rcases h.cov k x y r hx hy hr with h1 | h1 | h1
    · exact .inl (hp.mem_iff.2 (List.mem_append_left _ h1))
    · rcases List.mem_cons.1 h1 with h2 | h2
      · have : k = i := off_inj h.ne (by omega) (by omega) (by rw [h2, ho])
        subst this
        exact .inl (here _ (by rw [e]; simp) (List.mem_append_right _ (by rw [e]; simp)))
      · exact .inr (.inl h2)
    · rcases List.mem_cons.1 h1 with h2 | h2
      · have : k + 1 = i := off_inj h.ne (by omega) (by omega) (by rw [h2, ho])
        subst this
        exact .inl (here _ (by rw [e]; simp) (List.mem_append_left _ (by rw [if_neg (by omega), Nat.add_sub_cancel, e]; simp)))
      · exact .inr (.inr h2)
end
/-- The parts at the beginning: each byte by itself. -/
def singles (w : Tx) : List Tx := w.map fun c => [c]
theorem singles_ne (w : Tx) : NE (singles w) := by intro t ht; simp [singles] at ht; obtain ⟨c, _, rfl⟩ := ht; simp
theorem singles_off (w : Tx) : ∀ i, i ≤ w.length → off (singles w) i = i := by
  induction w with
  | nil => intro i hi; simp at hi; subst hi; rfl
  | cons c w ih =>
    intro i hi
    cases i with
    | zero => rfl
    | succ i => simp only [List.length_cons] at hi; have := ih i (by omega); simp only [singles, List.map_cons, off] at this ⊢; simp [this]; omega
theorem singles_parts (w : Tx) : partsOf (singles w) = singles w := by
  induction w with
  | nil => rfl
  | cons c w ih => simp only [singles, List.map_cons, partsOf] at ih ⊢; simp [ih]
theorem singles_flat (w : Tx) : (singles w).flatten = w := by
  induction w with
  | nil => rfl
  | cons c w ih => simp only [singles, List.map_cons, List.flatten_cons] at ih ⊢; simp [ih]
theorem singles_length (w : Tx) : (singles w).length = w.length := by simp [singles]
/-- All spots of the beginning. -/
theorem MI.begin (f : Tx × Tx → Option Nat) (w : Tx) {S : List Sp} (hp : S.Perm ((List.range w.length).flatMap (spotAt f (singles w)))) : MI f w.length (singles w) S [] := by
  have ht : off (singles w) (singles w).length = w.length := by rw [singles_length, singles_off w _ (Nat.le_refl _)]
  refine ⟨singles_ne w, ht, fun t h => ?_, fun i x y r hx hy hr => .inl (hp.mem_iff.2 ?_), fun m hm => by cases hm⟩
  · obtain ⟨i, _, h2⟩ := List.mem_flatMap.1 (hp.mem_iff.1 h)
    exact spotAt_ok (singles_ne w) ht h2
  · have hi : i < w.length := by
      rcases Nat.lt_or_ge i w.length with h4 | h4
      · exact h4
      · rw [List.getElem?_eq_none (by rw [singles_length]; exact h4)] at hx; cases hx
    exact List.mem_flatMap.2 ⟨i, List.mem_range.2 hi, by rw [spotAt_some hx hy hr]; simp⟩
end Go.Proofs.YtejokbfejkkpmaaDoor
