/- Plain laws for lists of merges as texts: a line by its parts and by places; the whole text, line by line; the first pair that may not be. Lists of bytes alone, no program. -/
import Derived.Test.YtkaejgpnhcdlnaaDoorVcVl
namespace Go.Proofs.YtkaejgpnhcdlnaaDoor.Vc
/-- What stands ahead of the first blank. -/
def frontOf (r : Bs) : Bs := r.takeWhile (· != 32)
def kOf (r : Bs) : Nat := (frontOf r).length
theorem front_no (r : Bs) : (32 : UInt8) ∉ frontOf r := by
  unfold frontOf
  induction r with
  | nil => simp
  | cons c r ih =>
    by_cases hc : c = 32
    · subst hc; simp
    · simp only [List.takeWhile_cons, bne_iff_ne.2 hc, if_true, List.mem_cons, not_or]
      exact ⟨fun e => hc e.symm, ih⟩
theorem front_take (r : Bs) : r.take (kOf r) = frontOf r := by
  unfold kOf frontOf
  induction r with
  | nil => rfl
  | cons c r ih =>
    by_cases hc : c = 32
    · subst hc; simp
    · simp only [List.takeWhile_cons, bne_iff_ne.2 hc, if_true, List.length_cons, List.take_succ_cons]
      rw [ih]
theorem k_le (r : Bs) : kOf r ≤ r.length := by
  have := front_take r
  have h := congrArg List.length this
  rw [List.length_take] at h
  unfold kOf at *; omega
theorem k_at (r : Bs) (h : kOf r < r.length) : r[kOf r] = 32 := by
  induction r with
  | nil => simp at h
  | cons c r ih =>
    by_cases hc : c = 32
    · subst hc; rfl
    · have e : kOf (c :: r) = kOf r + 1 := by simp [kOf, frontOf, hc]
      simp only [e] at h ⊢
      simpa using ih (by simpa using h)
theorem k_ne (r : Bs) (j : Nat) (h : j < kOf r) (hl : j < r.length) : r[j] ≠ 32 := by
  have e : r[j] ∈ frontOf r := by
    rw [← front_take, List.mem_take_iff_getElem]
    exact ⟨j, by omega, rfl⟩
  intro hc
  rw [hc] at e
  exact front_no r e
theorem front_split (r : Bs) (h : kOf r < r.length) : r = frontOf r ++ 32 :: r.drop (kOf r + 1) := by
  conv => lhs; rw [← List.take_append_drop (kOf r) r, front_take, List.drop_eq_getElem_cons h, k_at r h]
theorem front_whole (r : Bs) (h : kOf r = r.length) : frontOf r = r ∧ (32 : UInt8) ∉ r := by
  have e : frontOf r = r := by rw [← front_take, h, List.take_length]
  exact ⟨e, by rw [← e]; exact front_no r⟩
theorem cut_sp (r : Bs) : Lib.cut r [32] = (frontOf r, r.drop (kOf r + 1), decide (kOf r < r.length)) := by
  by_cases h : kOf r < r.length
  · conv => lhs; rw [front_split r h, cut_at 32 _ _ (front_no r)]
    rw [decide_eq_true h]
  · have hq : kOf r = r.length := by have := k_le r; omega
    obtain ⟨h1, h2⟩ := front_whole r hq
    rw [cut_none 32 r h2, h1, decide_eq_false h, List.drop_eq_nil_of_le (by omega)]
/-- A pair of tokens. -/
abbrev Pr := Bs × Bs
/-- The pair of a line. -/
def lineM (x : Bs) : Option Pr :=
  if (Lib.cut x [32]).2.2 = true ∧ tok (Lib.cut x [32]).1 = true ∧ tok (Lib.cut x [32]).2.1 = true then some ((Lib.cut x [32]).1, (Lib.cut x [32]).2.1) else none
theorem lineM_ref (x : Bs) : lineM x = if kOf x < x.length ∧ tok (x.take (kOf x)) = true ∧ tok (x.drop (kOf x + 1)) = true then some (x.take (kOf x), x.drop (kOf x + 1)) else none := by
  unfold lineM
  rw [cut_sp, front_take]
  simp only [decide_eq_true_eq]
theorem lineM_len (x : Bs) (p : Pr) (h : lineM x = some p) : p.1.length ≤ 64 ∧ p.2.length ≤ 64 := by
  unfold lineM at h
  split at h
  · rename_i hc
    simp only [Option.some.injEq] at h
    subst h
    have h1 := hc.2.1
    have h2 := hc.2.2
    unfold tok at h1 h2
    simp only [Bool.and_eq_true, decide_eq_true_eq] at h1 h2
    exact ⟨h1.2.2, h2.2.2⟩
  · cases h
def hasP (acc : List Pr) (p : Pr) : Bool := acc.any fun e => e == p
theorem hasP_snoc (acc : List Pr) (x u : Pr) : hasP (acc ++ [x]) u = (hasP acc u || u == x) := by
  unfold hasP
  rw [List.any_append]
  simp only [List.any_cons, List.any_nil, Bool.or_false]
  congr 1
  exact Bool.eq_iff_iff.2 (by rw [beq_iff_eq, beq_iff_eq]; exact eq_comm)
theorem hasP_at (acc : List Pr) (u : Pr) (j : Nat) (h : j < acc.length) (e : acc[j] = u) : hasP acc u = true := by
  unfold hasP
  rw [List.any_eq_true]
  exact ⟨acc[j], List.getElem_mem h, by rw [e]; simp⟩
theorem hasP_none (acc : List Pr) (u : Pr) (h : ∀ j (h : j < acc.length), acc[j] ≠ u) : hasP acc u = false := by
  unfold hasP
  rw [List.any_eq_false]
  intro e he
  obtain ⟨j, hj, rfl⟩ := List.getElem_of_mem he
  simpa using h j hj
/-- What a text goes on to give, these pairs being read. -/
def goM (r : Bs) (acc : List Pr) : List Pr × Nat × Nat :=
  if _ : r = [] then (acc, 0, 0)
  else if 4096 ≤ acc.length then ([], acc.length + 1, 6)
  else if _ : qOf r = r.length then ([], acc.length + 1, 2)
  else match lineM (bodyOf r) with
    | none => ([], acc.length + 1, 2)
    | some x =>
      if hasP acc x = true then ([], acc.length + 1, 10)
      else goM (r.drop (qOf r + 1)) (acc ++ [x])
termination_by r.length
decreasing_by
  have : 0 < r.length := List.length_pos_iff.2 ‹_›
  rw [List.length_drop]; omega
def parseM (s : Bs) : List Pr × Nat × Nat := if 262144 < s.length then ([], 0, 6) else goM s []
theorem goM_nil (acc : List Pr) : goM [] acc = (acc, 0, 0) := by rw [goM]; simp
theorem goM_long (r : Bs) (acc : List Pr) (h0 : r ≠ []) (h : 4096 ≤ acc.length) : goM r acc = ([], acc.length + 1, 6) := by rw [goM, dif_neg h0, if_pos h]
theorem goM_open (r : Bs) (acc : List Pr) (h0 : r ≠ []) (h : acc.length < 4096) (hq : qOf r = r.length) : goM r acc = ([], acc.length + 1, 2) := by rw [goM, dif_neg h0, if_neg (by omega), dif_pos hq]
theorem goM_form (r : Bs) (acc : List Pr) (h0 : r ≠ []) (h : acc.length < 4096) (hv : lineM (bodyOf r) = none) : goM r acc = ([], acc.length + 1, 2) := by
  rw [goM, dif_neg h0, if_neg (by omega)]
  split
  · rfl
  · rw [hv]
theorem goM_known (r : Bs) (acc : List Pr) (x : Pr) (h : acc.length < 4096) (hq : qOf r < r.length) (hv : lineM (bodyOf r) = some x) (h2 : hasP acc x = true) : goM r acc = ([], acc.length + 1, 10) := by
  rw [goM, dif_neg (by rintro rfl; simp at hq), if_neg (by omega), dif_neg (by omega), hv]
  simp only
  rw [if_pos h2]
theorem goM_next (r : Bs) (acc : List Pr) (x : Pr) (h : acc.length < 4096) (hq : qOf r < r.length) (hv : lineM (bodyOf r) = some x) (h2 : hasP acc x = false) : goM r acc = goM (r.drop (qOf r + 1)) (acc ++ [x]) := by
  conv => lhs; rw [goM, dif_neg (by rintro rfl; simp at hq), if_neg (by omega), dif_neg (by omega), hv]
  simp only
  rw [if_neg (by simp [h2])]
theorem goM_fine (m : Nat) : ∀ (r : Bs) (acc : List Pr), r.length ≤ m → acc.length ≤ 4096 → (∀ p ∈ acc, p.1.length ≤ 64 ∧ p.2.length ≤ 64) → (goM r acc).1.length ≤ 4096 ∧ ∀ p ∈ (goM r acc).1, p.1.length ≤ 64 ∧ p.2.length ≤ 64 := by
  induction m with
  | zero =>
    intro r acc hm ha hp
    obtain rfl : r = [] := List.eq_nil_of_length_eq_zero (by omega)
    rw [goM_nil]; exact ⟨ha, hp⟩
  | succ m ih =>
    intro r acc hm ha hp
    by_cases h0 : r = []
    · subst h0; rw [goM_nil]; exact ⟨ha, hp⟩
    · by_cases h4 : 4096 ≤ acc.length
      · rw [goM_long r acc h0 h4]; simp
      · have hq := q_le r
        by_cases hqe : qOf r = r.length
        · rw [goM_open r acc h0 (by omega) hqe]; simp
        · cases hv : lineM (bodyOf r) with
          | none => rw [goM_form r acc h0 (by omega) hv]; simp
          | some x =>
            cases h2 : hasP acc x
            · rw [goM_next r acc x (by omega) (by omega) hv h2]
              refine ih _ _ (by rw [List.length_drop]; omega) (by rw [List.length_append]; simp; omega) (fun p h => ?_)
              rcases List.mem_append.1 h with h | h
              · exact hp p h
              · obtain rfl := List.mem_singleton.1 h
                exact lineM_len _ _ hv
            · rw [goM_known r acc x (by omega) (by omega) hv h2]; simp
theorem parseM_fine (s : Bs) : (parseM s).1.length ≤ 4096 ∧ ∀ p ∈ (parseM s).1, p.1.length ≤ 64 ∧ p.2.length ≤ 64 := by
  unfold parseM
  split
  · simp
  · exact goM_fine _ s [] (Nat.le_refl _) (by simp) (by simp)
/-! which list may be -/
/-- Is a part there, these texts being made? -/
def isT (done : List Bs) (s : Bs) : Bool := decide (s.length ≤ 1) || done.contains s
def joins (l : List Pr) : List Bs := l.map fun p => p.1 ++ p.2
def badM (l : List Pr) (i : Nat) : Bool := match l[i]? with
  | some p => !(isT (joins (l.take i)) p.1 && isT (joins (l.take i)) p.2)
  | none => false
/-- The first pair with a part that there isn't yet. -/
def invM (l : List Pr) : Nat → Nat → Int
  | _, 0 => -1
  | i, k + 1 => if badM l i then (i : Int) else invM l (i + 1) k
def invalidM (l : List Pr) : Int := invM l 0 l.length
theorem joins_snoc (l : List Pr) (p : Pr) : joins (l ++ [p]) = joins l ++ [p.1 ++ p.2] := by simp [joins]
end Go.Proofs.YtkaejgpnhcdlnaaDoor.Vc
