/- What Table.Apply's changes do to sorted references: plain. -/
import Derived.Test.YtlkfnhcnfjdgbaaDoorMu
namespace Go.Proofs.YtlkfnhcnfjdgbaaDoor
open Go.RowKit Go.Maps Go.WideMaps
theorem sorted_gt {r : Bs × Bs} {R : Refs} {n : Bs} (hs : Sorted (r :: R)) (h1 : ¬ r.1 = n) (h2 : ¬ Lib.compareBytes r.1 n < 0) : getR (r :: R) n = none := by
  obtain ⟨ha, hb⟩ := List.pairwise_cons.1 hs
  have hnr : ltB n r.1 := by
    rcases lt_or r.1 n with y | y | y
    · exact absurd y h2
    · exact absurd y h1
    · exact y
  refine getR_below fun x hx => ?_
  rcases List.mem_cons.1 hx with rfl | hx
  · exact hnr
  · exact lt_trans' _ _ _ hnr (ha x hx)
theorem set_del (n : Bs) : ∀ (R : Refs), Sorted R → (getR R n).isSome = true → (setR R n []).length = R.length - 1 ∧ rcells (setR R n []) = (rcells R).take (posR R n * 2) ++ (rcells R).drop ((posR R n + 1) * 2)
  | [], _, h => by simp [getR] at h
  | r :: R, hs, h => by
    have hs2 := (List.pairwise_cons.1 hs).2
    by_cases e : r.1 = n
    · have hp : posR (r :: R) n = 0 := by rw [posR, if_neg (by rw [e, cmp_self]; omega)]
      rw [hp, setR, if_pos e, if_pos rfl, rcells_cons]
      exact ⟨by simp, by simp⟩
    · by_cases hc : Lib.compareBytes r.1 n < 0
      · have hp : posR (r :: R) n = posR R n + 1 := by rw [posR, if_pos hc]
        rw [getR, if_neg e] at h
        obtain ⟨a, b⟩ := set_del n R hs2 h
        have h0 : 0 < R.length := by
          cases R with
          | nil => simp [getR] at h
          | cons => simp
        rw [hp, setR, if_neg e, if_pos hc, rcells_cons, rcells_cons, b]
        refine ⟨by simp only [List.length_cons, a]; omega, ?_⟩
        rw [show (posR R n + 1) * 2 = posR R n * 2 + 1 + 1 by omega, show (posR R n + 1 + 1) * 2 = (posR R n * 2 + 1 + 1) + 1 + 1 by omega]
        simp
      · rw [sorted_gt hs e hc] at h
        cases h
theorem set_put (n v : Bs) (hv : v ≠ []) : ∀ (R : Refs), Sorted R → (getR R n).isSome = true → (setR R n v).length = R.length ∧ rcells (setR R n v) = (rcells R).set (posR R n * 2 + 1) (.string (mk v))
  | [], _, h => by simp [getR] at h
  | r :: R, hs, h => by
    have hs2 := (List.pairwise_cons.1 hs).2
    by_cases e : r.1 = n
    · have hp : posR (r :: R) n = 0 := by rw [posR, if_neg (by rw [e, cmp_self]; omega)]
      rw [hp, setR, if_pos e, if_neg hv, rcells_cons, rcells_cons]
      exact ⟨by simp, by simp [e]⟩
    · by_cases hc : Lib.compareBytes r.1 n < 0
      · have hp : posR (r :: R) n = posR R n + 1 := by rw [posR, if_pos hc]
        rw [getR, if_neg e] at h
        obtain ⟨a, b⟩ := set_put n v hv R hs2 h
        rw [hp, setR, if_neg e, if_pos hc, rcells_cons, rcells_cons, b]
        refine ⟨by simp only [List.length_cons, a], ?_⟩
        rw [show (posR R n + 1) * 2 + 1 = (posR R n * 2 + 1) + 1 + 1 by omega]
        simp
      · rw [sorted_gt hs e hc] at h
        cases h
theorem set_ins (n v : Bs) (hv : v ≠ []) : ∀ (R : Refs), Sorted R → (getR R n).isSome = false → (setR R n v).length = R.length + 1 ∧ rcells (setR R n v) = (rcells R).take (posR R n * 2) ++ [.string (mk n), .string (mk v)] ++ (rcells R).drop (posR R n * 2)
  | [], _, _ => by
    rw [setR, if_neg hv, posR, rcells_cons]
    exact ⟨by simp, by simp [rcells]⟩
  | r :: R, hs, h => by
    have hs2 := (List.pairwise_cons.1 hs).2
    by_cases e : r.1 = n
    · rw [getR, if_pos e] at h
      cases h
    · by_cases hc : Lib.compareBytes r.1 n < 0
      · have hp : posR (r :: R) n = posR R n + 1 := by rw [posR, if_pos hc]
        rw [getR, if_neg e] at h
        obtain ⟨a, b⟩ := set_ins n v hv R hs2 h
        rw [hp, setR, if_neg e, if_pos hc, rcells_cons, rcells_cons, b]
        refine ⟨by simp only [List.length_cons, a], ?_⟩
        rw [show (posR R n + 1) * 2 = posR R n * 2 + 1 + 1 by omega]
        simp
      · have hp : posR (r :: R) n = 0 := by rw [posR, if_neg hc]
        rw [hp, setR, if_neg e, if_neg hc, if_neg hv, rcells_cons]
        exact ⟨by simp, by simp [rcells]⟩
/-- After some of the updates, another name's ID is as it was. -/
theorem fold_get_take (us : List Upd) (R : Refs) (hs : Sorted R) (hd : us.Pairwise (fun a b => a.name ≠ b.name)) (k : Nat) (hk : k < us.length) : getR (foldR R (us.take k)) us[k].name = getR R us[k].name := by
  have hdt : (us.take k).Pairwise (fun a b => a.name ≠ b.name) := hd.sublist (List.take_sublist k us)
  have hnot : ∀ u ∈ us.take k, u.name ≠ us[k].name := by
    intro u hu
    obtain ⟨j, hj, rfl⟩ := List.getElem_of_mem hu
    have hjk : j < k := by simp at hj; omega
    rw [List.getElem_take]
    exact List.pairwise_iff_getElem.1 hd j k (by omega) hk hjk
  clear hd
  generalize us.take k = l at hdt hnot
  revert R
  induction l with
  | nil => intro R _; rfl
  | cons a l ih =>
    intro R hs
    rw [show foldR R (a :: l) = foldR (setR R a.name a.new) l from rfl]
    rw [ih (List.pairwise_cons.1 hdt).2 (fun u hu => hnot u (List.mem_cons_of_mem _ hu)) _ (setR_sorted R _ _ hs), getR_set _ _ _ _ hs, if_neg (fun e => hnot a (List.mem_cons_self ..) e.symm)]
theorem fold_snoc (R : Refs) (us : List Upd) (k : Nat) (hk : k < us.length) : foldR R (us.take (k + 1)) = setR (foldR R (us.take k)) us[k].name us[k].new := by
  rw [List.take_succ_eq_append_getElem hk]
  unfold foldR
  rw [List.foldl_append]
  rfl
/-- What 'all is well' says of updates. -/
theorem ok_names : ∀ (us : List Upd) (S : Bs → Bool), okU S us = true → us.Pairwise (fun a b => a.name ≠ b.name) ∧ (∀ u ∈ us, S u.name = false ∧ rightU u = true)
  | [], _, _ => ⟨List.Pairwise.nil, fun u hu => by cases hu⟩
  | a :: us, S, h => by
    rw [okU] at h
    simp only [Bool.and_eq_true, Bool.not_eq_true'] at h
    obtain ⟨h1, h2, h3⟩ := h
    obtain ⟨p, q⟩ := ok_names us _ h3
    refine ⟨List.pairwise_cons.2 ⟨fun b hb e => ?_, p⟩, fun u hu => ?_⟩
    · have := (q b hb).1
      simp [e] at this
    · rcases List.mem_cons.1 hu with rfl | hu
      · exact ⟨h1, h2⟩
      · have := (q u hu).1
        simp only [Bool.or_eq_false_iff] at this
        exact ⟨this.1, (q u hu).2⟩
theorem ok_of : ∀ (us : List Upd) (S : Bs → Bool), us.Pairwise (fun a b => a.name ≠ b.name) → (∀ u ∈ us, S u.name = false ∧ rightU u = true) → okU S us = true
  | [], _, _, _ => rfl
  | a :: us, S, hp, h => by
    obtain ⟨h1, h2⟩ := List.pairwise_cons.1 hp
    rw [okU, (h a (List.mem_cons_self ..)).1, (h a (List.mem_cons_self ..)).2, ok_of us _ h2 fun u hu => ⟨?_, (h u (List.mem_cons_of_mem _ hu)).2⟩]
    · rfl
    · rw [(h u (List.mem_cons_of_mem _ hu)).1, Bool.false_or]
      exact beq_eq_false_iff_ne.2 (fun e => h1 u hu e.symm)
/-- All that 'may' answers OK to. -/
theorem may_zero (R : Refs) (us : List Upd) (h : Bs) : mayE R us h = 0 ↔ (us ≠ [] ∨ h ≠ []) ∧ (h = [] ∨ branchB h = true) ∧ (∀ u ∈ us, goodB u.name = true) ∧ us.Pairwise (fun a b => a.name ≠ b.name) ∧ (∀ u ∈ us, rightU u = true) ∧ (∀ u ∈ us, (getR R u.name).getD [] = u.old) := by
  unfold mayE
  by_cases h1 : us = [] ∧ h = []
  · rw [if_pos h1]
    obtain ⟨rfl, rfl⟩ := h1
    constructor
    · intro e; exact absurd e (by decide)
    · rintro ⟨e, _⟩; rcases e with e | e <;> exact absurd rfl e
  rw [if_neg h1]
  by_cases h2 : (h ≠ [] ∧ branchB h = false) ∨ us.all (fun u => goodB u.name) = false
  · rw [if_pos h2]
    constructor
    · intro e; exact absurd e (by decide)
    · rintro ⟨_, e, g, _⟩
      rcases h2 with ⟨a, b⟩ | a
      · rcases e with e | e
        · exact absurd e a
        · rw [e] at b; cases b
      · rw [List.all_eq_false] at a
        obtain ⟨u, hu, b⟩ := a
        exact absurd (g u hu) b
  rw [if_neg h2]
  have h2a : h = [] ∨ branchB h = true := by
    by_cases e : h = []
    · exact .inl e
    · cases hb : branchB h
      · exact absurd (.inl ⟨e, hb⟩) h2
      · exact .inr rfl
  have h2b : ∀ u ∈ us, goodB u.name = true := by
    cases hg : us.all (fun u => goodB u.name)
    · exact absurd (.inr hg) h2
    · exact List.all_eq_true.1 hg
  by_cases h3 : okU (fun _ => false) us = false
  · rw [if_pos h3]
    constructor
    · intro e; exact absurd e (by decide)
    · rintro ⟨_, _, _, p, r, _⟩
      rw [ok_of us _ p fun u hu => ⟨rfl, r u hu⟩] at h3
      cases h3
  rw [if_neg h3]
  obtain ⟨p, q⟩ := ok_names us _ (by simpa using h3)
  by_cases h4 : freshU R us = false
  · rw [if_pos h4]
    constructor
    · intro e; exact absurd e (by decide)
    · rintro ⟨_, _, _, _, _, f⟩
      unfold freshU at h4
      rw [List.all_eq_false] at h4
      obtain ⟨u, hu, b⟩ := h4
      exact absurd (by simpa using f u hu) b
  · rw [if_neg h4]
    refine ⟨fun _ => ⟨?_, h2a, h2b, p, fun u hu => (q u hu).2, fun u hu => ?_⟩, fun _ => rfl⟩
    · by_cases e : us = []
      · exact .inr fun e' => h1 ⟨e, e'⟩
      · exact .inl e
    · have h5 : freshU R us = true := by simpa using h4
      unfold freshU at h5
      simpa using List.all_eq_true.1 h5 u hu
/-- A deletion finds its name. -/
theorem may_present {R : Refs} {u : Upd} (hr : rightU u = true) (hf : (getR R u.name).getD [] = u.old) (hn : u.new = []) : (getR R u.name).isSome = true := by
  cases hg : getR R u.name with
  | none =>
    rw [hg] at hf
    have e : u.old = [] := hf.symm
    unfold rightU at hr
    rw [e, hn] at hr
    simp at hr
  | some v => rfl
end Go.Proofs.YtlkfnhcnfjdgbaaDoor
