/- The document's way with references: those that stay, and the new ones one by one: it comes to the same. Lists alone. -/
import Derived.Test.YtlkfnhcnfjdgbaaDoorNt
import Derived.Test.YtlkfnhcnfjdgbaaDoorRq
import Derived.Test.YtlkfnhcnfjdgbaaDoorPz
import Derived.Test.YtlkfnhcnfjdgbaaDoorAy
import Derived.Test.YtlkfnhcnfjdgbaaDoorSk
namespace Go.Proofs.YtlkfnhcnfjdgbaaDoor
def updId (us : List Upd) (n v : Bs) : Bs := us.foldl (fun id u => if u.name = n then u.new else id) v
def keepO (us : List Upd) (r : Bs × Bs) : Option (Bs × Bs) := if updId us r.1 r.2 = [] then none else some (r.1, updId us r.1 r.2)
def keepR (R : Refs) (us : List Upd) : Refs := R.filterMap (keepO us)
def addR (N : Refs) (us : List Upd) : Refs := us.foldl (fun N u => if u.old = [] then setR N u.name u.new else N) N
theorem upd_none (us : List Upd) (n : Bs) : ∀ v, (∀ u ∈ us, u.name ≠ n) → updId us n v = v := by
  induction us with
  | nil => intro v _; rfl
  | cons u us ih =>
    intro v h
    unfold updId at ih ⊢
    rw [List.foldl_cons, if_neg (h u (by simp))]
    exact ih v (fun x hx => h x (List.mem_cons_of_mem _ hx))
theorem upd_some (us : List Upd) (n : Bs) (hp : us.Pairwise (fun a b => a.name ≠ b.name)) : ∀ v, ∀ u ∈ us, u.name = n → updId us n v = u.new := by
  induction us with
  | nil => intro v u h; cases h
  | cons a us ih =>
    obtain ⟨p1, p2⟩ := List.pairwise_cons.1 hp
    intro v u hu hn
    unfold updId
    rw [List.foldl_cons]
    rcases List.mem_cons.1 hu with rfl | h
    · rw [if_pos hn]
      exact upd_none us n u.new (fun x hx => by rw [← hn]; exact (p1 x hx).symm)
    · exact ih p2 _ u h hn
theorem keep_sorted (us : List Upd) {R : Refs} (h : Sorted R) : Sorted (keepR R us) := by
  induction R with
  | nil => exact List.Pairwise.nil
  | cons r R ih =>
    obtain ⟨h1, h2⟩ := List.pairwise_cons.1 h
    have ih := ih h2
    unfold keepR at ih ⊢
    rw [List.filterMap_cons]
    unfold keepO at ih ⊢
    split
    · exact ih
    · rename_i x hx
      split at hx
      · cases hx
      · injection hx with hx
        subst hx
        refine List.pairwise_cons.2 ⟨fun y hy => ?_, ih⟩
        obtain ⟨z, hz, hzy⟩ := List.mem_filterMap.1 hy
        split at hzy
        · cases hzy
        · injection hzy with hzy
          subst hzy
          exact h1 z hz
theorem keep_get (us : List Upd) {R : Refs} (h : Sorted R) (m : Bs) : getR (keepR R us) m = match getR R m with
    | none => none
    | some v => if updId us m v = [] then none else some (updId us m v) := by
  induction R with
  | nil => rfl
  | cons r R ih =>
    obtain ⟨h1, h2⟩ := List.pairwise_cons.1 h
    have ih := ih h2
    have hk : keepR (r :: R) us = (match keepO us r with | none => keepR R us | some x => x :: keepR R us) := by
      unfold keepR; rw [List.filterMap_cons]; cases keepO us r <;> rfl
    rw [hk, getR]
    by_cases hm : r.1 = m
    · rw [if_pos hm]
      unfold keepO
      by_cases he : updId us r.1 r.2 = []
      · rw [if_pos he]
        have : getR R m = none := getR_none.2 (fun x hx e => by
          have := h1 x hx
          rw [e, hm] at this
          unfold ltB at this
          rw [cmp_self] at this
          omega)
        rw [this] at ih
        simp only
        rw [ih, ← hm, if_pos he]
      · rw [if_neg he]
        simp only [getR, hm, if_true]
        rw [hm] at he
        rw [if_neg he]
    · rw [if_neg hm, ← ih]
      unfold keepO
      split
      · rfl
      · rename_i x hx
        split at hx
        · cases hx
        · injection hx with hx
          subst hx
          rw [getR, if_neg hm]
theorem add_sorted (us : List Upd) : ∀ N, Sorted N → Sorted (addR N us) := by
  induction us with
  | nil => intro N h; exact h
  | cons u us ih =>
    intro N h
    unfold addR at ih ⊢
    rw [List.foldl_cons]
    refine ih _ ?_
    split
    · exact setR_sorted _ _ _ h
    · exact h
theorem add_get (us : List Upd) : ∀ N, Sorted N → us.Pairwise (fun a b => a.name ≠ b.name) → ∀ m,
    (∀ u ∈ us, u.name = m → getR (addR N us) m = if u.old = [] then (if u.new = [] then none else some u.new) else getR N m) ∧ ((∀ u ∈ us, u.name ≠ m) → getR (addR N us) m = getR N m) := by
  induction us with
  | nil => intro N _ _ m; exact ⟨(fun u hu => by cases hu), fun _ => rfl⟩
  | cons a us ih =>
    intro N hN hp m
    obtain ⟨p1, p2⟩ := List.pairwise_cons.1 hp
    have hS : Sorted (if a.old = [] then setR N a.name a.new else N) := by
      split
      · exact setR_sorted _ _ _ hN
      · exact hN
    obtain ⟨i1, i2⟩ := ih _ hS p2 m
    have e : addR N (a :: us) = addR (if a.old = [] then setR N a.name a.new else N) us := rfl
    rw [e]
    refine ⟨fun u hu hn => ?_, fun hno => ?_⟩
    · rcases List.mem_cons.1 hu with rfl | h
      · rw [i2 (fun x hx => by rw [← hn]; exact (p1 x hx).symm)]
        split
        · rw [getR_set _ _ _ _ hN, if_pos hn.symm]
        · rfl
      · rw [i1 u h hn]
        have hne : m ≠ a.name := by rw [← hn]; exact (p1 u h).symm
        split
        · rfl
        · split
          · rw [getR_set _ _ _ _ hN, if_neg hne]
          · rfl
    · rw [i2 (fun x hx => hno x (List.mem_cons_of_mem _ hx))]
      split
      · rw [getR_set _ _ _ _ hN, if_neg (hno a (by simp)).symm]
      · rfl
/-- Each ID is there. -/
def NEr (R : Refs) : Prop := ∀ r ∈ R, r.2 ≠ []
theorem getR_ne {R : Refs} (h : NEr R) {m v : Bs} (hv : getR R m = some v) : v ≠ [] := h _ (getR_mem hv)
theorem ref_fold (R : Refs) (us : List Upd) (hs : Sorted R) (hne : NEr R) (hp : us.Pairwise (fun a b => a.name ≠ b.name)) (hf : ∀ u ∈ us, (getR R u.name).getD [] = u.old) : addR (keepR R us) us = foldR R us := by
  refine sorted_ext _ _ (add_sorted us _ (keep_sorted us hs)) (fold_sorted _ _ hs) (fun m => ?_)
  obtain ⟨a1, a2⟩ := add_get us (keepR R us) (keep_sorted us hs) hp m
  obtain ⟨b1, b2⟩ := fold_get us R hs hp m
  by_cases hm : ∃ u ∈ us, u.name = m
  · obtain ⟨u, hu, hn⟩ := hm
    rw [a1 u hu hn, b1 u hu hn]
    have hfu := hf u hu
    rw [hn] at hfu
    split
    · rfl
    · rename_i ho
      rw [keep_get us hs]
      cases hg : getR R m with
      | none => rw [hg] at hfu; exact absurd (by simpa using hfu.symm) ho
      | some v => simp only; rw [upd_some us m hp v u hu hn]
  · have hm' : ∀ u ∈ us, u.name ≠ m := fun u hu e => hm ⟨u, hu, e⟩
    rw [a2 hm', b2 hm', keep_get us hs]
    cases hg : getR R m with
    | none => rfl
    | some v => simp only; rw [upd_none us m v hm', if_neg (getR_ne hne hg)]
theorem fold_ne (us : List Upd) : ∀ R, NEr R → NEr (foldR R us) := by
  induction us with
  | nil => intro R h; exact h
  | cons u us ih =>
    intro R h
    refine ih _ (fun r hr => ?_)
    rcases setR_mem _ _ _ r hr with h1 | ⟨h1, h2⟩
    · exact h r h1
    · rw [h1]; exact h2
end Go.Proofs.YtlkfnhcnfjdgbaaDoor
/- Tables that come of updates that are made: what holds of them, and how long their bytes are. No program. -/
namespace Go.Proofs.YtlkfnhcnfjdgbaaDoor
theorem idL_iff (s : Bs) : idL s = true ↔ s = [] ∨ s.length = 32 := by
  unfold idL
  simp [List.length_eq_zero_iff]
theorem good_len {s : Bs} (h : goodB s = true) : s.length ≤ 64 := by
  unfold goodB at h
  simp only [Bool.and_eq_true, decide_eq_true_eq] at h
  exact h.1
theorem branch_good {s : Bs} (h : branchB s = true) : goodB s = true := by
  unfold branchB at h
  simp only [Bool.and_eq_true] at h
  exact h.1
/-- A table after k rounds of at most twelve updates. -/
structure TG (k : Nat) (t : Tbl) : Prop where
  sorted : Sorted t.refs
  refs : ∀ r ∈ t.refs, goodB r.1 = true ∧ r.2.length = 32
  len : t.refs.length ≤ 12 * k
  head : branchB t.head = true
  log : ∀ u ∈ t.log, goodB u.name = true ∧ rightU u = true
  logl : t.log.length ≤ 256
theorem TG.mono {k k' : Nat} {t : Tbl} (h : TG k t) (hk : k ≤ k') : TG k' t := ⟨h.sorted, h.refs, Nat.le_trans h.len (by omega), h.head, h.log, h.logl⟩
theorem TG.ne {k : Nat} {t : Tbl} (h : TG k t) : NEr t.refs := fun r hr e => by
  have := (h.refs r hr).2
  rw [e] at this
  simp at this
theorem fold_all (p : Bs × Bs → Prop) (us : List Upd) : ∀ R : Refs, (∀ r ∈ R, p r) → (∀ u ∈ us, u.new ≠ [] → p (u.name, u.new)) → ∀ r ∈ foldR R us, p r := by
  induction us with
  | nil => intro R h _; exact h
  | cons u us ih =>
    intro R h hu
    refine ih _ (fun r hr => ?_) (fun v hv => hu v (List.mem_cons_of_mem _ hv))
    rcases setR_mem R u.name u.new r hr with h1 | ⟨rfl, h1⟩
    · exact h r h1
    · exact hu u (List.mem_cons_self ..) h1
theorem right_parts {u : Upd} (h : rightU u = true) : (u.old = [] ∨ u.old.length = 32) ∧ (u.new = [] ∨ u.new.length = 32) := by
  unfold rightU at h
  simp only [Bool.and_eq_true] at h
  exact ⟨(idL_iff _).1 h.1, (idL_iff _).1 h.2.1⟩
theorem TG.put {k : Nat} {t : Tbl} (h : TG k t) (us : List Upd) (hl : us.length ≤ 12) (hd : Bs) (hE : mayE t.refs us hd = 0) : TG (k + 1) (t.put us hd) := by
  obtain ⟨_, h2, h3, _, h5, _⟩ := (may_zero _ _ _).1 hE
  refine ⟨fold_sorted us _ h.sorted, fold_all _ us _ h.refs fun u hu hn => ⟨h3 u hu, ?_⟩, ?_, ?_, ?_, ?_⟩
  · rcases (right_parts (h5 u hu)).2 with e | e
    · exact absurd e hn
    · exact e
  · have := fold_len us t.refs
    have := h.len
    simp only [Tbl.put]
    omega
  · simp only [Tbl.put]
    by_cases e : hd = []
    · rw [if_pos e]; exact h.head
    · rw [if_neg e]; exact h2.resolve_left e
  · intro u hu
    simp only [Tbl.put] at hu
    rcases List.mem_append.1 (List.mem_of_mem_drop hu) with hu | hu
    · exact h.log u hu
    · exact ⟨h3 u hu, h5 u hu⟩
  · simp only [Tbl.put, List.length_drop]
    omega
theorem TG.start : TG 0 ⟨[], mainB, []⟩ := ⟨List.Pairwise.nil, fun _ h => by simp at h, by simp, by decide +kernel, fun _ h => by simp at h, by simp⟩
theorem textB_le (t : Bs) (h : t.length ≤ 127) : (textB t).length = t.length + 1 := by
  unfold textB
  rw [List.length_append, putB_length]
  have : kOf t.length = 0 := by
    unfold kOf
    have := Nat.log2_lt (n := t.length) (k := 7)
    by_cases e : t.length = 0
    · rw [e]; rfl
    · have := (this e).2 (by omega)
      omega
  omega
theorem rtx_size : ∀ R : Refs, (∀ r ∈ R, goodB r.1 = true ∧ r.2.length = 32) → (joinB (rtx R)).length ≤ 98 * R.length
  | [], _ => by simp [rtx, joinB]
  | r :: R, h => by
    have h1 := h r (List.mem_cons_self ..)
    have h2 := rtx_size R fun x hx => h x (List.mem_cons_of_mem _ hx)
    have h3 := good_len h1.1
    have e : joinB (rtx (r :: R)) = textB r.1 ++ textB r.2 ++ joinB (rtx R) := by simp [joinB_text, rtx]
    rw [e, List.length_append, List.length_append, textB_le _ (by omega), textB_le _ (by omega), List.length_cons]
    omega
theorem utx_size : ∀ us : List Upd, (∀ u ∈ us, goodB u.name = true ∧ rightU u = true) → (joinB (utx us)).length ≤ 131 * us.length
  | [], _ => by simp [utx, joinB]
  | u :: us, h => by
    obtain ⟨h1, h0⟩ := h u (List.mem_cons_self ..)
    have h2 := utx_size us fun x hx => h x (List.mem_cons_of_mem _ hx)
    have h3 := good_len h1
    obtain ⟨h4, h5⟩ := right_parts h0
    have h4' : u.old.length ≤ 32 := by rcases h4 with e | e <;> simp [e]
    have h5' : u.new.length ≤ 32 := by rcases h5 with e | e <;> simp [e]
    have e : joinB (utx (u :: us)) = textB u.name ++ textB u.old ++ textB u.new ++ joinB (utx us) := by simp [joinB_text, utx]
    rw [e, List.length_append, List.length_append, List.length_append, textB_le _ (by omega), textB_le _ (by omega), textB_le _ (by omega), List.length_cons]
    omega
/-- The bytes of a table, and its parts. -/
theorem TG.sizes {k : Nat} {t : Tbl} (h : TG k t) (hk : k ≤ 120) : t.head.length ≤ 64 ∧ (joinB (rtx t.refs)).length ≤ 150000 ∧ (joinB (utx t.log)).length ≤ 40000 ∧ (encB t).length ≤ 300000 := by
  have h1 := good_len (branch_good h.head)
  have h2 := rtx_size _ h.refs
  have h3 := utx_size _ h.log
  have h4 := h.len
  have h5 := h.logl
  refine ⟨h1, by omega, by omega, ?_⟩
  rw [enc_text, List.length_append, List.length_append]
  have a := textB_len t.head (by omega)
  have b := textB_len (joinB (rtx t.refs)) (by omega)
  have c := textB_len (joinB (utx t.log)) (by omega)
  omega
/-- What splitting a table's bytes gives. -/
theorem TG.split {k : Nat} {t : Tbl} (h : TG k t) (hk : k ≤ 120) {m : List Bs} {e : Nat} (hs : SplitR (encB t) m e) : m = [t.head, joinB (rtx t.refs), joinB (utx t.log)] ∧ e = 0 := by
  obtain ⟨h1, h2, h3, _⟩ := h.sizes hk
  refine split_join _ (fun x hx => ?_) hs
  simp at hx
  rcases hx with rfl | rfl | rfl <;> omega
theorem TG.split_refs {k : Nat} {t : Tbl} (h : TG k t) {m : List Bs} {e : Nat} (hs : SplitR (joinB (rtx t.refs)) m e) : m = rtx t.refs ∧ e = 0 := by
  refine split_join _ (fun x hx => ?_) hs
  obtain ⟨r, hr, hx⟩ := List.mem_flatMap.1 hx
  have h1 := h.refs r hr
  have h2 := good_len h1.1
  simp at hx
  rcases hx with rfl | rfl <;> omega
theorem TG.split_log {k : Nat} {t : Tbl} (h : TG k t) {m : List Bs} {e : Nat} (hs : SplitR (joinB (utx t.log)) m e) : m = utx t.log ∧ e = 0 := by
  refine split_join _ (fun x hx => ?_) hs
  obtain ⟨u, hu, hx⟩ := List.mem_flatMap.1 hx
  obtain ⟨h1, h0⟩ := h.log u hu
  have h3 := good_len h1
  obtain ⟨h4, h5⟩ := right_parts h0
  have h4' : u.old.length ≤ 32 := by rcases h4 with e | e <;> simp [e]
  have h5' : u.new.length ≤ 32 := by rcases h5 with e | e <;> simp [e]
  simp at hx
  rcases hx with rfl | rfl | rfl <;> omega
end Go.Proofs.YtlkfnhcnfjdgbaaDoor
