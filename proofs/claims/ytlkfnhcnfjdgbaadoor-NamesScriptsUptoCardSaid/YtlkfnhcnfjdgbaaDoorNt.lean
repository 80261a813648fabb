/- Plain laws of a table's references: kept sorted by name; updates of different names come to the same in whatever order. -/
import Derived.Test.YtlkfnhcnfjdgbaaDoorNp
import Derived.Lib.Bytealg
namespace Go.Proofs.YtlkfnhcnfjdgbaaDoor
abbrev Refs := List (Bs × Bs)
def ltB (a b : Bs) : Prop := Lib.compareBytes a b < 0
theorem cmp_self (a : Bs) : Lib.compareBytes a a = 0 := by
  induction a with
  | nil => rfl
  | cons c a ih => rw [Lib.compareBytes, if_neg (UInt8.lt_irrefl c), if_neg (UInt8.lt_irrefl c)]; exact ih
theorem cmp_eq (a : Bs) : ∀ b, Lib.compareBytes a b = 0 → a = b := by
  induction a with
  | nil => intro b h; cases b with
    | nil => rfl
    | cons d b => simp [Lib.compareBytes] at h
  | cons c a ih =>
    intro b h
    cases b with
    | nil => simp [Lib.compareBytes] at h
    | cons d b =>
      rw [Lib.compareBytes] at h
      split at h
      · cases h
      · split at h
        · cases h
        · rename_i h1 h2
          rw [ih b h, UInt8.le_antisymm (UInt8.not_lt.1 h2) (UInt8.not_lt.1 h1)]
theorem cmp_anti (a : Bs) : ∀ b, Lib.compareBytes b a = - Lib.compareBytes a b := by
  induction a with
  | nil => intro b; cases b <;> rfl
  | cons c a ih =>
    intro b
    cases b with
    | nil => rfl
    | cons d b =>
      rw [Lib.compareBytes, Lib.compareBytes]
      by_cases h1 : c < d
      · rw [if_pos h1, if_neg (UInt8.lt_asymm h1), if_pos h1]; rfl
      · by_cases h2 : d < c
        · rw [if_pos h2, if_neg h1, if_pos h2]
        · rw [if_neg h2, if_neg h1, if_neg h1, if_neg h2]; exact ih b
theorem lt_trans' (a : Bs) : ∀ b c, ltB a b → ltB b c → ltB a c := by
  unfold ltB
  induction a with
  | nil =>
    intro b c h1 h2
    cases c with
    | nil => cases b <;> simp [Lib.compareBytes] at h1 h2
    | cons e c => simp [Lib.compareBytes]
  | cons x a ih =>
    intro b c h1 h2
    cases b with
    | nil => simp [Lib.compareBytes] at h1
    | cons y b =>
      cases c with
      | nil => simp [Lib.compareBytes] at h2
      | cons z c =>
        rw [Lib.compareBytes] at h1 h2 ⊢
        by_cases p : x < z
        · rw [if_pos p]; decide
        · rw [if_neg p]
          have q1 : ¬ y < x := by
            intro hy
            rw [if_neg (UInt8.lt_asymm hy), if_pos hy] at h1
            simp at h1
          have q2 : ¬ z < y := by
            intro hy
            rw [if_neg (UInt8.lt_asymm hy), if_pos hy] at h2
            simp at h2
          have e1 : x = y := by
            refine UInt8.le_antisymm (UInt8.not_lt.1 q1) ?_
            exact UInt8.le_trans (UInt8.not_lt.1 q2) (UInt8.not_lt.1 p)
          have e2 : y = z := by
            refine UInt8.le_antisymm (UInt8.not_lt.1 q2) ?_
            rw [← e1]; exact UInt8.not_lt.1 p
          subst e1
          subst e2
          rw [if_neg (UInt8.lt_irrefl x), if_neg (UInt8.lt_irrefl x)] at h1 h2
          rw [if_neg (UInt8.lt_irrefl x)]
          exact ih b c h1 h2
theorem lt_irrefl' (a : Bs) : ¬ ltB a a := by unfold ltB; rw [cmp_self]; omega
theorem lt_or (a b : Bs) : ltB a b ∨ a = b ∨ ltB b a := by
  unfold ltB
  have := cmp_anti a b
  rcases Int.lt_trichotomy (Lib.compareBytes a b) 0 with h | h | h
  · exact .inl h
  · exact .inr (.inl (cmp_eq a b h))
  · exact .inr (.inr (by omega))
def Sorted (R : Refs) : Prop := R.Pairwise fun a b => ltB a.1 b.1
/-- The ID of a name, if there is one. -/
def getR : Refs → Bs → Option Bs
  | [], _ => none
  | r :: R, n => if r.1 = n then some r.2 else getR R n
theorem getR_none {R : Refs} {n : Bs} : getR R n = none ↔ ∀ r ∈ R, r.1 ≠ n := by
  induction R with
  | nil => simp [getR]
  | cons r R ih =>
    rw [getR]
    by_cases h : r.1 = n
    · simp [h]
    · simp [h, ih]
theorem getR_below {R : Refs} {n : Bs} (h : ∀ r ∈ R, ltB n r.1) : getR R n = none :=
  getR_none.2 fun r hr e => by have := h r hr; rw [e] at this; exact lt_irrefl' _ this
theorem getR_mem {R : Refs} {n v : Bs} (h : getR R n = some v) : (n, v) ∈ R := by
  induction R with
  | nil => cases h
  | cons r R ih =>
    rw [getR] at h
    split at h
    · rename_i e
      cases h
      subst e
      exact List.mem_cons_self ..
    · exact List.mem_cons_of_mem _ (ih h)
/-- Two sorted lists that answer alike are the same. -/
theorem sorted_ext : ∀ (R R' : Refs), Sorted R → Sorted R' → (∀ n, getR R n = getR R' n) → R = R'
  | [], [], _, _, _ => rfl
  | [], r :: R', _, _, h => by have := h r.1; simp [getR] at this
  | r :: R, [], _, _, h => by have := h r.1; simp [getR] at this
  | a :: R, b :: R', hs, hs', h => by
    obtain ⟨h1, h2⟩ := List.pairwise_cons.1 hs
    obtain ⟨h1', h2'⟩ := List.pairwise_cons.1 hs'
    have ea : getR (b :: R') a.1 = some a.2 := by rw [← h]; simp [getR]
    have eb : getR (a :: R) b.1 = some b.2 := by rw [h]; simp [getR]
    have hn : a.1 = b.1 := by
      rcases lt_or a.1 b.1 with hl | he | hl
      · have : getR (b :: R') a.1 = none := getR_below fun r hr => by
          rcases List.mem_cons.1 hr with rfl | hr
          · exact hl
          · exact lt_trans' _ _ _ hl (h1' r hr)
        rw [this] at ea; cases ea
      · exact he
      · have : getR (a :: R) b.1 = none := getR_below fun r hr => by
          rcases List.mem_cons.1 hr with rfl | hr
          · exact hl
          · exact lt_trans' _ _ _ hl (h1 r hr)
        rw [this] at eb; cases eb
    have hab : a = b := by
      have h2 : a.2 = b.2 := by
        rw [getR, if_pos hn.symm] at ea
        exact (Option.some.inj ea).symm
      exact Prod.ext hn h2
    subst hab
    rw [sorted_ext R R' h2 h2' fun n => ?_]
    have := h n
    by_cases e : a.1 = n
    · subst e
      rw [getR_below h1, getR_below h1']
    · rw [getR, getR, if_neg e, if_neg e] at this
      exact this
/-- A name's ID set anew; none: the reference is gone. -/
def setR : Refs → Bs → Bs → Refs
  | [], n, v => if v = [] then [] else [(n, v)]
  | r :: R, n, v => if r.1 = n then (if v = [] then R else (n, v) :: R) else if Lib.compareBytes r.1 n < 0 then r :: setR R n v else if v = [] then r :: R else (n, v) :: r :: R
theorem setR_mem (R : Refs) (n v : Bs) : ∀ r ∈ setR R n v, r ∈ R ∨ (r = (n, v) ∧ v ≠ []) := by
  induction R with
  | nil =>
    intro r hr
    rw [setR] at hr
    split at hr
    · cases hr
    · rename_i hv
      simp at hr
      exact .inr ⟨hr, hv⟩
  | cons a R ih =>
    intro r hr
    rw [setR] at hr
    split at hr
    · split at hr
      · exact .inl (List.mem_cons_of_mem _ hr)
      · rename_i hv
        rcases List.mem_cons.1 hr with rfl | hr
        · exact .inr ⟨rfl, hv⟩
        · exact .inl (List.mem_cons_of_mem _ hr)
    · split at hr
      · rcases List.mem_cons.1 hr with rfl | hr
        · exact .inl (List.mem_cons_self ..)
        · rcases ih r hr with h | h
          · exact .inl (List.mem_cons_of_mem _ h)
          · exact .inr h
      · split at hr
        · exact .inl hr
        · rename_i hv
          rcases List.mem_cons.1 hr with rfl | hr
          · exact .inr ⟨rfl, hv⟩
          · exact .inl hr
theorem setR_sorted (R : Refs) (n v : Bs) (h : Sorted R) : Sorted (setR R n v) := by
  induction R with
  | nil =>
    rw [setR]
    split
    · exact h
    · exact List.pairwise_cons.2 ⟨fun _ hr => (nomatch hr), List.Pairwise.nil⟩
  | cons a R ih =>
    obtain ⟨h1, h2⟩ := List.pairwise_cons.1 h
    rw [setR]
    split
    · rename_i e
      split
      · exact h2
      · exact List.pairwise_cons.2 ⟨fun r hr => by have := h1 r hr; rw [e] at this; exact this, h2⟩
    · rename_i ne
      split
      · rename_i hl
        refine List.pairwise_cons.2 ⟨fun r hr => ?_, ih h2⟩
        rcases setR_mem R n v r hr with hr | ⟨rfl, _⟩
        · exact h1 r hr
        · exact hl
      · rename_i hl
        split
        · exact h
        · have hna : ltB n a.1 := by
            rcases lt_or a.1 n with x | x | x
            · exact absurd x hl
            · exact absurd x ne
            · exact x
          refine List.pairwise_cons.2 ⟨fun r hr => ?_, h⟩
          rcases List.mem_cons.1 hr with rfl | hr
          · exact hna
          · exact lt_trans' _ _ _ hna (h1 r hr)
theorem getR_set (R : Refs) (n v m : Bs) (h : Sorted R) : getR (setR R n v) m = if m = n then (if v = [] then none else some v) else getR R m := by
  induction R with
  | nil =>
    rw [setR]
    by_cases hv : v = []
    · simp [hv, getR]
    · rw [if_neg hv]
      by_cases e : m = n
      · subst e; simp [getR, hv]
      · simp [getR, e, Ne.symm e]
  | cons a R ih =>
    obtain ⟨h1, h2⟩ := List.pairwise_cons.1 h
    rw [setR]
    by_cases e : a.1 = n
    · rw [if_pos e]
      have hRn : getR R n = none := getR_below fun r hr => by have := h1 r hr; rw [e] at this; exact this
      by_cases hv : v = []
      · rw [if_pos hv]
        by_cases em : m = n
        · subst em; simp [hv, hRn]
        · rw [if_neg em, getR, if_neg (by rw [e]; exact Ne.symm em)]
      · rw [if_neg hv]
        by_cases em : m = n
        · subst em; simp [getR, hv]
        · rw [if_neg em, getR, getR, if_neg (Ne.symm em), if_neg (by rw [e]; exact Ne.symm em)]
    · rw [if_neg e]
      by_cases hl : Lib.compareBytes a.1 n < 0
      · rw [if_pos hl, getR, getR, ih h2]
        by_cases em : a.1 = m
        · rw [if_pos em, if_pos em, if_neg (by rw [← em]; exact e)]
        · rw [if_neg em, if_neg em]
      · rw [if_neg hl]
        have hna : ltB n a.1 := by
          rcases lt_or a.1 n with x | x | x
          · exact absurd x hl
          · exact absurd x e
          · exact x
        have hn : getR (a :: R) n = none := getR_below fun r hr => by
          rcases List.mem_cons.1 hr with rfl | hr
          · exact hna
          · exact lt_trans' _ _ _ hna (h1 r hr)
        by_cases hv : v = []
        · rw [if_pos hv]
          by_cases em : m = n
          · subst em; simp [hv, hn]
          · rw [if_neg em]
        · rw [if_neg hv]
          by_cases em : m = n
          · subst em; simp [getR, hv]
          · rw [if_neg em, getR, if_neg (Ne.symm em)]
/-- An update: a name, the ID that was, the new one. -/
structure Upd where
  name : Bs
  old : Bs
  new : Bs
def foldR (R : Refs) (us : List Upd) : Refs := us.foldl (fun R u => setR R u.name u.new) R
theorem fold_sorted (us : List Upd) : ∀ R, Sorted R → Sorted (foldR R us) := by
  induction us with
  | nil => intro R h; exact h
  | cons u us ih => intro R h; exact ih _ (setR_sorted _ _ _ h)
theorem fold_get (us : List Upd) : ∀ R, Sorted R → us.Pairwise (fun a b => a.name ≠ b.name) → ∀ m,
    (∀ u ∈ us, u.name = m → getR (foldR R us) m = if u.new = [] then none else some u.new) ∧ ((∀ u ∈ us, u.name ≠ m) → getR (foldR R us) m = getR R m) := by
  induction us with
  | nil => intro R _ _ m; exact ⟨fun _ h => (nomatch h), fun _ => rfl⟩
  | cons u us ih =>
    intro R hs hp m
    obtain ⟨p1, p2⟩ := List.pairwise_cons.1 hp
    obtain ⟨i1, i2⟩ := ih (setR R u.name u.new) (setR_sorted _ _ _ hs) p2 m
    refine ⟨fun x hx hm => ?_, fun hn => ?_⟩
    · rcases List.mem_cons.1 hx with rfl | hx
      · have := i2 fun y hy => by have := p1 y hy; rw [hm] at this; exact Ne.symm this
        show getR (foldR (setR R x.name x.new) us) m = _
        rw [this, getR_set _ _ _ _ hs, if_pos hm.symm]
      · exact i1 x hx hm
    · show getR (foldR (setR R u.name u.new) us) m = _
      rw [i2 (fun y hy => hn y (List.mem_cons_of_mem _ hy)), getR_set _ _ _ _ hs, if_neg (Ne.symm (hn u (List.mem_cons_self ..)))]
/-- In whatever order. -/
theorem fold_turn (R : Refs) (us vs : List Upd) (hs : Sorted R) (h1 : us.Pairwise (fun a b => a.name ≠ b.name)) (h2 : vs.Pairwise (fun a b => a.name ≠ b.name)) (hm : ∀ u, u ∈ us ↔ u ∈ vs) : foldR R us = foldR R vs := by
  refine sorted_ext _ _ (fold_sorted _ _ hs) (fold_sorted _ _ hs) fun m => ?_
  obtain ⟨a1, a2⟩ := fold_get us R hs h1 m
  obtain ⟨b1, b2⟩ := fold_get vs R hs h2 m
  by_cases h : ∃ u ∈ us, u.name = m
  · obtain ⟨u, hu, e⟩ := h
    rw [a1 u hu e, b1 u ((hm u).1 hu) e]
  · have hn : ∀ u ∈ us, u.name ≠ m := fun u hu e => h ⟨u, hu, e⟩
    rw [a2 hn, b2 fun u hu => hn u ((hm u).2 hu)]
theorem fold_reverse (R : Refs) (us : List Upd) (hs : Sorted R) (h1 : us.Pairwise (fun a b => a.name ≠ b.name)) : foldR R us.reverse = foldR R us :=
  fold_turn R _ _ hs (List.pairwise_reverse.2 (h1.imp fun h => Ne.symm h)) h1 fun _ => List.mem_reverse
end Go.Proofs.YtlkfnhcnfjdgbaaDoor
