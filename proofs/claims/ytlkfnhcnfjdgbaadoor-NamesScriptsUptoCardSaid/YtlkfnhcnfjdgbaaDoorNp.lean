/- Plain laws of names: which texts are good names, by parts, and as the document's scan says. -/
import Derived.Test.YtlkfnhcnfjdgbaaDoorRows
import Derived.WalkKit
import Derived.Lib.Hide
import Derived.Lib.Bytes2
import Derived.Lib.SplitLaws
import Derived.Lib.IndexMore
namespace Go.Proofs.YtlkfnhcnfjdgbaaDoor
abbrev Bs := List UInt8
/-- The text of a list of bytes. -/
def mk (l : Bs) : ByteArray := ⟨l.toArray⟩
theorem mk_list (s : ByteArray) : mk s.data.toList = s := rfl
theorem mk_data (l : Bs) : (mk l).data.toList = l := by simp [mk]
theorem mk_size (l : Bs) : (mk l).size = l.length := by simp [mk, ByteArray.size]
def plainC (c : UInt8) : Bool := (97 ≤ c && c ≤ 122) || (48 ≤ c && c ≤ 57) || c == 45 || c == 95
def allowC (c : UInt8) : Bool := plainC c || c == 46
def endsC (c : UInt8) : Bool := c == 47 || c == 46
/-- May a part go on so behind the sign l? -/
def okP : UInt8 → Bs → Bool
  | l, [] => !endsC l
  | l, c :: t => if plainC c then okP c t else if c = 46 then !endsC l && okP 46 t else false
/-- The document's scan. -/
def scan : UInt8 → Bs → Bool
  | _, [] => true
  | l, c :: t => if plainC c then scan c t else if (c == 47 || c == 46) && !endsC l then scan c t else false
/-- A text cut at each '/'. -/
def sp : Bs → List Bs
  | [] => [[]]
  | c :: s => if c = 47 then [] :: sp s else match sp s with
    | [] => [[c]]
    | l :: r => (c :: l) :: r
theorem sp_ne (s : Bs) : ∃ l r, sp s = l :: r := by
  cases s with
  | nil => exact ⟨_, _, rfl⟩
  | cons c s =>
    unfold sp
    split
    · exact ⟨_, _, rfl⟩
    · split <;> exact ⟨_, _, rfl⟩
theorem plain_ends {c : UInt8} (h : plainC c = true) : endsC c = false ∧ c ≠ 46 ∧ c ≠ 47 := by
  have h1 : c ≠ 46 := by rintro rfl; revert h; decide
  have h2 : c ≠ 47 := by rintro rfl; revert h; decide
  exact ⟨by simp [endsC, h1, h2], h1, h2⟩
theorem scan_sp (r : Bs) : ∀ l, scan l (r ++ [47]) = (match sp r with | f :: t => okP l f && t.all (okP 47) | [] => false) := by
  induction r with
  | nil =>
    intro l
    have h0 : plainC 47 = false := by decide
    simp [scan, sp, okP, h0]
  | cons c r ih =>
    intro l
    have h0 : plainC 47 = false := by decide
    have h6 : plainC 46 = false := by decide
    rw [List.cons_append, scan, sp]
    obtain ⟨f, t, e⟩ := sp_ne r
    by_cases hc : c = 47
    · subst hc
      rw [if_pos rfl, h0, ih 47, e]
      cases hl : endsC l <;> simp [okP, hl]
    · rw [if_neg hc, e, ih c, e]
      simp only [okP]
      cases hp : plainC c
      · by_cases hd : c = 46
        · subst hd
          cases hl : endsC l <;> simp
        · simp [hc, hd]
      · simp
/-- Has a text '..'? -/
def dd : Bs → Bool
  | [] => false
  | b :: l => ([46, 46] : Bs).isPrefixOf (b :: l) || dd l
theorem contains_dd (t : Bs) : Lib.contains t [46, 46] = dd t := by
  unfold Lib.contains
  induction t with
  | nil => rfl
  | cons b l ih =>
    have hge := Lib.index_ge l [46, 46]
    rw [dd, ← ih, Lib.index]
    cases hp : ([46, 46] : Bs).isPrefixOf (b :: l)
    · simp only [Bool.false_eq_true, if_false, Bool.false_or]
      by_cases h1 : Lib.index l [46, 46] = -1
      · rw [h1]; rfl
      · rw [if_neg (by simpa using h1)]
        congr 1
        simp only [eq_iff_iff]
        omega
    · simp
theorem okP_parts (t : Bs) : ∀ l, okP l t = if t = [] then !endsC l else (t.all allowC && (!(endsC l && t.head? == some 46) && (!(t.getLast? == some 46) && !dd t))) := by
  induction t with
  | nil => intro l; rfl
  | cons c t ih =>
    intro l
    rw [if_neg (by simp), okP]
    cases hp : plainC c
    · simp only [Bool.false_eq_true, if_false]
      by_cases hd : c = 46
      · subst hd
        rw [if_pos rfl, ih 46]
        have ha : allowC 46 = true := by decide
        have he : endsC 46 = true := by decide
        cases t with
        | nil => simp [he, dd]
        | cons d t =>
          rw [if_neg (by simp)]
          simp only [List.all_cons, ha, he, List.head?_cons, List.getLast?_cons_cons, dd, List.isPrefixOf, Bool.true_and]
          rw [show ((46 : UInt8) == d) = (d == 46) from BEq.comm]
          have hsm : (some d == some (46 : UInt8)) = (d == 46) := rfl
          rw [hsm]
          cases (d == 46) <;> cases endsC l <;> cases (allowC d) <;> cases (t.all allowC) <;> cases (dd t) <;> cases ((d :: t).getLast? == some 46) <;> cases (([46] : Bs).isPrefixOf t) <;> simp_all
      · rw [if_neg hd]
        have ha : allowC c = false := by simp [allowC, hp, hd]
        simp [ha]
    · obtain ⟨e1, e2, e3⟩ := plain_ends hp
      rw [if_pos rfl, ih c]
      have ha : allowC c = true := by simp [allowC, hp]
      cases t with
      | nil => simp [e1, ha, e2, dd, List.isPrefixOf]
      | cons d t =>
        rw [if_neg (by simp)]
        have hd : dd (c :: d :: t) = dd (d :: t) := by
          rw [dd]
          have : ([46, 46] : Bs).isPrefixOf (c :: d :: t) = false := by simp [List.isPrefixOf, Ne.symm e2]
          rw [this]; rfl
        rw [hd]
        have h46 : (c == 46) = false := beq_eq_false_iff_ne.2 e2
        simp [e1, ha, h46]
def headsB : Bs := [104, 101, 97, 100, 115]
def tagsB : Bs := [116, 97, 103, 115]
/-- By parts. -/
def goodB (s : Bs) : Bool := decide (s.length ≤ 64) && (match sp s with | l0 :: l1 :: r => (l0 == headsB || l0 == tagsB) && (l1 :: r).all (okP 47) | _ => false)
/-- As the document scans. -/
def refB (s : Bs) : Bool :=
  if (headsB ++ [47]).isPrefixOf s then decide (s.length ≤ 64) && scan 47 (s.drop 6 ++ [47])
  else if (tagsB ++ [47]).isPrefixOf s then decide (s.length ≤ 64) && scan 47 (s.drop 5 ++ [47]) else false
theorem sp_app (a r : Bs) (h : 47 ∉ a) : sp (a ++ 47 :: r) = a :: sp r := by
  induction a with
  | nil => simp [sp]
  | cons c a ih =>
    rw [List.cons_append, sp, if_neg (by rintro rfl; simp at h), ih (fun h' => h (List.mem_cons_of_mem _ h'))]
theorem sp_two (s : Bs) : ∀ l0 l1 r, sp s = l0 :: l1 :: r → ∃ u, s = l0 ++ 47 :: u ∧ sp u = l1 :: r := by
  induction s with
  | nil => intro l0 l1 r h; simp [sp] at h
  | cons c s ih =>
    intro l0 l1 r h
    rw [sp] at h
    split at h
    · rename_i hc
      injection h with h1 h2
      subst h1
      exact ⟨s, by rw [hc]; rfl, h2⟩
    · obtain ⟨f, t, e⟩ := sp_ne s
      rw [e] at h
      simp only [List.cons.injEq] at h
      obtain ⟨rfl, h2⟩ := h
      obtain ⟨u, h3, h4⟩ := ih f l1 r (by rw [e, h2])
      exact ⟨u, by rw [h3]; rfl, h4⟩
theorem good_ref (s : Bs) : goodB s = refB s := by
  have key : ∀ a u : Bs, 47 ∉ a → (a == headsB || a == tagsB) = true → goodB (a ++ 47 :: u) = (decide ((a ++ 47 :: u).length ≤ 64) && scan 47 (u ++ [47])) := by
    intro a u ha hb
    unfold goodB
    rw [sp_app a u ha, scan_sp]
    obtain ⟨f, t, e⟩ := sp_ne u
    rw [e]
    simp only [hb, List.all_cons, Bool.true_and]
  unfold refB
  split
  · rename_i h
    obtain ⟨u, rfl⟩ := List.isPrefixOf_iff_prefix.1 h
    rw [show headsB ++ [47] ++ u = headsB ++ 47 :: u by simp, key headsB u (by decide) (by decide)]
    rfl
  · rename_i h1
    split
    · rename_i h
      obtain ⟨u, rfl⟩ := List.isPrefixOf_iff_prefix.1 h
      rw [show tagsB ++ [47] ++ u = tagsB ++ 47 :: u by simp, key tagsB u (by decide) (by decide)]
      rfl
    · rename_i h2
      unfold goodB
      obtain ⟨f, t, e⟩ := sp_ne s
      rw [e]
      cases t with
      | nil => simp
      | cons l1 r =>
        obtain ⟨u, hu, _⟩ := sp_two s f l1 r e
        have n1 : (f == headsB) = false := by
          rw [beq_eq_false_iff_ne]
          rintro rfl
          exact h1 (List.isPrefixOf_iff_prefix.2 ⟨u, by rw [hu]; simp⟩)
        have n2 : (f == tagsB) = false := by
          rw [beq_eq_false_iff_ne]
          rintro rfl
          exact h2 (List.isPrefixOf_iff_prefix.2 ⟨u, by rw [hu]; simp⟩)
        simp [n1, n2]
end Go.Proofs.YtlkfnhcnfjdgbaaDoor
