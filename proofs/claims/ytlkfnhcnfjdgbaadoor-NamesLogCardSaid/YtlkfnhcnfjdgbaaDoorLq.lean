/- What NamesLog's changes come to: plain. -/
import Derived.Test.YtlkfnhcnfjdgbaaDoorKn
import Derived.Test.YtlkfnhcnfjdgbaaDoorSk
namespace Go.Proofs.YtlkfnhcnfjdgbaaDoor
def nmB : Nat → Bs
  | 0 => [104, 101, 97, 100, 115, 47, 97]
  | 1 => [104, 101, 97, 100, 115, 47, 98]
  | _ => [116, 97, 103, 115, 47, 99]
/-- The last 256. -/
def cutL (W : List Upd) : List Upd := W.drop (W.length - 256)
theorem cut_snoc (W : List Upd) (u : Upd) : (cutL W ++ [u]).drop ((cutL W ++ [u]).length - 256) = cutL (W ++ [u]) := by
  have h : cutL W ++ [u] = (W ++ [u]).drop (W.length - 256) := by
    unfold cutL
    rw [List.drop_append_of_le_length (by omega)]
  rw [h, List.drop_drop]
  unfold cutL
  refine congrArg (fun k => (W ++ [u]).drop k) ?_
  simp only [List.length_drop, List.length_append, List.length_singleton]
  omega
theorem id_cases {n : Int} (h0 : 0 ≤ n) (h5 : n ≤ 5) : n = 0 ∨ n = 1 ∨ n = 2 ∨ n = 3 ∨ n = 4 ∨ n = 5 := by omega
theorem id_len {n : Int} (h0 : 1 ≤ n) (h5 : n ≤ 5) : (idB n).length = 32 := by
  unfold idB
  rw [if_neg (by omega), if_neg (by omega)]
  simp
theorem id_inj {m n : Int} (h0 : 0 ≤ m) (h5 : m ≤ 5) (k0 : 0 ≤ n) (k5 : n ≤ 5) (h : idB m = idB n) : m = n := by
  rcases id_cases h0 h5 with rfl | rfl | rfl | rfl | rfl | rfl <;> rcases id_cases k0 k5 with rfl | rfl | rfl | rfl | rfl | rfl <;> first | rfl | exact absurd h (by decide)
theorem nm_good : ∀ k, k < 3 → goodB (nmB k) = true
  | 0, _ => by decide
  | 1, _ => by decide
  | 2, _ => by decide
  | _ + 3, h => by omega
theorem nm_inj : ∀ i j, i < 3 → j < 3 → nmB i = nmB j → i = j
  | 0, 0, _, _, _ => rfl
  | 1, 1, _, _, _ => rfl
  | 2, 2, _, _, _ => rfl
  | 0, 1, _, _, h => absurd h (by decide)
  | 0, 2, _, _, h => absurd h (by decide)
  | 1, 0, _, _, h => absurd h (by decide)
  | 1, 2, _, _, h => absurd h (by decide)
  | 2, 0, _, _, h => absurd h (by decide)
  | 2, 1, _, _, h => absurd h (by decide)
  | _ + 3, _, h, _, _ => by omega
  | _, _ + 3, _, h, _ => by omega
def updA (a : Nat → Int) (k : Nat) (v : Int) : Nat → Int := fun i => if i = k then v else a i
/-- What holds behind k of the numbers. -/
structure LInv (k : Nat) (t : Tbl) (a : Nat → Int) (W : List Upd) : Prop where
  sorted : Sorted t.refs
  rlen : t.refs.length ≤ k
  log : t.log = cutL W
  wlen : W.length = k
  rng : ∀ i, i < 3 → 0 ≤ a i ∧ a i ≤ 5
  get : ∀ i, i < 3 → getR t.refs (nmB i) = if a i = 0 then none else some (idB (a i))
  rid : ∀ r ∈ t.refs, r.2.length = 32
  wid : ∀ u ∈ W, (u.old = [] ∨ u.old.length = 32) ∧ (u.new = [] ∨ u.new.length = 32)
theorem idL_id {n : Int} (h0 : 0 ≤ n) (h5 : n ≤ 5) : idL (idB n) = true := by
  unfold idL
  rcases id_cases h0 h5 with rfl | rfl | rfl | rfl | rfl | rfl <;> decide
theorem LInv.step {k : Nat} {t : Tbl} {a : Nat → Int} {W : List Upd} (h : LInv k t a W) (i : Nat) (hi : i < 3) (n : Int) (h0 : 0 ≤ n) (h5 : n ≤ 5) (hne : a i ≠ n) :
    mayE t.refs [⟨nmB i, idB (a i), idB n⟩] [] = 0 ∧ LInv (k + 1) (t.res [⟨nmB i, idB (a i), idB n⟩] []) (updA a i n) (W ++ [⟨nmB i, idB (a i), idB n⟩]) := by
  obtain ⟨r0, r5⟩ := h.rng i hi
  have hz : idB 0 = [] := rfl
  have hm : mayE t.refs [⟨nmB i, idB (a i), idB n⟩] [] = 0 := by
    refine (may_zero _ _ _).2 ⟨.inl (by simp), .inl rfl, fun u hu => ?_, List.pairwise_singleton _ _, fun u hu => ?_, fun u hu => ?_⟩
    · rw [List.mem_singleton.1 hu]; exact nm_good i hi
    · rw [List.mem_singleton.1 hu]
      unfold rightU
      simp only [idL_id r0 r5, idL_id h0 h5, Bool.true_and, Bool.not_eq_true']
      exact beq_eq_false_iff_ne.2 fun e => hne (id_inj r0 r5 h0 h5 e)
    · rw [List.mem_singleton.1 hu]
      simp only [h.get i hi]
      split
      · rename_i e; rw [e, hz]; rfl
      · rfl
  refine ⟨hm, ?_⟩
  unfold Tbl.res
  rw [if_pos hm]
  have hr : (t.put [⟨nmB i, idB (a i), idB n⟩] []).refs = setR t.refs (nmB i) (idB n) := rfl
  have hid : idB n = [] ↔ n = 0 := ⟨fun e => id_inj h0 h5 (by omega) (by omega) (e.trans hz.symm), fun e => by rw [e, hz]⟩
  refine ⟨?_, ?_, ?_, ?_, ?_, ?_, ?_, ?_⟩
  · rw [hr]; exact setR_sorted _ _ _ h.sorted
  · rw [hr]; have := set_len t.refs (nmB i) (idB n); have := h.rlen; omega
  · simp only [Tbl.put]
    rw [h.log]
    exact cut_snoc W _
  · rw [List.length_append, h.wlen]; rfl
  · intro j hj
    unfold updA
    split
    · exact ⟨h0, h5⟩
    · exact h.rng j hj
  · intro j hj
    rw [hr, getR_set _ _ _ _ h.sorted]
    unfold updA
    by_cases e : j = i
    · subst e
      rw [if_pos rfl, if_pos rfl]
      by_cases hn : n = 0
      · rw [if_pos (hid.2 hn), if_pos hn]
      · rw [if_neg (fun e => hn (hid.1 e)), if_neg hn]
    · rw [if_neg (fun e' => e (nm_inj j i hj hi e')), if_neg e]
      exact h.get j hj
  · intro r hrm
    rw [hr] at hrm
    rcases setR_mem _ _ _ r hrm with h1 | ⟨rfl, h1⟩
    · exact h.rid r h1
    · have : n ≠ 0 := fun e => h1 (hid.2 e)
      exact id_len (by omega) h5
  · intro u hu
    have key : ∀ m : Int, 0 ≤ m → m ≤ 5 → idB m = [] ∨ (idB m).length = 32 := fun m m0 m5 => by
      by_cases e : m = 0
      · exact .inl (by rw [e, hz])
      · exact .inr (id_len (by omega) m5)
    rcases List.mem_append.1 hu with h1 | h1
    · exact h.wid u h1
    · rw [List.mem_singleton.1 h1]
      exact ⟨key _ r0 r5, key _ h0 h5⟩
/-- What Known tells of such a table. -/
theorem LInv.known {k : Nat} {t : Tbl} {a : Nat → Int} {W : List Upd} (h : LInv k t a W) : (knownL t.ids).Pairwise (fun a b => a < b) ∧ (∀ x ∈ knownL t.ids, x.length = 32) ∧ ∀ u ∈ cutL W, (u.old = [] ∨ u.old ∈ knownL t.ids) ∧ (u.new = [] ∨ u.new ∈ knownL t.ids) := by
  have hw : ∀ u ∈ cutL W, u ∈ W := fun u hu => List.mem_of_mem_drop hu
  refine ⟨known_lt _, fun x hx => ?_, fun u hu => ?_⟩
  · obtain ⟨h1, h2⟩ := (known_mem _ _).1 hx
    unfold Tbl.ids at h1
    rcases List.mem_append.1 h1 with h3 | h3
    · obtain ⟨r, hr, rfl⟩ := List.mem_map.1 h3
      exact h.rid r hr
    · unfold logIds at h3
      obtain ⟨u, hu, h4⟩ := List.mem_flatMap.1 h3
      rw [h.log] at hu
      obtain ⟨w1, w2⟩ := h.wid u (hw u hu)
      simp at h4
      rcases h4 with rfl | rfl
      · exact w1.resolve_left h2
      · exact w2.resolve_left h2
  · have hin : u.old ∈ t.ids ∧ u.new ∈ t.ids := by
      unfold Tbl.ids
      have : ∀ y, y ∈ [u.old, u.new] → y ∈ logIds t.log := fun y hy => List.mem_flatMap.2 ⟨u, by rw [h.log]; exact hu, hy⟩
      exact ⟨List.mem_append_right _ (this _ (by simp)), List.mem_append_right _ (this _ (by simp))⟩
    constructor
    · by_cases e : u.old = []
      · exact .inl e
      · exact .inr ((known_mem _ _).2 ⟨hin.1, e⟩)
    · by_cases e : u.new = []
      · exact .inl e
      · exact .inr ((known_mem _ _).2 ⟨hin.2, e⟩)
theorem LInv.start : LInv 0 ⟨[], mainB, []⟩ (fun _ => 0) [] := by
  refine ⟨List.Pairwise.nil, Nat.le_refl _, rfl, rfl, fun i _ => ⟨by omega, by omega⟩, fun i _ => rfl, fun r hr => (by cases hr), fun u hu => (by cases hu)⟩
/-- The numbers of a number. -/
theorem num_k (x : Int) : ∃ (r : Int) (k : Nat), x.tmod 3 = r ∧ -3 < r ∧ r < 3 ∧ (r + 3).tmod 3 = (k : Int) ∧ k < 3 := by
  have h1 : -3 < x.tmod 3 := by have := Int.lt_tmod_of_pos x (show (0 : Int) < 3 by decide); omega
  have h2 : x.tmod 3 < 3 := Int.tmod_lt_of_pos x (by decide)
  have h3 : (x.tmod 3 + 3).tmod 3 = (x.tmod 3 + 3) % 3 := Int.tmod_eq_emod_of_nonneg (by omega)
  exact ⟨x.tmod 3, ((x.tmod 3 + 3) % 3).toNat, rfl, h1, h2, by rw [h3]; omega, by omega⟩
theorem num_n (x : Int) : ∃ (q r n : Int), x.tdiv 3 = q ∧ q.tmod 5 = r ∧ -5 < r ∧ r < 5 ∧ (r + 5).tmod 5 = n ∧ 0 ≤ n ∧ n < 5 := by
  have h1 : -5 < (x.tdiv 3).tmod 5 := by have := Int.lt_tmod_of_pos (x.tdiv 3) (show (0 : Int) < 5 by decide); omega
  have h2 : (x.tdiv 3).tmod 5 < 5 := Int.tmod_lt_of_pos _ (by decide)
  have h3 : ((x.tdiv 3).tmod 5 + 5).tmod 5 = ((x.tdiv 3).tmod 5 + 5) % 5 := Int.tmod_eq_emod_of_nonneg (by omega)
  exact ⟨x.tdiv 3, (x.tdiv 3).tmod 5, _, rfl, rfl, h1, h2, rfl, by rw [h3]; omega, by rw [h3]; omega⟩
end Go.Proofs.YtlkfnhcnfjdgbaaDoor
