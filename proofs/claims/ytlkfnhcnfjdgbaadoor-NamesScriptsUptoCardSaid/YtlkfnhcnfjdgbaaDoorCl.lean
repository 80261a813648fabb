/- slices.Clone of references and of updates, walked at any slice. -/
import Derived.Test.YtlkfnhcnfjdgbaaDoorGt
namespace Go.Proofs.YtlkfnhcnfjdgbaaDoor
open Go.RowKit Go.Maps Go.WideMaps
def rcells (R : Refs) : List Value := R.flatMap fun r => [.string (mk r.1), .string (mk r.2)]
def ucells (us : List Upd) : List Value := us.flatMap fun u => [.string (mk u.name), .string (mk u.old), .string (mk u.new)]
theorem rcells_length (R : Refs) : (rcells R).length = R.length * 2 := by
  induction R with
  | nil => rfl
  | cons r R ih => unfold rcells at ih ⊢; simp [ih]; omega
theorem ucells_length (us : List Upd) : (ucells us).length = us.length * 3 := by
  induction us with
  | nil => rfl
  | cons r R ih => unfold ucells at ih ⊢; simp [ih]; omega
theorem rcells_one (R : Refs) : ∀ v ∈ rcells R, v.oneCell' = true := by
  intro v hv
  unfold rcells at hv
  obtain ⟨r, _, hr⟩ := List.mem_flatMap.1 hv
  simp at hr
  rcases hr with rfl | rfl <;> rfl
theorem ucells_one (us : List Upd) : ∀ v ∈ ucells us, v.oneCell' = true := by
  intro v hv
  unfold ucells at hv
  obtain ⟨r, _, hr⟩ := List.mem_flatMap.1 hv
  simp at hr
  rcases hr with rfl | rfl | rfl <;> rfl
theorem rcells_app (A B : Refs) : rcells (A ++ B) = rcells A ++ rcells B := by unfold rcells; rw [List.flatMap_append]
theorem ucells_app (A B : List Upd) : ucells (A ++ B) = ucells A ++ ucells B := by unfold ucells; rw [List.flatMap_append]
theorem rcells_cons (r : Bs × Bs) (B : Refs) : rcells (r :: B) = .string (mk r.1) :: .string (mk r.2) :: rcells B := by unfold rcells; rfl
theorem ucells_cons (r : Upd) (B : List Upd) : ucells (r :: B) = .string (mk r.name) :: .string (mk r.old) :: .string (mk r.new) :: ucells B := by unfold ucells; rfl
theorem rcells_at (R : Refs) : ∀ j (h : j < R.length), (rcells R)[j * 2]? = some (.string (mk R[j].1)) ∧ (rcells R)[j * 2 + 1]? = some (.string (mk R[j].2)) := by
  induction R with
  | nil => intro j h; simp at h
  | cons r R ih =>
    intro j h
    rw [rcells_cons]
    cases j with
    | zero => exact ⟨rfl, rfl⟩
    | succ j =>
      have := ih j (by simpa using h)
      rw [show (j + 1) * 2 = j * 2 + 1 + 1 by omega, show j * 2 + 1 + 1 + 1 = (j * 2 + 1) + 1 + 1 by omega]
      simpa using this
theorem ucells_at (us : List Upd) : ∀ j (h : j < us.length), (ucells us)[j * 3]? = some (.string (mk us[j].name)) ∧ (ucells us)[j * 3 + 1]? = some (.string (mk us[j].old)) ∧ (ucells us)[j * 3 + 2]? = some (.string (mk us[j].new)) := by
  induction us with
  | nil => intro j h; simp at h
  | cons r R ih =>
    intro j h
    rw [ucells_cons]
    cases j with
    | zero => exact ⟨rfl, rfl, rfl⟩
    | succ j =>
      have := ih j (by simpa using h)
      rw [show (j + 1) * 3 = j * 3 + 1 + 1 + 1 by omega, show j * 3 + 1 + 1 + 1 + 1 = (j * 3 + 1) + 1 + 1 + 1 by omega, show j * 3 + 1 + 1 + 1 + 2 = (j * 3 + 2) + 1 + 1 + 1 by omega]
      simpa using this
/-- These cells lie from A on. -/
def Lies (w : World) (A : Option Addr) (xs : List Value) : Prop := 0 < xs.length → ∃ g o, A = some ⟨g, o, none⟩ ∧ g < w.heap.size ∧ ∀ j u, xs[j]? = some u → w.cell? ⟨g, o + j, none⟩ = some u
theorem Lies.below {w w' : World} {A : Option Addr} {xs : List Value} (h : Lies w A xs) {B : Nat} (hB : w.heap.size ≤ B) (hb : Below B w w') : Lies w' A xs := by
  intro h0
  obtain ⟨g, o, rfl, hl, hc⟩ := h h0
  have hl' := Nat.lt_of_lt_of_le hl hB
  exact ⟨g, o, rfl, Nat.lt_of_lt_of_le hl hb.size, fun j u hu => (hb.cell (p := ⟨g, o + j, none⟩) hl').trans (hc j u hu)⟩
theorem add_lit' (g o j : Nat) : (⟨g, o, none⟩ : Addr).add j = ⟨g, o + j, none⟩ := by unfold Addr.add; split <;> simp_all
theorem row_form {w : World} {B n size : Nat} {e : TypeId} {v : Value} {xs : List Value} (h : w.ownsRow B e size v n xs) : ∃ A c, v = .slice A n c := by
  rcases h.2 with ⟨hv, rfl⟩ | ⟨g, c, cur, hv, _⟩
  · exact ⟨none, 0, hv⟩
  · exact ⟨_, c, hv⟩
theorem RefsAt.of_row {w : World} {B c : Nat} {A : Option Addr} {R : Refs} (h : w.ownsRow B 41 2 (.slice A R.length c) R.length (rcells R)) : RefsAt w A R := by
  intro h0
  rcases h.2 with ⟨_, e0⟩ | ⟨g, c', cur, hv, hg, hh, hc, _, hs, ht⟩
  · omega
  · injection hv with hA
    refine ⟨g, hA, (Array.getElem?_eq_some_iff.1 hh).1, fun j hj => ?_⟩
    have hcell : ∀ k, k < R.length * 2 → w.cell? ⟨g, k, none⟩ = (rcells R)[k]? := fun k hk => by
      rw [← ht, List.getElem?_take, if_pos hk]
      unfold World.cell?; rw [hh]; simp
    obtain ⟨a, b⟩ := rcells_at R j hj
    exact ⟨(hcell _ (by omega)).trans a, (hcell _ (by omega)).trans b⟩
theorem Lies.of_row {w : World} {B c n size : Nat} {e : TypeId} {A : Option Addr} {xs : List Value} (h : w.ownsRow B e size (.slice A n c) n xs) : Lies w A xs := by
  intro h0
  rcases h.2 with ⟨_, e0⟩ | ⟨g, c', cur, hv, hg, hh, hc, _, hs, ht⟩
  · have := h.1
    subst e0
    omega
  · injection hv with hA
    refine ⟨g, 0, hA, (Array.getElem?_eq_some_iff.1 hh).1, fun j u hj => ?_⟩
    have hk : j < n * size := by
      have := (List.getElem?_eq_some_iff.1 hj).1
      rw [h.1] at this; exact this
    rw [← ht, List.getElem?_take, if_pos hk] at hj
    unfold World.cell?; rw [hh]; simpa using hj
theorem RefsAt.lies {w : World} {A : Option Addr} {R : Refs} (h : RefsAt w A R) : Lies w A (rcells R) := by
  intro h0
  rw [rcells_length] at h0
  obtain ⟨g, rfl, hl, hc⟩ := h (by omega)
  refine ⟨g, 0, rfl, hl, fun j u hj => ?_⟩
  have hjl := (List.getElem?_eq_some_iff.1 hj).1
  rw [rcells_length] at hjl
  obtain ⟨c0, c1⟩ := hc (j / 2) (by omega)
  obtain ⟨d0, d1⟩ := rcells_at R (j / 2) (by omega)
  rw [Nat.zero_add]
  by_cases hm : j % 2 = 0
  · rw [show j / 2 * 2 = j by omega] at c0 d0
    rw [c0, ← d0, hj]
  · rw [show j / 2 * 2 + 1 = j by omega] at c1 d1
    rw [c1, ← d1, hj]
theorem Upds.lies {w : World} {A : Option Addr} {us : List Upd} (h : Upds w A us) : Lies w A (ucells us) := by
  intro h0
  rw [ucells_length] at h0
  obtain ⟨g, rfl, hl, hc⟩ := h (by omega)
  refine ⟨g, 0, rfl, hl, fun j u hj => ?_⟩
  have hjl := (List.getElem?_eq_some_iff.1 hj).1
  rw [ucells_length] at hjl
  obtain ⟨c0, c1, c2⟩ := hc (j / 3) (by omega)
  obtain ⟨d0, d1, d2⟩ := ucells_at us (j / 3) (by omega)
  rw [Nat.zero_add]
  have hm : j % 3 = 0 ∨ j % 3 = 1 ∨ j % 3 = 2 := by omega
  rcases hm with hm | hm | hm
  · rw [show j / 3 * 3 = j by omega] at c0 d0
    rw [c0, ← d0, hj]
  · rw [show j / 3 * 3 + 1 = j by omega] at c1 d1
    rw [c1, ← d1, hj]
  · rw [show j / 3 * 3 + 2 = j by omega] at c2 d2
    rw [c2, ← d2, hj]
theorem Upds.of_row {w : World} {B c : Nat} {A : Option Addr} {us : List Upd} (h : w.ownsRow B 39 3 (.slice A us.length c) us.length (ucells us)) : Upds w A us := by
  intro h0
  rcases h.2 with ⟨_, e0⟩ | ⟨g, c', cur, hv, hg, hh, hc, _, hs, ht⟩
  · omega
  · injection hv with hA
    refine ⟨g, hA, (Array.getElem?_eq_some_iff.1 hh).1, fun j hj => ?_⟩
    have hcell : ∀ k, k < us.length * 3 → w.cell? ⟨g, k, none⟩ = (ucells us)[k]? := fun k hk => by
      rw [← ht, List.getElem?_take, if_pos hk]
      unfold World.cell?; rw [hh]; simp
    obtain ⟨a, b, d⟩ := ucells_at us j hj
    exact ⟨(hcell _ (by omega)).trans a, (hcell _ (by omega)).trans b, (hcell _ (by omega)).trans d⟩
theorem slice_nil (t e : TypeId) (h : Tryd.prog.underlying t = some (.slice e)) (a : Option Addr) (n c : Nat) (w : World) : (binOp .eql t (.slice a n c) (.slice none 0 0)).run Tryd.prog w = .ok (.bool a.isNone) w := by
  have := run_equal_slice_nil (P := Tryd.prog) w t e a n c h
  simp only [binOp, Sem.run_bind, this]
  rfl
set_option maxRecDepth 100000 in
set_option maxHeartbeats 1600000 in
theorem clone_refs_any (A : Option Addr) (n cap : Nat) (xs : List Value) (w : World) (hA : A = none → n = 0) (hx : xs.length = n * 2) (h1 : ∀ v ∈ xs, v.oneCell' = true) (hn : n ≤ 1000000) (hL : Lies w A xs) :
    Calls Tryd.prog 28 #[.slice A n cap] w fun e w' => ∃ A' c', e = .returned (.slice A' n c') ∧ w'.ownsRow w.heap.size 41 2 (.slice A' n c') n xs ∧ Below w.heap.size w w' := by
  obtain ⟨i0, hi, hz0, hz1, hz2⟩ := info_parts info41
  have hq := fun w => slice_nil 28 41 Tryd.underlying28 A n cap w
  cases A with
  | none =>
    obtain rfl := hA rfl
    obtain rfl : xs = [] := List.eq_nil_of_length_eq_zero (by omega)
    clear hA hL h1 hx
    go_enter Tryd.func28, Tryd.ntmps28
    go_wp2
    go_ret
    exact ⟨none, 0, rfl, World.ownsRow_nil _ _ _ _, Below.refl _ _⟩
  | some a =>
    have HL := Lib.hid (show ∀ j u, xs[j]? = some u → (w.alloc (.cells #[] 41)).cell? (a.add j) = some u from fun j u hu => by
      obtain ⟨g, o, e, hl, hc⟩ := hL (by have := (List.getElem?_eq_some_iff.1 hu).1; omega)
      injection e with e
      rw [e, add_lit']
      exact ((below_alloc w _).cell (p := ⟨g, o + j, none⟩) hl).trans (hc j u hu))
    have H1 := Lib.hid h1
    have HX := Lib.hid hx
    clear hL hA h1 hx
    go_enter Tryd.func28, Tryd.ntmps28
    go_wp2_with (at_builtin; refine wpList_append_own _ rfl _ _ 28 rfl w.heap.size 41 i0 _ 2 32 Tryd.underlying28 hi hz0 hz1 hz2 rfl (by decide) _ _ _ rfl (World.ownsRow_made w #[] 0 (Nat.le_refl _) (Nat.zero_le _) rfl) a n cap xs rfl HX.out HL.out H1.out ?c4 ?c5 ?c6 ?_)
    case c4 => simp only [maxLen]; omega
    case c5 => omega
    case c6 => simp
    intro v' w1 hown hgrow hnil
    obtain ⟨A', c', rfl⟩ := row_form hown
    go_wp2
    go_ret
    exact ⟨A', c', by simp, by simpa using hown, ((Below.refl _ w).alloc (Nat.le_refl _) _).grown hgrow (by simp) (by intro k hk; simp [Value.ownBlock] at hk; omega)⟩
set_option maxRecDepth 100000 in
set_option maxHeartbeats 1600000 in
theorem clone_log_any (A : Option Addr) (n cap : Nat) (xs : List Value) (w : World) (hA : A = none → n = 0) (hx : xs.length = n * 3) (h1 : ∀ v ∈ xs, v.oneCell' = true) (hn : n ≤ 1000000) (hL : Lies w A xs) :
    Calls Tryd.prog 29 #[.slice A n cap] w fun e w' => ∃ A' c', e = .returned (.slice A' n c') ∧ w'.ownsRow w.heap.size 39 3 (.slice A' n c') n xs ∧ Below w.heap.size w w' := by
  obtain ⟨i0, hi, hz0, hz1, hz2⟩ := info_parts info39
  have hq := fun w => slice_nil 29 39 Tryd.underlying29 A n cap w
  cases A with
  | none =>
    obtain rfl := hA rfl
    obtain rfl : xs = [] := List.eq_nil_of_length_eq_zero (by omega)
    clear hA hL h1 hx
    go_enter Tryd.func29, Tryd.ntmps29
    go_wp2
    go_ret
    exact ⟨none, 0, rfl, World.ownsRow_nil _ _ _ _, Below.refl _ _⟩
  | some a =>
    have HL := Lib.hid (show ∀ j u, xs[j]? = some u → (w.alloc (.cells #[] 39)).cell? (a.add j) = some u from fun j u hu => by
      obtain ⟨g, o, e, hl, hc⟩ := hL (by have := (List.getElem?_eq_some_iff.1 hu).1; omega)
      injection e with e
      rw [e, add_lit']
      exact ((below_alloc w _).cell (p := ⟨g, o + j, none⟩) hl).trans (hc j u hu))
    have H1 := Lib.hid h1
    have HX := Lib.hid hx
    clear hL hA h1 hx
    go_enter Tryd.func29, Tryd.ntmps29
    go_wp2_with (at_builtin; refine wpList_append_own _ rfl _ _ 29 rfl w.heap.size 39 i0 _ 3 48 Tryd.underlying29 hi hz0 hz1 hz2 rfl (by decide) _ _ _ rfl (World.ownsRow_made w #[] 0 (Nat.le_refl _) (Nat.zero_le _) rfl) a n cap xs rfl HX.out HL.out H1.out ?c4 ?c5 ?c6 ?_)
    case c4 => simp only [maxLen]; omega
    case c5 => omega
    case c6 => simp
    intro v' w1 hown hgrow hnil
    obtain ⟨A', c', rfl⟩ := row_form hown
    go_wp2
    go_ret
    exact ⟨A', c', by simp, by simpa using hown, ((Below.refl _ w).alloc (Nat.le_refl _) _).grown hgrow (by simp) (by intro k hk; simp [Value.ownBlock] at hk; omega)⟩
end Go.Proofs.YtlkfnhcnfjdgbaaDoor
