/- What the building of the document's table needs: appends of what lies anywhere. -/
import Derived.Test.YtlkfnhcnfjdgbaaDoorRr
import Derived.Test.YtlkfnhcnfjdgbaaDoorTi
import Derived.Test.YtlkfnhcnfjdgbaaDoorAu
namespace Go.Proofs.YtlkfnhcnfjdgbaaDoor
open Go.RowKit Go.Maps Go.WideMaps
theorem run_app {w : World} {P : Program} (ty t e : TypeId) (i : TypeInfo) (z : Value) (size bytes : Nat) (ht : P.underlying t = some (.slice e)) (hi : P.info? e = some i) (hz : i.zero = some z) (hs : i.size = size) (hby : i.bytes = bytes) (hzs : z.cells.size = size) (hsz : 0 < size)
    (B : Nat) (v : Value) (n : Nat) (xs : List Value) (hown : w.ownsRow B e size v n xs) (A : Option Addr) (m c : Nat) (news : List Value) (hl : news.length = m * size) (hL : Lies w A news) (h1 : ∀ u ∈ news, u.oneCell' = true) (h63 : n + m ≤ 10000000) (hby2 : bytes ≤ 1000) (hB : B ≤ w.heap.size) :
    ∃ A' c' w', (Builtin.append_ #[t, t] ty #[v, .slice A m c]).run P w = .ok (.slice A' (n + m) c') w' ∧ w'.ownsRow B e size (.slice A' (n + m) c') (n + m) (xs ++ news) ∧ w.grownBy w' v.ownBlock := by
  have hform : ∀ {w' : World} {v' : Value} {k : Nat} {ys : List Value}, w'.ownsRow B e size v' k ys → ∃ A' c', v' = .slice A' k c' := by
    intro w' v' k ys h
    rcases h.2 with ⟨h1, h2⟩ | ⟨g, cap, cur, h1, _⟩
    · subst h2; exact ⟨_, _, h1⟩
    · exact ⟨_, _, h1⟩
  have hb2 : (n + m) * bytes ≤ 140737488355328 := by
    have := Nat.mul_le_mul h63 hby2
    omega
  cases A with
  | none =>
    have hm0 : news = [] := by
      cases news with
      | nil => rfl
      | cons a l => obtain ⟨g, o, hA, _⟩ := hL (by simp); cases hA
    subst hm0
    have hm : m = 0 := by
      rcases Nat.eq_zero_or_pos m with h | h
      · exact h
      · have := Nat.mul_pos h hsz; simp at hl; omega
    subst hm
    obtain ⟨A', c', rfl⟩ := hform hown
    refine ⟨A', c', w, ?_, by simpa using hown, World.grownBy.refl w _⟩
    rcases hown.2 with ⟨hv, h2⟩ | ⟨g, cap, cur, hv, _, _, hnc, _⟩
    · injection hv with e1 e2 e3
      subst e1; subst e3; subst h2
      simp [Builtin.append_, run_underlying ht, sizeOf, typeInfo, hi, Builtin.lenOf, Builtin.firstCells]
    · injection hv with e1 e2 e3
      subst e1; subst e3
      simp [Builtin.append_, run_underlying ht, sizeOf, typeInfo, hi, Builtin.lenOf, Builtin.firstCells, hnc, storeCells]
  | some ad =>
    have hcells : ∀ j u, news[j]? = some u → w.cell? (ad.add j) = some u := by
      intro j u hu
      obtain ⟨g, o, hA, _, hc⟩ := hL (by have := (List.getElem?_eq_some_iff.1 hu).1; omega)
      injection hA with hA
      subst hA
      rw [add_lit']
      exact hc j u hu
    obtain ⟨v', w', hrun, h2, h3, _⟩ := run_append_own_at (P := P) w B t ty e i z size bytes ht hi hz hs hby hzs hsz v n xs hown ad m c news hl hcells h1 (by simp only [maxLen]; omega) hb2 hB
    obtain ⟨A', c', rfl⟩ := hform h2
    exact ⟨A', c', w', hrun, h2, h3⟩
/-- 'row = append(row, what lies anywhere...)' in a walk. -/
theorem wpList_app {w : World} {ops : Array Oper} {rest : List Oper} {o : Oper} {a : Act} {Q : Exit → Act → World → Prop} (hgd : o.guard = none) (s x : Operand) (t e : TypeId)
    (ho : o.op = .call { callee := .builtin .append, args := #[s, x], argTypes := #[t, t] }) (i : TypeInfo) (z : Value) (size bytes : Nat) (ht : Tryd.prog.underlying t = some (.slice e)) (hi : Tryd.prog.info? e = some i) (hz : i.zero = some z) (hs : i.size = size) (hby : i.bytes = bytes) (hzs : z.cells.size = size) (hsz : 0 < size)
    (B : Nat) (v : Value) (hsv : a.eval s = v) (n : Nat) (xs : List Value) (hown : w.ownsRow B e size v n xs) (A : Option Addr) (m c : Nat) (hx : a.eval x = .slice A m c) (news : List Value) (hl : news.length = m * size) (hL : Lies w A news) (h1 : ∀ u ∈ news, u.oneCell' = true) (h63 : n + m ≤ 10000000) (hby2 : bytes ≤ 1000) (hB : B ≤ w.heap.size)
    (hK : ∀ A' c' w', w'.ownsRow B e size (.slice A' (n + m) c') (n + m) (xs ++ news) → w.grownBy w' v.ownBlock → wpList Tryd.prog ops Q rest (a.put o.dst (.slice A' (n + m) c')) w') : wpList Tryd.prog ops Q (o :: rest) a w :=
  wpList_plain hgd fun K hK2 => by
    obtain ⟨A', c', w', hrun, h2, h3⟩ := run_app (P := Tryd.prog) o.type t e i z size bytes ht hi hz hs hby hzs hsz B v n xs hown A m c news hl hL h1 h63 hby2 hB
    unfold Oper.wp execOp
    simp only [ho, resolve, invoke, builtin, Sem.run_bind, Sem.run_pure, Result.andThen_ok, List.map_toArray, List.map_cons, List.map_nil, hsv, hx, hrun]
    exact hK2 _ _ (hK A' c' w' h2 h3)
theorem info66r : (Tryd.prog.info? 66).map (fun i => (i.zero, i.size, i.bytes)) = some (some (.agg #[.string ⟨#[]⟩, .string ⟨#[]⟩, .string ⟨#[]⟩]), 3, 48) := by kernel_rfl
theorem info76r : (Tryd.prog.info? 76).map (fun i => (i.zero, i.size, i.bytes)) = some (some (.agg #[.string ⟨#[]⟩, .string ⟨#[]⟩]), 2, 32) := by kernel_rfl
theorem cut_log32 (A : Option Addr) (N c lo : Nat) (w : World) (h : lo ≤ N) : (Instr.slice 32 (.slice A N c) (some (.int .i64 (lo : Int))) none none).run Tryd.prog w = .ok (.slice (if c = lo then A else A.map (·.add (lo * 3))) (N - lo) (c - lo)) w := by
  obtain ⟨i0, hi, _, h1, _⟩ := info_parts info66r
  rw [run_slice_l (P := Tryd.prog) w 32 A N c (by kernel_rfl) .i64 lo (by omega) (by omega)]
  have hs : (sizeOf (Tryd.prog.elem 32)).run Tryd.prog w = .ok 3 w := by
    rw [show Tryd.prog.elem 32 = 66 by kernel_rfl]
    simp [sizeOf, typeInfo, hi, h1]
  rw [hs]
  simp [Result.andThen, sliced]
theorem cut_ref43 (A : Option Addr) (N c lo : Nat) (w : World) (h : lo ≤ N) : (Instr.slice 43 (.slice A N c) (some (.int .i64 (lo : Int))) none none).run Tryd.prog w = .ok (.slice (if c = lo then A else A.map (·.add (lo * 2))) (N - lo) (c - lo)) w := by
  obtain ⟨i0, hi, _, h1, _⟩ := info_parts info76r
  rw [run_slice_l (P := Tryd.prog) w 43 A N c (by kernel_rfl) .i64 lo (by omega) (by omega)]
  have hs : (sizeOf (Tryd.prog.elem 43)).run Tryd.prog w = .ok 2 w := by
    rw [show Tryd.prog.elem 43 = 76 by kernel_rfl]
    simp [sizeOf, typeInfo, hi, h1]
  rw [hs]
  simp [Result.andThen, sliced]
theorem rcells_drop (R : Refs) (k : Nat) : rcells (R.drop k) = (rcells R).drop (k * 2) := by
  induction k generalizing R with
  | zero => simp
  | succ k ih =>
    cases R with
    | nil => simp [rcells]
    | cons r R =>
      rw [List.drop_succ_cons, ih, rcells_cons, show (k + 1) * 2 = k * 2 + 1 + 1 by omega]
      rfl
theorem rcells_take (R : Refs) (k : Nat) : rcells (R.take k) = (rcells R).take (k * 2) := by
  induction k generalizing R with
  | zero => simp [rcells]
  | succ k ih =>
    cases R with
    | nil => simp [rcells]
    | cons r R =>
      rw [List.take_succ_cons, rcells_cons, rcells_cons, ih, show (k + 1) * 2 = k * 2 + 1 + 1 by omega]
      rfl
theorem lies_take {w : World} {A : Option Addr} {R : Refs} (k : Nat) (h : Lies w A (rcells R)) : Lies w A (rcells (R.take k)) := by
  intro h0
  rw [rcells_take] at h0
  obtain ⟨g, o, hA, hg, hx⟩ := h (by rw [List.length_take] at h0; omega)
  refine ⟨g, o, hA, hg, fun j u hu => hx j u ?_⟩
  rw [rcells_take] at hu
  have := (List.getElem?_eq_some_iff.1 hu).1
  rw [List.getElem?_take_of_lt (by rw [List.length_take] at this; omega)] at hu
  exact hu
theorem lies_drop {w : World} {A : Option Addr} {R : Refs} {c lo : Nat} (h : Lies w A (rcells R)) (hc : R.length ≤ c) (hl : lo ≤ R.length) : Lies w (if c = lo then A else A.map (·.add (lo * 2))) (rcells (R.drop lo)) := by
  intro h0
  rw [rcells_length, List.length_drop] at h0
  rw [if_neg (by omega)]
  obtain ⟨g, o, rfl, hg, hx⟩ := h (by rw [rcells_length]; omega)
  refine ⟨g, o + lo * 2, by rw [Option.map_some, add_lit'], hg, fun j u hu => ?_⟩
  rw [rcells_drop, List.getElem?_drop] at hu
  rw [Nat.add_assoc]
  exact hx _ u hu
theorem cut_ref43_h (A : Option Addr) (n c p : Nat) (w : World) (h : p ≤ c) : (Instr.slice 43 (.slice A n c) none (some (.int .i64 (p : Int))) none).run Tryd.prog w = .ok (.slice A p c) w := by
  obtain ⟨i0, hi, _, h1, _⟩ := info_parts info76r
  rw [run_slice_h (P := Tryd.prog) w 43 A n c (by kernel_rfl) .i64 p (by omega) (by omega)]
  have hs : (sizeOf (Tryd.prog.elem 43)).run Tryd.prog w = .ok 2 w := by
    rw [show Tryd.prog.elem 43 = 76 by kernel_rfl]
    simp [sizeOf, typeInfo, hi, h1]
  rw [hs]
  cases A <;> simp [Result.andThen, sliced]
  all_goals (try (intro _; rfl))
theorem own_weaken {w : World} {B B' e size n : Nat} {v : Value} {xs : List Value} (h : w.ownsRow B e size v n xs) (hB : B' ≤ B) : w.ownsRow B' e size v n xs :=
  ⟨h.1, h.2.imp id (fun ⟨g, c, cur, h1, h2, h3⟩ => ⟨g, c, cur, h1, Nat.le_trans hB h2, h3⟩)⟩
theorem step_app {w : World} {ops : Array Oper} {o : Oper} {a : Act} {K : Act → World → Prop} {Q : Exit → Act → World → Prop} {E : Prop} (hgd : o.guard = none) (s x : Operand) (t e : TypeId)
    (ho : o.op = .call { callee := .builtin .append, args := #[s, x], argTypes := #[t, t] }) (i : TypeInfo) (z : Value) (size bytes : Nat) (ht : Tryd.prog.underlying t = some (.slice e)) (hi : Tryd.prog.info? e = some i) (hz : i.zero = some z) (hs : i.size = size) (hby : i.bytes = bytes) (hzs : z.cells.size = size) (hsz : 0 < size)
    (B : Nat) (v : Value) (hsv : a.eval s = v) (n : Nat) (xs : List Value) (hown : w.ownsRow B e size v n xs) (A : Option Addr) (m c : Nat) (hx : a.eval x = .slice A m c) (news : List Value) (hl : news.length = m * size) (hL : Lies w A news) (h1 : ∀ u ∈ news, u.oneCell' = true) (h63 : n + m ≤ 10000000) (hby2 : bytes ≤ 1000) (hB : B ≤ w.heap.size)
    (hK : ∀ A' c' w', w'.ownsRow B e size (.slice A' (n + m) c') (n + m) (xs ++ news) → w.grownBy w' v.ownBlock → K (a.put o.dst (.slice A' (n + m) c')) w') :
    if Region.wanted o (yielded ops a.tmps) = true then Oper.wp Tryd.prog o a w K Q else E := by
  have hw : Region.wanted o (yielded ops a.tmps) = true := by simp [Region.wanted, hgd]
  rw [if_pos hw]
  obtain ⟨A', c', w', hrun, h2, h3⟩ := run_app (P := Tryd.prog) o.type t e i z size bytes ht hi hz hs hby hzs hsz B v n xs hown A m c news hl hL h1 h63 hby2 hB
  unfold Oper.wp execOp
  simp only [ho, resolve, invoke, builtin, Sem.run_bind, Sem.run_pure, Result.andThen_ok, List.map_toArray, List.map_cons, List.map_nil, hsv, hx, hrun]
  exact hK _ _ _ h2 h3
end Go.Proofs.YtlkfnhcnfjdgbaaDoor
