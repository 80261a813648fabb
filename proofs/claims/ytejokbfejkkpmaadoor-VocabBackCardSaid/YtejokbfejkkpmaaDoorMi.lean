/- The two maps of a vocabulary's index: a number for a text, a text for a number. -/
import Derived.Test.YtejokbfejkkpmaaDoorSy
namespace Go.Proofs.YtejokbfejkkpmaaDoor
open Go.RowKit Go.Maps Go.WideMaps
theorem intLaw : Keyed Tryd.prog 3 := int_keyed Tryd.underlying3
theorem zero3 (w : World) : (zeroValue 3).run Tryd.prog w = .ok (.int .i64 0) w := by kernel_rfl
theorem zero9 (w : World) : (zeroValue 9).run Tryd.prog w = .ok (.string ⟨#[]⟩) w := by kernel_rfl
theorem wf64 (i : Int) (h0 : -9223372036854775808 ≤ i) (h1 : i ≤ 9223372036854775807) : (Lit.int .i64 i).wf = true := by
  have e0 : IntKind.i64.min = -9223372036854775808 := by decide
  have e1 : IntKind.i64.max = 9223372036854775807 := by decide
  simp [Lit.wf, e0, e1]; omega
/-- Block b is a map of at most n entries: each text's number. -/
def IdM (w : World) (b n : Nat) (f : Bs → Option Nat) : Prop :=
  ∃ D : DataW Unit, w.ownsMap Tryd.prog 9 (plainElem Tryd.prog 3) b n D ∧ ∀ t : Bs, Maps.has D (.string t) = (f t).isSome ∧ D.atKey (.string t) (.lit (.int .i64 0)) = .lit (.int .i64 (((f t).getD 0 : Nat) : Int))
/-- .. each number's text. -/
def TokM (w : World) (b n : Nat) (g : Int → Option Bs) : Prop :=
  ∃ D : DataW Unit, w.ownsMap Tryd.prog 3 (plainElem Tryd.prog 9) b n D ∧ ∀ i : Int, Maps.has D (.int .i64 i) = (g i).isSome ∧ D.atKey (.int .i64 i) (.lit (.string [])) = .lit (.string ((g i).getD []))
theorem IdM.made (w : World) : IdM (w.alloc (.map #[] 0)) w.heap.size 0 (fun _ => none) := ⟨.map [], World.ownsMap_made _ _ _ _, fun _ => ⟨rfl, rfl⟩⟩
theorem TokM.made (w : World) : TokM (w.alloc (.map #[] 0)) w.heap.size 0 (fun _ => none) := ⟨.map [], World.ownsMap_made _ _ _ _, fun _ => ⟨rfl, rfl⟩⟩
theorem IdM.kept {w w' : World} {b n : Nat} {f : Bs → Option Nat} {row : Option Nat} (h : IdM w b n f) (hg : w.grownBy w' row) (hne : some b ≠ row) : IdM w' b n f := by
  obtain ⟨D, h1, h2⟩ := h
  exact ⟨D, h1.kept hg hne, h2⟩
theorem TokM.kept {w w' : World} {b n : Nat} {f : Int → Option Bs} {row : Option Nat} (h : TokM w b n f) (hg : w.grownBy w' row) (hne : some b ≠ row) : TokM w' b n f := by
  obtain ⟨D, h1, h2⟩ := h
  exact ⟨D, h1.kept hg hne, h2⟩
theorem IdM.lt {w : World} {b n : Nat} {f : Bs → Option Nat} (h : IdM w b n f) : b < w.heap.size := by obtain ⟨D, h1, _⟩ := h; exact h1.lt
theorem TokM.lt {w : World} {b n : Nat} {f : Int → Option Bs} (h : TokM w b n f) : b < w.heap.size := by obtain ⟨D, h1, _⟩ := h; exact h1.lt
theorem IdM.look {w : World} {b n : Nat} {f : Bs → Option Nat} (h : IdM w b n f) (s : ByteArray) (hs : s.size ≤ maxLen) :
    (Instr.lookup 82 (.map (some b)) (.string s) true).run Tryd.prog w = .ok (.tuple #[.int .i64 (((f s.data.toList).getD 0 : Nat) : Int), .bool (f s.data.toList).isSome]) w := by
  obtain ⟨D, h1, h2⟩ := h
  obtain ⟨v, ps, hrun, hv⟩ := h1.look_ok keyLaw Tryd.underlying82 (zero3 w) (plainElem_int Tryd.underlying3 (by decide)) (keyOf_string_mk Tryd.underlying9 hs)
  rw [(h2 _).2] at hv
  obtain ⟨a, rfl, hz, _⟩ := plainElem_int_inv Tryd.underlying3 hv
  simp only [Prod.mk.injEq, DataW.lit.injEq, Lit.int.injEq] at hz
  rw [hrun, (h2 _).1, ← hz.1.2]
theorem plainElem_string_inv {H : Type} {P : Program} {e : TypeId} (he : P.underlying e = some .string) {v : Value} {x : Bs} {ps : List MemPlace} (h : plainElem (H := H) P e v = some (.lit (.string x), ps)) : v = .string (mk x) := by
  unfold plainElem at h
  rw [he] at h
  cases v <;> simp at h
  rename_i s
  obtain ⟨_, h, _⟩ := h
  rw [← h, mk_list]
theorem TokM.look {w : World} {b n : Nat} {g : Int → Option Bs} (h : TokM w b n g) (i : Int) (h0 : -9223372036854775808 ≤ i) (hi : i ≤ 9223372036854775807) :
    (Instr.lookup 83 (.map (some b)) (.int .i64 i) true).run Tryd.prog w = .ok (.tuple #[.string (mk ((g i).getD [])), .bool (g i).isSome]) w := by
  obtain ⟨D, h1, h2⟩ := h
  obtain ⟨v, ps, hrun, hv⟩ := h1.look_ok intLaw Tryd.underlying83 (zero9 w) (plainElem_string Tryd.underlying9 (by decide)) (keyOf_int_mk (a := i) Tryd.underlying3 (wf64 i h0 hi))
  rw [(h2 _).2] at hv
  obtain rfl := plainElem_string_inv Tryd.underlying9 hv
  rw [hrun, (h2 _).1]
/-- The first place from number n on. -/
def idsL : Nat → List Bs → Bs → Option Nat
  | _, [], _ => none
  | n, a :: l, t => if t = a then some n else idsL (n + 1) l t
/-- The text at a number from n on. -/
def tokL : Nat → List Bs → Int → Option Bs
  | _, [], _ => none
  | n, a :: l, i => if i = (n : Int) then some a else tokL (n + 1) l i
/-- 'm[text] = number' as a step of the walk. -/
theorem wpList_idm {w : World} {ops : Array Oper} {rest : List Oper} {o : Oper} {a : Act} {Q : Exit → Act → World → Prop} (hg : o.guard = none) (m x v : Operand) (hop : o.op = .mapUpdate 82 m x v)
    (b n : Nat) (l : List Bs) (t : Bs) (k : Nat) (hm : a.eval m = .map (some b)) (h : IdM w b n (idsL (k + 1) l)) (hn : n < maxLen) (hs : t.length ≤ maxLen) (hk : k ≤ 1000000) (hx : a.eval x = .string (mk t)) (hv : a.eval v = .int .i64 k)
    (hK : ∀ w', IdM w' b (n + 1) (idsL k (t :: l)) → w.grownBy w' (some b) → wpList Tryd.prog ops Q rest (a.put o.dst undef) w') : wpList Tryd.prog ops Q (o :: rest) a w := by
  obtain ⟨D, h1, h2⟩ := h
  refine wpList_mapUpdate_own w hg m x v 82 hop 9 3 keyLaw Tryd.underlying82 _ b n D hm h1 hn _ _ _ hx hv (keyOf_string_mk Tryd.underlying9 (by rw [mk_size]; exact hs)) _ [] (plainElem_int Tryd.underlying3 (wf64 k (by omega) (by omega))) ?_
  intro w' h3 h4
  rw [mk_data] at h3
  refine hK w' ⟨_, h3, fun u => ?_⟩ h4
  by_cases hu : u = t
  · subst hu
    rw [has_put_same (k := .string u) h1.isMap trivial, atKey_put_same (k := .string u) h1.isMap trivial]
    simp [idsL]
  · rw [has_put_other (by intro e; exact hu (by injection e)), atKey_put_other (by intro e; exact hu (by injection e)), (h2 u).1, (h2 u).2]
    simp [idsL, hu]
/-- 'm[number] = text' as a step of the walk. -/
theorem wpList_tokm {w : World} {ops : Array Oper} {rest : List Oper} {o : Oper} {a : Act} {Q : Exit → Act → World → Prop} (hg : o.guard = none) (m x v : Operand) (hop : o.op = .mapUpdate 83 m x v)
    (b n : Nat) (l : List Bs) (t : Bs) (k : Nat) (hm : a.eval m = .map (some b)) (h : TokM w b n (tokL (k + 1) l)) (hn : n < maxLen) (hs : t.length ≤ maxLen) (hk : k ≤ 1000000) (hx : a.eval v = .string (mk t)) (hv : a.eval x = .int .i64 k)
    (hK : ∀ w', TokM w' b (n + 1) (tokL k (t :: l)) → w.grownBy w' (some b) → wpList Tryd.prog ops Q rest (a.put o.dst undef) w') : wpList Tryd.prog ops Q (o :: rest) a w := by
  obtain ⟨D, h1, h2⟩ := h
  refine wpList_mapUpdate_own w hg m x v 83 hop 3 9 intLaw Tryd.underlying83 _ b n D hm h1 hn _ _ _ hv hx (keyOf_int_mk Tryd.underlying3 (wf64 k (by omega) (by omega))) _ [] (plainElem_string Tryd.underlying9 (by rw [mk_size]; exact hs)) ?_
  intro w' h3 h4
  rw [mk_data] at h3
  refine hK w' ⟨_, h3, fun u => ?_⟩ h4
  by_cases hu : u = (k : Int)
  · subst hu
    rw [has_put_same (k := .int .i64 (k : Int)) h1.isMap trivial, atKey_put_same (k := .int .i64 (k : Int)) h1.isMap trivial]
    simp [tokL]
  · rw [has_put_other (by intro e; exact hu (by injection e)), atKey_put_other (by intro e; exact hu (by injection e)), (h2 u).1, (h2 u).2]
    simp [tokL, hu]
end Go.Proofs.YtejokbfejkkpmaaDoor
