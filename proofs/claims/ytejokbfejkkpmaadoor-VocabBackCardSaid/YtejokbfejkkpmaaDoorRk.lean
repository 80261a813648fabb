/- The ranks of pairs, in a map whose keys are structs: what it holds, a look-up, a store. -/
import Derived.Test.YtejokbfejkkpmaaDoorMi
import Derived.DeepKeys5
namespace Go.Proofs.YtejokbfejkkpmaaDoor
open Go.RowKit Go.Maps Go.WideMaps
abbrev Pr := Bs × Bs
theorem laidRk : laidOutB Tryd.prog = true := by kernel_rfl
theorem keyType55 : Tryd.prog.keyType 55 = true := by kernel_rfl
theorem keyLawP : Keyed Tryd.prog 55 := Keyed.of_law (deep_law_gate laidRk (of_decide_eq_true (by kernel_rfl)) (of_decide_eq_true (by kernel_rfl)) keyType55 (by kernel_rfl))
/-- The bytes by which a pair is a key. -/
def pk (p : Pr) : Bs := keyBytes [.string p.1, .string p.2]
theorem size_types : Tryd.prog.types.size = 209 := by kernel_rfl
theorem lits_str (d : Nat) (s : ByteArray) (h : s.size ≤ maxLen) : Tryd.prog.keyLits (d + 1) 9 [.string s] = some [.string s.data.toList] := by
  unfold Program.keyLits
  rw [Tryd.underlying9]
  simp only
  rw [if_pos h]
theorem lits_pair (d : Nat) (a b : ByteArray) (ha : a.size ≤ maxLen) (hb : b.size ≤ maxLen) : Tryd.prog.keyLits (d + 1 + 1) 55 [.string a, .string b] = some [.string a.data.toList, .string b.data.toList] := by
  have h1 : Tryd.prog.cellsOf 55 = 2 := by kernel_rfl
  have h2 : Tryd.prog.cellsOf 9 = 1 := by kernel_rfl
  unfold Program.keyLits
  rw [Tryd.underlying55]
  simp only
  rw [if_pos ⟨by rw [h1]; rfl, by simp⟩]
  simp [h2, lits_str d a ha, lits_str d b hb]
theorem keyOf_pair (a b : ByteArray) (ha : a.size ≤ maxLen) (hb : b.size ≤ maxLen) : keyOf Tryd.prog 55 (.agg #[.string a, .string b]) = some (.string (pk (a.data.toList, b.data.toList))) := by
  have h1 : Tryd.prog.cellsOf 55 = 2 := by kernel_rfl
  have hf : Value.formed Tryd.prog 55 (.agg #[.string a, .string b]) = true := by
    simp only [Value.formed, Tryd.underlying55, h1]; rfl
  have hl := lits_pair 208 a b ha hb
  unfold keyOf
  rw [Tryd.underlying55]
  simp only [keyType55, Bool.true_and, size_types]
  rw [if_pos hf, show (Value.agg #[.string a, .string b]).cells.toList = [.string a, .string b] from rfl, show 209 + 1 = 208 + 1 + 1 from rfl, hl]
  rfl
theorem pk_inj (p q : Pr) (h1 : p.1.length ≤ maxLen) (h2 : p.2.length ≤ maxLen) (h3 : q.1.length ≤ maxLen) (h4 : q.2.length ≤ maxLen) (h : pk p = pk q) : p = q := by
  have a := keyOf_pair (mk p.1) (mk p.2) (by rw [mk_size]; exact h1) (by rw [mk_size]; exact h2)
  have b := keyOf_pair (mk q.1) (mk q.2) (by rw [mk_size]; exact h3) (by rw [mk_size]; exact h4)
  rw [mk_data, mk_data] at a b
  rw [show pk (p.1, p.2) = pk (q.1, q.2) from h] at a
  have e := keyLawP.inj a b
  simp only [Value.agg.injEq, Array.mk.injEq, List.cons.injEq, Value.string.injEq, and_true] at e
  have e1 := congrArg (fun s : ByteArray => s.data.toList) e.1
  have e2 := congrArg (fun s : ByteArray => s.data.toList) e.2
  simp only [mk_data] at e1 e2
  exact Prod.ext e1 e2
/-- Block b of w is a map of at most n entries: each pair's rank. -/
def RankM (w : World) (b n : Nat) (f : Pr → Option Nat) : Prop :=
  ∃ D : DataW Unit, w.ownsMap Tryd.prog 55 (plainElem Tryd.prog 3) b n D ∧ ∀ p : Pr, p.1.length ≤ maxLen → p.2.length ≤ maxLen → Maps.has D (.string (pk p)) = (f p).isSome ∧ D.atKey (.string (pk p)) (.lit (.int .i64 0)) = .lit (.int .i64 (((f p).getD 0 : Nat) : Int))
theorem RankM.made (w : World) : RankM (w.alloc (.map #[] 0)) w.heap.size 0 (fun _ => none) := ⟨.map [], World.ownsMap_made _ _ _ _, fun _ _ _ => ⟨rfl, rfl⟩⟩
theorem RankM.kept {w w' : World} {b n : Nat} {f : Pr → Option Nat} {row : Option Nat} (h : RankM w b n f) (hg : w.grownBy w' row) (hne : some b ≠ row) : RankM w' b n f := by
  obtain ⟨D, h1, h2⟩ := h
  exact ⟨D, h1.kept hg hne, h2⟩
theorem RankM.lt {w : World} {b n : Nat} {f : Pr → Option Nat} (h : RankM w b n f) : b < w.heap.size := by obtain ⟨D, h1, _⟩ := h; exact h1.lt
theorem RankM.alloc {w : World} {b n : Nat} {f : Pr → Option Nat} (h : RankM w b n f) (o : Obj) : RankM (w.alloc o) b n f := h.kept (World.grownBy_alloc w o none) (by simp)
theorem RankM.congr {w : World} {b n : Nat} {f g : Pr → Option Nat} (h : RankM w b n f) (e : ∀ p, g p = f p) : RankM w b n g := by
  have : g = f := funext e
  rw [this]; exact h
theorem RankM.not_row {w : World} {b n : Nat} {f : Pr → Option Nat} (h : RankM w b n f) {B : Nat} {e : TypeId} {size k : Nat} {v : Value} {xs : List Value} (hr : w.ownsRow B e size v k xs) : v.ownBlock ≠ some b := by
  obtain ⟨D, ⟨es, cl, he, _⟩, _⟩ := h
  rcases hr.2 with ⟨rfl, _⟩ | ⟨g, c, cur, rfl, _, hg, _⟩
  · simp [Value.ownBlock]
  · intro e
    simp only [Value.ownBlock, Option.some.injEq] at e
    subst e
    rw [he] at hg; cases hg
theorem RankM.not_cells {w : World} {b n g : Nat} {f : Pr → Option Nat} (h : RankM w b n f) {cs : Array Value} {t : TypeId} {fr : Nat × Nat} (hg : w.heap[g]? = some (.cells cs t fr)) : g ≠ b := by
  obtain ⟨D, ⟨es, cl, he, _⟩, _⟩ := h
  rintro rfl
  rw [he] at hg; cases hg
theorem RankM.look {w : World} {b n : Nat} {f : Pr → Option Nat} (h : RankM w b n f) (p : Pr) (h1 : p.1.length ≤ maxLen) (h2 : p.2.length ≤ maxLen) :
    (Instr.lookup 110 (.map (some b)) (.agg #[.string (mk p.1), .string (mk p.2)]) true).run Tryd.prog w = .ok (.tuple #[.int .i64 (((f p).getD 0 : Nat) : Int), .bool (f p).isSome]) w := by
  obtain ⟨D, hD, hS⟩ := h
  have hk := keyOf_pair (mk p.1) (mk p.2) (by rw [mk_size]; exact h1) (by rw [mk_size]; exact h2)
  rw [mk_data, mk_data] at hk
  obtain ⟨v, ps, hrun, hv⟩ := hD.look_ok keyLawP Tryd.underlying110 (zero3 w) (plainElem_int Tryd.underlying3 (by decide)) hk
  rw [(hS _ h1 h2).2] at hv
  obtain ⟨a, rfl, hz, _⟩ := plainElem_int_inv Tryd.underlying3 hv
  simp only [Prod.mk.injEq, DataW.lit.injEq, Lit.int.injEq] at hz
  rw [hrun, (hS _ h1 h2).1, ← hz.1.2]
/-- The first place of a pair, from n on. -/
def rkL : Nat → List Pr → Pr → Option Nat
  | _, [], _ => none
  | n, a :: l, p => if p = a then some n else rkL (n + 1) l p
/-- 'm[p] = k' as a step of a region that draws its order: the run. -/
theorem run_rankm {w : World} (b n : Nat) (l : List Pr) (p : Pr) (k : Nat) (h : RankM w b n (rkL (k + 1) l)) (hn : n < maxLen) (h1 : p.1.length ≤ maxLen) (h2 : p.2.length ≤ maxLen) (hk : k ≤ 1000000)
    {ops : Array Oper} {rest : List Oper} {o : Oper} {a : Act} {Q : Exit → Act → World → Prop} (hg : o.guard = none) (m x v : Operand) (hop : o.op = .mapUpdate 110 m x v)
    (hm : a.eval m = .map (some b)) (hx : a.eval x = .agg #[.string (mk p.1), .string (mk p.2)]) (hv : a.eval v = .int .i64 k)
    (hK : ∀ w', RankM w' b (n + 1) (rkL k (p :: l)) → w.grownBy w' (some b) → wpList Tryd.prog ops Q rest (a.put o.dst undef) w') : wpList Tryd.prog ops Q (o :: rest) a w := by
  obtain ⟨D, hD, hS⟩ := h
  have hkk := keyOf_pair (mk p.1) (mk p.2) (by rw [mk_size]; exact h1) (by rw [mk_size]; exact h2)
  rw [mk_data, mk_data] at hkk
  refine wpList_mapUpdate_own w hg m x v 110 hop 55 3 keyLawP Tryd.underlying110 _ b n D hm hD hn _ _ _ hx hv hkk _ [] (plainElem_int Tryd.underlying3 (wf64 k (by omega) (by omega))) ?_
  intro w' h3 h4
  refine hK w' ⟨_, h3, fun u hu1 hu2 => ?_⟩ h4
  by_cases hu : u = p
  · subst hu
    rw [has_put_same (k := .string (pk u)) hD.isMap trivial, atKey_put_same (k := .string (pk u)) hD.isMap trivial]
    simp [rkL]
  · have hne : Lit.string (pk u) ≠ .string (pk p) := by intro e; exact hu (pk_inj _ _ hu1 hu2 h1 h2 (by injection e))
    rw [has_put_other hne, atKey_put_other hne, (hS u hu1 hu2).1, (hS u hu1 hu2).2]
    simp [rkL, hu]
end Go.Proofs.YtejokbfejkkpmaaDoor
