/- A set of pairs of texts in a map that the call itself has made: what it holds, a look-up, a store. -/
import Derived.Test.YtkaejgpnhcdlnaaDoorVcMl
import Derived.Test.YtkaejgpnhcdlnaaDoorVcPv
import Derived.Test.YtkaejgpnhcdlnaaDoorBase
import Derived.DeepKeys5
namespace Go.Proofs.YtkaejgpnhcdlnaaDoor.Vc
open Go.RowKit Go.Maps Go.WideMaps
theorem info79 : (Tryd.prog.info? 79).map (fun i => (i.zero, i.size, i.bytes)) = some (some (.agg #[.string ⟨#[]⟩, .string ⟨#[]⟩]), 2, 32) := by kernel_rfl
theorem keyType79 : Tryd.prog.keyType 79 = true := by kernel_rfl
theorem keyLawP : Keyed Tryd.prog 79 := Keyed.of_law (deep_law_gate laidOut (of_decide_eq_true (by kernel_rfl)) (of_decide_eq_true (by kernel_rfl)) keyType79 (by kernel_rfl))
/-- The bytes by which a pair is a key. -/
def pk (p : Pr) : Bs := keyBytes [.string p.1, .string p.2]
theorem size_types : Tryd.prog.types.size = 153 := by kernel_rfl
theorem lits_str (d : Nat) (s : ByteArray) (h : s.size ≤ maxLen) : Tryd.prog.keyLits (d + 1) 9 [.string s] = some [.string s.data.toList] := by
  unfold Program.keyLits
  rw [Tryd.underlying9]
  simp only
  rw [if_pos h]
theorem lits_pair (d : Nat) (a b : ByteArray) (ha : a.size ≤ maxLen) (hb : b.size ≤ maxLen) : Tryd.prog.keyLits (d + 1 + 1) 79 [.string a, .string b] = some [.string a.data.toList, .string b.data.toList] := by
  have h1 : Tryd.prog.cellsOf 79 = 2 := by kernel_rfl
  have h2 : Tryd.prog.cellsOf 9 = 1 := by kernel_rfl
  unfold Program.keyLits
  rw [Tryd.underlying79]
  simp only
  rw [if_pos ⟨by rw [h1]; rfl, by simp⟩]
  simp [h2, lits_str d a ha, lits_str d b hb]
theorem keyOf_pair (a b : ByteArray) (ha : a.size ≤ maxLen) (hb : b.size ≤ maxLen) : keyOf Tryd.prog 79 (.agg #[.string a, .string b]) = some (.string (pk (a.data.toList, b.data.toList))) := by
  have h1 : Tryd.prog.cellsOf 79 = 2 := by kernel_rfl
  have hf : Value.formed Tryd.prog 79 (.agg #[.string a, .string b]) = true := by
    simp only [Value.formed, Tryd.underlying79, h1]; rfl
  have hl := lits_pair 152 a b ha hb
  unfold keyOf
  rw [Tryd.underlying79]
  simp only [keyType79, Bool.true_and, size_types]
  rw [if_pos hf, show (Value.agg #[.string a, .string b]).cells.toList = [.string a, .string b] from rfl, show 153 + 1 = 152 + 1 + 1 from rfl, hl]
  rfl
theorem pk_inj (p q : Pr) (h1 : p.1.length ≤ maxLen) (h2 : p.2.length ≤ maxLen) (h3 : q.1.length ≤ maxLen) (h4 : q.2.length ≤ maxLen) (h : pk p = pk q) : p = q := by
  have a := keyOf_pair (mk p.1) (mk p.2) (by rw [mk_size]; exact h1) (by rw [mk_size]; exact h2)
  have b := keyOf_pair (mk q.1) (mk q.2) (by rw [mk_size]; exact h3) (by rw [mk_size]; exact h4)
  rw [mk_data, mk_data] at a b
  rw [show pk (p.1, p.2) = pk (q.1, q.2) from h] at a
  have e := keyLawP.inj a b
  simp only [Value.agg.injEq, Array.mk.injEq, List.cons.injEq, Value.string.injEq, and_true] at e
  have e1 := congrArg (fun s : ByteArray => s.data.toList) e.1
  have e2 := congrArg (fun s : ByteArray => s.data.toList) e.2
  simp only [mk_data] at e1 e2
  exact Prod.ext e1 e2
/-- Block b of w is a map of at most n entries, in which just the pairs of S are known. -/
def KnownP (w : World) (b n : Nat) (S : Pr → Bool) : Prop :=
  ∃ D : DataW Unit, w.ownsMap Tryd.prog 79 (plainElem Tryd.prog 4) b n D ∧ ∀ p : Pr, p.1.length ≤ maxLen → p.2.length ≤ maxLen → D.atKey (.string (pk p)) (.lit (.bool false)) = .lit (.bool (S p))
theorem KnownP.made (w : World) : KnownP (w.alloc (.map #[] 0)) w.heap.size 0 (fun _ => false) :=
  ⟨.map [], World.ownsMap_made _ _ _ _, fun _ _ _ => rfl⟩
theorem KnownP.kept {w w' : World} {b n : Nat} {S : Pr → Bool} {row : Option Nat} (h : KnownP w b n S) (hg : w.grownBy w' row) (hne : some b ≠ row) : KnownP w' b n S := by
  obtain ⟨D, h1, h2⟩ := h
  exact ⟨D, h1.kept hg hne, h2⟩
theorem KnownP.lt {w : World} {b n : Nat} {S : Pr → Bool} (h : KnownP w b n S) : b < w.heap.size := by
  obtain ⟨D, h1, _⟩ := h
  exact h1.lt
theorem KnownP.alloc {w : World} {b n : Nat} {S : Pr → Bool} (h : KnownP w b n S) (o : Obj) : KnownP (w.alloc o) b n S := h.kept (World.grownBy_alloc w o none) (by simp)
theorem KnownP.below {w w' : World} {b n : Nat} {S : Pr → Bool} (h : KnownP w b n S) (hb : Below w.heap.size w w') : KnownP w' b n S :=
  h.kept (row := none) ⟨hb.os, hb.tape, hb.output, hb.size, fun k hk _ => hb.block k hk⟩ (by simp)
theorem KnownP.congr {w : World} {b n : Nat} {S S2 : Pr → Bool} (h : KnownP w b n S) (e : ∀ t, S2 t = S t) : KnownP w b n S2 := by
  obtain ⟨D, h1, h2⟩ := h
  exact ⟨D, h1, fun t a b => by rw [h2 t a b, e]⟩
theorem KnownP.not_row {w : World} {b n : Nat} {S : Pr → Bool} (h : KnownP w b n S) {B : Nat} {e : TypeId} {size k : Nat} {v : Value} {xs : List Value} (hr : w.ownsRow B e size v k xs) : v.ownBlock ≠ some b := by
  obtain ⟨D, ⟨es, cl, he, _⟩, _⟩ := h
  rcases hr.2 with ⟨rfl, _⟩ | ⟨g, c, cur, rfl, _, hg, _⟩
  · simp [Value.ownBlock]
  · intro e
    simp only [Value.ownBlock, Option.some.injEq] at e
    subst e
    rw [he] at hg; cases hg
theorem KnownP.look {w : World} {b n : Nat} {S : Pr → Bool} (h : KnownP w b n S) (t : TypeId) (ht : Tryd.prog.underlying t = some (.map 79 4)) (p : Pr) (h1 : p.1.length ≤ maxLen) (h2 : p.2.length ≤ maxLen) :
    (Instr.lookup t (.map (some b)) (.agg #[.string (mk p.1), .string (mk p.2)]) false).run Tryd.prog w = .ok (.bool (S p)) w := by
  obtain ⟨D, hD, hS⟩ := h
  have hk := keyOf_pair (mk p.1) (mk p.2) (by rw [mk_size]; exact h1) (by rw [mk_size]; exact h2)
  rw [mk_data, mk_data] at hk
  obtain ⟨v, ps, hrun, hv⟩ := hD.lookup keyLawP ht (zero4 w) (plainElem_bool Tryd.underlying4 false) hk
  rw [hS _ h1 h2] at hv
  rw [hrun, plainElem_bool_inv Tryd.underlying4 hv]
/-- 'm[p] = true' as a step of the walk. -/
theorem wpList_knownP {w : World} {ops : Array Oper} {rest : List Oper} {o : Oper} {a : Act} {Q : Exit → Act → World → Prop} (hg : o.guard = none) (m x : Operand) (t : TypeId) (hop : o.op = .mapUpdate t m x (.const (.bool true)))
    (ht : Tryd.prog.underlying t = some (.map 79 4)) (b n : Nat) (S : Pr → Bool) (hm : a.eval m = .map (some b)) (h : KnownP w b n S) (hn : n < maxLen) (p : Pr) (h1 : p.1.length ≤ maxLen) (h2 : p.2.length ≤ maxLen) (hx : a.eval x = .agg #[.string (mk p.1), .string (mk p.2)])
    (hK : ∀ w', KnownP w' b (n + 1) (fun u => S u || u == p) → w.grownBy w' (some b) → wpList Tryd.prog ops Q rest (a.put o.dst undef) w') : wpList Tryd.prog ops Q (o :: rest) a w := by
  obtain ⟨D, hD, hS⟩ := h
  have hk := keyOf_pair (mk p.1) (mk p.2) (by rw [mk_size]; exact h1) (by rw [mk_size]; exact h2)
  rw [mk_data, mk_data] at hk
  refine wpList_mapUpdate_own w hg m x _ t hop 79 4 keyLawP ht _ b n D hm hD hn _ _ _ hx rfl hk _ [] (plainElem_bool Tryd.underlying4 true) ?_
  intro w' h3 h4
  refine hK w' ⟨_, h3, fun u hu1 hu2 => ?_⟩ h4
  by_cases hu : u = p
  · subst hu
    rw [atKey_put_same (k := .string (pk u)) hD.isMap trivial]
    simp
  · rw [atKey_put_other (by intro e; exact hu (pk_inj _ _ hu1 hu2 h1 h2 (by injection e))), hS _ hu1 hu2]
    simp [hu]
end Go.Proofs.YtkaejgpnhcdlnaaDoor.Vc
