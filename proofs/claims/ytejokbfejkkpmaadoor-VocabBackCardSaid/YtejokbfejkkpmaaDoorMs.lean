/- A set of texts in a map that the call itself has made: what it holds, a look-up, a store. -/
import Derived.Test.YtejokbfejkkpmaaDoorTg
import Derived.Maps.Own
import Derived.Maps.Views
import Derived.Maps.OwnSet
import Derived.StringKeys
namespace Go.Proofs.YtejokbfejkkpmaaDoor
open Go.RowKit Go.Maps Go.WideMaps
theorem plainElem_bool_inv {H : Type} {P : Program} {e : TypeId} (he : P.underlying e = some .bool) {v : Value} {x : Bool} {ps : List MemPlace} (h : plainElem (H := H) P e v = some (.lit (.bool x), ps)) : v = .bool x := by
  unfold plainElem at h
  rw [he] at h
  cases v <;> simp at h
  rw [h.1]
theorem keyLaw : Keyed Tryd.prog 9 := string_keyed Tryd.underlying9
theorem zero4 (w : World) : (zeroValue 4).run Tryd.prog w = .ok (.bool false) w := by kernel_rfl
/-- Block b of w is a map of at most n entries, in which just the texts of S are known. -/
def Known (w : World) (b n : Nat) (S : Bs → Bool) : Prop :=
  ∃ D : DataW Unit, w.ownsMap Tryd.prog 9 (plainElem Tryd.prog 4) b n D ∧ ∀ t : Bs, D.atKey (.string t) (.lit (.bool false)) = .lit (.bool (S t))
theorem Known.made (w : World) : Known (w.alloc (.map #[] 0)) w.heap.size 0 (fun _ => false) :=
  ⟨.map [], World.ownsMap_made _ _ _ _, fun _ => rfl⟩
theorem Known.kept {w w' : World} {b n : Nat} {S : Bs → Bool} {row : Option Nat} (h : Known w b n S) (hg : w.grownBy w' row) (hne : some b ≠ row) : Known w' b n S := by
  obtain ⟨D, h1, h2⟩ := h
  exact ⟨D, h1.kept hg hne, h2⟩
theorem Known.lt {w : World} {b n : Nat} {S : Bs → Bool} (h : Known w b n S) : b < w.heap.size := by
  obtain ⟨D, h1, _⟩ := h
  exact h1.lt
theorem Known.alloc {w : World} {b n : Nat} {S : Bs → Bool} (h : Known w b n S) (o : Obj) : Known (w.alloc o) b n S := h.kept (World.grownBy_alloc w o none) (by simp)
theorem Known.drew {w : World} {b n : Nat} {S : Bs → Bool} (h : Known w b n S) : Known w.drew b n S := h
theorem Known.look {w : World} {b n : Nat} {S : Bs → Bool} (h : Known w b n S) (t : TypeId) (ht : Tryd.prog.underlying t = some (.map 9 4)) (s : ByteArray) (hs : s.size ≤ maxLen) :
    (Instr.lookup t (.map (some b)) (.string s) false).run Tryd.prog w = .ok (.bool (S s.data.toList)) w := by
  obtain ⟨D, h1, h2⟩ := h
  obtain ⟨v, ps, hrun, hv⟩ := h1.lookup keyLaw ht (zero4 w) (plainElem_bool Tryd.underlying4 false) (keyOf_string_mk Tryd.underlying9 hs)
  rw [h2] at hv
  rw [hrun, plainElem_bool_inv Tryd.underlying4 hv]
/-- 'm[s] = true' as a step of the walk. -/
theorem wpList_known {w : World} {ops : Array Oper} {rest : List Oper} {o : Oper} {a : Act} {Q : Exit → Act → World → Prop} (hg : o.guard = none) (m x : Operand) (t : TypeId) (hop : o.op = .mapUpdate t m x (.const (.bool true)))
    (ht : Tryd.prog.underlying t = some (.map 9 4)) (b n : Nat) (S : Bs → Bool) (hm : a.eval m = .map (some b)) (h : Known w b n S) (hn : n < maxLen) (s : ByteArray) (hs : s.size ≤ maxLen) (hx : a.eval x = .string s)
    (hK : ∀ w', Known w' b (n + 1) (fun u => S u || u == s.data.toList) → w.grownBy w' (some b) → wpList Tryd.prog ops Q rest (a.put o.dst undef) w') : wpList Tryd.prog ops Q (o :: rest) a w := by
  obtain ⟨D, h1, h2⟩ := h
  refine wpList_mapUpdate_own w hg m x _ t hop 9 4 keyLaw ht _ b n D hm h1 hn _ _ _ hx rfl (keyOf_string_mk Tryd.underlying9 hs) _ [] (plainElem_bool Tryd.underlying4 true) ?_
  intro w' h3 h4
  refine hK w' ⟨_, h3, fun u => ?_⟩ h4
  by_cases hu : u = s.data.toList
  · subst hu
    rw [atKey_put_same (k := .string s.data.toList) h1.isMap trivial]
    simp
  · rw [atKey_put_other (by intro e; exact hu (by injection e)), h2]
    simp [hu]
end Go.Proofs.YtejokbfejkkpmaaDoor
