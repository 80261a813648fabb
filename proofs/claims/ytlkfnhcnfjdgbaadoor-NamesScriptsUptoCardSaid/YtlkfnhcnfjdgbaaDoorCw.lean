/- Laws of rows of wide elements: copy, clear of one, cells set one by one, and what a call then owns. -/
import Derived.Test.YtlkfnhcnfjdgbaaDoorMu
import Derived.Shelf.Spec.SlicesInsertGrow
import Derived.Laws.CopyRow
namespace Go.Proofs.YtlkfnhcnfjdgbaaDoor
open Go.RowKit Go.Maps Go.WideMaps
/-- Cells vs laid into a row from o on. -/
def lay (cur : Array Value) (o : Nat) (vs : List Value) : Array Value := (cur.toList.take o ++ vs ++ cur.toList.drop (o + vs.length)).toArray
theorem lay_size (cur : Array Value) (o : Nat) (vs : List Value) (h : o + vs.length ≤ cur.size) : (lay cur o vs).size = cur.size := by
  unfold lay; simp; omega
theorem setCells_lay (w : World) (g o : Nat) (t : TypeId) (vs : List Value) (cur : Array Value) (hg : w.heap[g]? = some (.cells cur t (0, 0))) (hl : o + vs.length ≤ cur.size) (h1 : ∀ v ∈ vs, v.oneCell' = true) :
    w.setCells g o vs = w.setRow g (lay cur o vs) := by
  have a := run_storeCells_at Tryd.prog g o t vs 0 cur w hg (by simpa using hl) h1
  have b := run_storeCells_cells (P := Tryd.prog) g o vs 0 w (fun j hj => by rw [Nat.add_zero, cell_of_row w g _ cur t (0, 0) hg, Array.getElem?_eq_getElem (by omega)]; rfl) (fun j hj => frozen_of_row w g _ cur t hg) h1
  rw [a] at b
  simp only [Nat.add_zero] at b
  injection b with _ b
  exact b.symm
theorem run_copy_wide {P : Program} (w : World) (dT sT ty elem : TypeId) (g o dLen dCap : Nat) (a : Addr) (sLen sCap : Nat) (cur : Array Value) (t : TypeId) (cs : List Value) (i : TypeInfo)
    (hu : P.underlying dT = some (.slice elem)) (hi : P.info? elem = some i)
    (hg : w.heap[g]? = some (.cells cur t (0, 0))) (hn : cs.length = Nat.min sLen dLen * i.size)
    (hsrc : ∀ j v, cs[j]? = some v → w.cell? (a.add j) = some v) (hfit : o + cs.length ≤ cur.size) (h1 : ∀ v ∈ cs, v.oneCell' = true) :
    (Builtin.copy_ #[dT, sT] ty #[.slice (some ⟨g, o, none⟩) dLen dCap, .slice (some a) sLen sCap]).run P w =
      .ok (goInt (Nat.min sLen dLen)) (w.setRow g (lay cur o cs)) := by
  have hl := run_loadCells_list (P := P) w a cs hsrc
  have hst := run_storeCells_at P g o t cs 0 cur w hg (by simpa using hfit) h1
  simp [Builtin.copy_, run_underlying hu, Builtin.lenOf, Builtin.firstCells, sizeOf, typeInfo, hi, ← hn, hl, hst, lay]
theorem zero41 (w : World) : (zeroValue 41).run Tryd.prog w = .ok (.agg #[.string ⟨#[]⟩, .string ⟨#[]⟩]) w := by
  obtain ⟨i0, hi, hz0, _, _⟩ := info_parts info41
  simp [zeroValue, typeInfo, hi, hz0]
theorem run_clear_one (w : World) (ty : TypeId) (g o c : Nat) (cur : Array Value) (t : TypeId) (hg : w.heap[g]? = some (.cells cur t (0, 0))) (hfit : o + 2 ≤ cur.size) :
    (Builtin.clear_ #[28] ty #[.slice (some ⟨g, o, none⟩) 1 c]).run Tryd.prog w = .ok (.tuple #[]) (w.setRow g (lay cur o [.string ⟨#[]⟩, .string ⟨#[]⟩])) := by
  have hst := run_storeCells_at Tryd.prog g o t [.string ⟨#[]⟩, .string ⟨#[]⟩] 0 cur w hg (by simpa using hfit) (by simp [Value.oneCell'])
  have hzc : (Builtin.zeroCells (Value.agg #[.string ⟨#[]⟩, .string ⟨#[]⟩]).cells 1).toList = [.string ⟨#[]⟩, .string ⟨#[]⟩] := by kernel_rfl
  simp [Builtin.clear_, run_underlying Tryd.underlying28, hzc, hst, lay]
theorem setRow_heap_other (w : World) (g k : Nat) (cs : Array Value) (h : k ≠ g) : (w.setRow g cs).heap[k]? = w.heap[k]? := by
  unfold World.setRow
  simp only [Array.getElem?_modify]
  rw [if_neg (fun e => h e.symm)]
theorem grown_row (w : World) (g : Nat) (cs : Array Value) : w.grownBy (w.setRow g cs) (some g) :=
  ⟨rfl, rfl, rfl, by simp, fun k _ hne => setRow_heap_other w g k cs (fun e => hne (by rw [e]))⟩
theorem grown_drew {w w' : World} {r : Option Nat} (h : w.grownBy w' r) : w.grownBy w'.drew r := ⟨h.os, h.tape, h.output, h.size, fun k hk hne => h.block k hk hne⟩
theorem grown_trans {w a b : World} {r : Option Nat} (h : w.grownBy a r) (h2 : a.grownBy b r) : w.grownBy b r :=
  ⟨h2.os.trans h.os, h2.tape.trans h.tape, h2.output.trans h.output, Nat.le_trans h.size h2.size, fun k hk hne => (h2.block k (Nat.lt_of_lt_of_le hk h.size) hne).trans (h.block k hk hne)⟩
theorem grown_refl (w : World) (r : Option Nat) : w.grownBy w r := ⟨rfl, rfl, rfl, Nat.le_refl _, fun _ _ _ => rfl⟩
/-- A row that lies in block g, whole, as what a call owns. -/
theorem own_of_block {w : World} {B g n cap : Nat} {cur : Array Value} {xs : List Value} (hB : B ≤ g) (hg : w.heap[g]? = some (.cells cur 41 (0, 0))) (hn : n ≤ cap) (hc : cap ≤ maxLen) (hs : cur.size = cap * 2) (ht : cur.toList.take (n * 2) = xs) (hl : xs.length = n * 2) :
    w.ownsRow B 41 2 (.slice (some ⟨g, 0, none⟩) n cap) n xs := ⟨hl, .inr ⟨g, cap, cur, rfl, hB, hg, hn, hc, hs, ht⟩⟩
theorem own_block {w : World} {B n c : Nat} {A : Option Addr} {xs : List Value} (h : w.ownsRow B 41 2 (.slice A n c) n xs) (h0 : 0 < n) :
    ∃ g cur, A = some ⟨g, 0, none⟩ ∧ B ≤ g ∧ w.heap[g]? = some (.cells cur 41 (0, 0)) ∧ n ≤ c ∧ c ≤ maxLen ∧ cur.size = c * 2 ∧ cur.toList.take (n * 2) = xs := by
  rcases h.2 with ⟨_, e0⟩ | ⟨g, c', cur, hv, hg, hh, hc, hm, hs, ht⟩
  · omega
  · injection hv with hA _ hcc
    subst hcc
    exact ⟨g, cur, hA, hg, hh, hc, hm, hs, ht⟩
end Go.Proofs.YtlkfnhcnfjdgbaaDoor
