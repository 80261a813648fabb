/- What each row of this seat shares: the world that a witness starts in (the door's own run, and the pinned table), the number that internal/bytealg keeps. -/
import Derived.Test.YtlkfnhcnfjdgbaaDoorRows
import Derived.ProofKit
import Derived.LaidMore
import Derived.OpenShut
import Derived.ShutString
import Derived.Deep.DeepHandedRow
import Derived.Shelf.Vars
import Derived.Test.YtlkfnhcnfjdgbaaDoorTn
import Derived.Deep.Slices
import Derived.SizedLaws
namespace Go.Proofs.YtlkfnhcnfjdgbaaDoor
open Go.ChangeShapes Go.WideShapes Go.ChangeAt Go.RowKit
theorem own : ownKnob Tryd.prog.godebug = none := by kernel_rfl
theorem laidOut : laidOutB Tryd.prog = true := by kernel_rfl
theorem gFirst : Tryd.prog.globalNamed "unicode/utf8.first" = some 1 := by kernel_rfl
/-- internal/bytealg.MaxLen holds some number. -/
theorem maxLen_some {W : World} (h : W.ShapedOpen Tryd.prog) : ∃ m, W.cell? ⟨0, 0, none⟩ = some (.int .i64 m) :=
  cell_of_shapedOpen_int (g := 0) (t := 3) (zero := #[.int .i64 0]) h (of_decide_eq_true (by kernel_rfl)) (by kernel_rfl) rfl (by kernel_rfl) (by kernel_rfl) Tryd.underlying3
noncomputable def firstCells : Array Value := (Go.Pinned.utf8FirstZ.map fun (n : Nat) => Value.int .u8 n).toArray
noncomputable def laidW (os : Os) : World :=
  { World.doorLaid Tryd.prog 200 os with heap := (World.doorLaid Tryd.prog 200 os).heap.modify 1 fun
      | .cells _ t frozen => .cells firstCells t frozen
      | o => o }
theorem laid_met (os : Os) (args : Array Value) : laidMet Tryd.prog Rows.namesGoodRow.laid ((laidW os).forCall (fun _ _ => 0) ⟨#[], args, []⟩).memory :=
  laidMet_of_run' 8 (by kernel_rfl) (by kernel_rfl)
end Go.Proofs.YtlkfnhcnfjdgbaaDoor
/- How transactions that came in are opened. -/
namespace Go.Proofs.YtlkfnhcnfjdgbaaDoor
open Go.ChangeShapes Go.WideShapes Go.ChangeAt Go.RowKit
theorem cells27 : Tryd.prog.cellsOf 27 = 2 := by kernel_rfl
theorem cells25 : Tryd.prog.cellsOf 25 = 1 := by kernel_rfl
theorem cells65 : Tryd.prog.cellsOf 65 = 3 := by kernel_rfl
theorem cells9 : Tryd.prog.cellsOf 9 = 1 := by kernel_rfl
theorem cells3 : Tryd.prog.cellsOf 3 = 1 := by kernel_rfl
theorem bulk_mem {H : Type} {d : DataW H} {l : List (DataW H)} (h : d ∈ l) : Rows.uptoBulk d ≤ Rows.uptoBulkAll l := by
  induction l with
  | nil => cases h
  | cons a l ih =>
    rw [Rows.uptoBulkAll]
    rcases List.mem_cons.1 h with rfl | h
    · omega
    · have := ih h
      omega
theorem addr_block {W : World} {b : Addr} {i : Nat} {v : Value} (g : W.cell? (b.add i) = some v) (hi : i = 0) : ∃ bb off, b = ⟨bb, off, none⟩ ∧ bb < W.heap.size := by
  subst hi
  obtain ⟨bb, off, spot⟩ := b
  have hspot : spot = none := by simpa [Addr.add] using World.cell?_spot g
  subst hspot
  refine ⟨bb, off, rfl, ?_⟩
  rcases Nat.lt_or_ge bb W.heap.size with h | h
  · exact h
  · simp [World.cell?, Addr.add, Array.getElem?_eq_none h] at g
instance : Inhabited NUpd := ⟨⟨[], 0, 0⟩⟩
instance : Inhabited NTxn := ⟨⟨[], []⟩⟩
theorem len_three {α : Type} {l : List α} (h : l.length = 3) : ∃ a b c, l = [a, b, c] := by
  match l, h with
  | [a, b, c], _ => exact ⟨a, b, c, rfl⟩
/-- A slice of updates that came in. -/
theorem upds_arg {H : Type} {enc : TypeId × Value → H} {W : World} {a : Option Addr} {len cap fuel : Nat} {sp : Nat → Bool} {held : Bool} {x : DataW H × List MemPlace} (h : DataW.trod enc Tryd.prog W 0 sp held fuel 25 [Value.slice a len cap] = some x)
    (hb : Rows.uptoBulk x.1 ≤ 2000000) : ∃ l : List NUpd, l.length = len ∧ len ≤ maxLen ∧ NUpds W a l ∧ ∀ u ∈ l, u.name.length ≤ 2000000 := by
  rcases Deep.open_slice Tryd.underlying25 h with ⟨hcs, _⟩ | ⟨b, len', cap', m, n, D, Pl, hcs, _, hl, hm, hmm, rfl, hx⟩
  · simp at hcs
    obtain ⟨rfl, rfl, rfl⟩ := hcs
    exact ⟨[], rfl, Nat.zero_le _, fun h => absurd h (by simp), fun p hp => by cases hp⟩
  · simp at hcs
    obtain ⟨rfl, rfl, rfl⟩ := hcs
    have hle : len ≤ m := by rw [hmm]; split <;> omega
    have each : ∀ i, i < len → ∃ p : NUpd, W.cell? (b.add (i * 3)) = some (.string (mk p.name)) ∧ W.cell? (b.add (i * 3 + 1)) = some (.int .i64 p.old) ∧ W.cell? (b.add (i * 3 + 2)) = some (.int .i64 p.new) ∧ p.name.length ≤ 2000000 := by
      intro i hi
      obtain ⟨cs', hc, ht⟩ := hx i (by omega)
      rw [cells65] at hc
      obtain ⟨_, hl2, hcell⟩ := World.cells?_some hc
      obtain ⟨xs, k, _, hD, _, hxl, hel⟩ := DataW.trod_struct Tryd.underlying65 ht
      have t0 := hel 0 _ rfl
      have t1 := hel 1 _ rfl
      have t2 := hel 2 _ rfl
      obtain ⟨c0, c1, c2, rfl⟩ := len_three hl2
      obtain ⟨y0, y1, y2, rfl⟩ := len_three (show xs.length = 3 from hxl)
      simp [cells9, cells3] at t0 t1 t2
      obtain ⟨s0, e0, rfl, _⟩ := DataW.trod_string Tryd.underlying9 t0
      obtain ⟨n1, e1, rfl, _⟩ := DataW.trod_int Tryd.underlying3 t1
      obtain ⟨n2, e2, rfl, _⟩ := DataW.trod_int Tryd.underlying3 t2
      simp only [List.cons.injEq, and_true] at e0 e1 e2
      subst e0
      subst e1
      subst e2
      have g0 := hcell 0 (by omega)
      have g1 := hcell 1 (by omega)
      have g2 := hcell 2 (by omega)
      rw [Deep.add_add] at g0 g1 g2
      have hDi : D i = .agg [.lit (.string s0.data.toList), .lit (.int .i64 n1), .lit (.int .i64 n2)] := congrArg Prod.fst hD
      have hbi := bulk_mem (List.mem_map.2 ⟨i, List.mem_range.2 hi, rfl⟩ : D i ∈ (List.range len).map D)
      rw [hDi] at hbi
      simp only [Rows.uptoBulk, Rows.uptoBulkAll] at hbi hb
      exact ⟨⟨s0.data.toList, n1, n2⟩, by simpa [mk_list] using g0, by simpa using g1, by simpa using g2, by show s0.data.toList.length ≤ _; omega⟩
    obtain ⟨f, hf⟩ := Deep.choose_lt (α := NUpd) (p := fun i p => W.cell? (b.add (i * 3)) = some (.string (mk p.name)) ∧ W.cell? (b.add (i * 3 + 1)) = some (.int .i64 p.old) ∧ W.cell? (b.add (i * 3 + 2)) = some (.int .i64 p.new) ∧ p.name.length ≤ 2000000) each
    have hfl : ((List.range len).map f).length = len := by simp
    refine ⟨(List.range len).map f, hfl, by omega, fun hp => ?_, fun u hu => ?_⟩
    · rw [hfl] at hp
      obtain ⟨bb, off, rfl, hbb⟩ := addr_block (hf 0 hp).1 (by omega)
      refine ⟨bb, off, rfl, hbb, fun j hj => ?_⟩
      rw [hfl] at hj
      have := hf j hj
      rw [add_plain, add_plain, add_plain] at this
      simp only [List.getElem_map, List.getElem_range]
      exact ⟨this.1, by rw [Nat.add_assoc]; exact this.2.1, by rw [Nat.add_assoc]; exact this.2.2.1⟩
    · obtain ⟨i, hi, rfl⟩ := List.mem_map.1 hu
      exact (hf i (List.mem_range.1 hi)).2.2.2
/-- A transaction that came in, by its two cells. -/
theorem txn_cells {H : Type} {enc : TypeId × Value → H} {W : World} {c0 c1 : Value} {fuel : Nat} {sp : Nat → Bool} {held : Bool} {x : DataW H × List MemPlace} (h : DataW.trod enc Tryd.prog W 0 sp held fuel 27 [c0, c1] = some x)
    (hb : Rows.uptoBulk x.1 ≤ 2000000) : ∃ (y : NTxn) (B : Option Addr) (c : Nat), c0 = .slice B y.l.length c ∧ c1 = .string (mk y.head) ∧ NUpds W B y.l ∧ y.ok := by
  obtain ⟨y0, y1, n, rfl, _, t0, t1⟩ := trod_struct2 Tryd.underlying27 h
  simp [cells25, cells9] at t0 t1
  obtain ⟨s1, e1, rfl, _⟩ := DataW.trod_string Tryd.underlying9 t1
  simp only [List.cons.injEq, and_true] at e1
  subst e1
  simp only [Rows.uptoBulk, Rows.uptoBulkAll] at hb
  have hs : ∃ a len cap, c0 = .slice a len cap := by
    rcases DataW.trod_slice Tryd.underlying25 t0 with ⟨e, _⟩ | ⟨a, len, cap, _, _, _, _, e, _⟩
    · simp only [List.cons.injEq, and_true] at e; exact ⟨_, _, _, e⟩
    · simp only [List.cons.injEq, and_true] at e; exact ⟨_, _, _, e⟩
  obtain ⟨a, len, cap, rfl⟩ := hs
  obtain ⟨l, hl, hm, hN, hn⟩ := upds_arg t0 (by omega)
  unfold maxLen at hm
  exact ⟨⟨l, s1.data.toList⟩, a, cap, by rw [hl], by rw [mk_list], hN, by show l.length ≤ _; omega, hn, by show s1.data.toList.length ≤ _; omega⟩
/-- A slice of transactions that came in. -/
theorem txns_arg {H : Type} {enc : TypeId × Value → H} {W : World} {a : Option Addr} {len cap fuel : Nat} {sp : Nat → Bool} {held : Bool} {x : DataW H × List MemPlace} (h : DataW.trod enc Tryd.prog W 0 sp held fuel 24 (Value.slice a len cap).cells.toList = some x)
    (hb : Rows.uptoBulk x.1 ≤ 2000000) : ∃ l : List NTxn, l.length = len ∧ len ≤ maxLen ∧ Txns W a l ∧ ∀ y ∈ l, y.ok := by
  rcases Deep.open_slice Tryd.underlying24 h with ⟨hcs, _⟩ | ⟨b, len', cap', m, n, D, Pl, hcs, _, hl, hm, hmm, rfl, hx⟩
  · simp [Value.cells] at hcs
    obtain ⟨rfl, rfl, rfl⟩ := hcs
    exact ⟨[], rfl, Nat.zero_le _, fun h => absurd h (by simp), fun p hp => by cases hp⟩
  · simp [Value.cells] at hcs
    obtain ⟨rfl, rfl, rfl⟩ := hcs
    have hle : len ≤ m := by rw [hmm]; split <;> omega
    have each : ∀ i, i < len → ∃ y : NTxn, (∃ B c, W.cell? (b.add (i * 2)) = some (.slice B y.l.length c) ∧ W.cell? (b.add (i * 2 + 1)) = some (.string (mk y.head)) ∧ NUpds W B y.l) ∧ y.ok := by
      intro i hi
      obtain ⟨cs', hc, ht⟩ := hx i (by omega)
      rw [cells27] at hc
      obtain ⟨_, hl2, hcell⟩ := World.cells?_some hc
      have hbi := bulk_mem (List.mem_map.2 ⟨i, List.mem_range.2 hi, rfl⟩ : D i ∈ (List.range len).map D)
      simp only [Rows.uptoBulk] at hb
      match cs', hl2 with
      | [c0, c1], _ =>
        obtain ⟨y, B, c, rfl, rfl, hN, hok⟩ := txn_cells ht (by show Rows.uptoBulk (D i) ≤ _; omega)
        have g0 := hcell 0 (by omega)
        have g1 := hcell 1 (by omega)
        rw [Deep.add_add] at g0 g1
        exact ⟨y, ⟨B, c, by simpa using g0, by simpa using g1, hN⟩, hok⟩
    obtain ⟨f, hf⟩ := Deep.choose_lt (α := NTxn) (p := fun i y => (∃ B c, W.cell? (b.add (i * 2)) = some (.slice B y.l.length c) ∧ W.cell? (b.add (i * 2 + 1)) = some (.string (mk y.head)) ∧ NUpds W B y.l) ∧ y.ok) each
    have hfl : ((List.range len).map f).length = len := by simp
    refine ⟨(List.range len).map f, hfl, by omega, fun hp => ?_, fun u hu => ?_⟩
    · rw [hfl] at hp
      obtain ⟨_, _, g0, _⟩ := (hf 0 hp).1
      obtain ⟨bb, off, rfl, hbb⟩ := addr_block g0 (by omega)
      refine ⟨bb, off, rfl, hbb, fun j hj => ?_⟩
      rw [hfl] at hj
      obtain ⟨B, c, e0, e1, e2⟩ := (hf j hj).1
      rw [add_plain] at e0 e1
      simp only [List.getElem_map, List.getElem_range]
      exact ⟨B, c, e0, by rw [Nat.add_assoc]; exact e1, e2⟩
    · obtain ⟨i, hi, rfl⟩ := List.mem_map.1 hu
      exact (hf i (List.mem_range.1 hi)).2
end Go.Proofs.YtlkfnhcnfjdgbaaDoor
