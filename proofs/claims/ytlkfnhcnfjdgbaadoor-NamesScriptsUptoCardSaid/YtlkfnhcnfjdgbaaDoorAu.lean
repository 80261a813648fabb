/- Apply as one contract; transactions; what turned updates come to: plain. -/
import Derived.Test.YtlkfnhcnfjdgbaaDoorAk
import Derived.Laws.StructEq
namespace Go.Proofs.YtlkfnhcnfjdgbaaDoor
open Go.RowKit Go.Maps Go.WideMaps
/-- The table that Apply answers. -/
def Tbl.res (t : Tbl) (us : List Upd) (h : Bs) : Tbl := if mayE t.refs us h = 0 then t.put us h else ⟨[], [], []⟩
theorem TblAt.form {w : World} {t : Tbl} {v : Value} (h : TblAt w t v) : ∃ P nR pc hT PB nL pb, v = .agg #[.slice P nR pc, .string hT, .slice PB nL pb] := by
  obtain ⟨A, c, B, cb, rfl, _⟩ := h
  exact ⟨_, _, _, _, _, _, _, rfl⟩
theorem TblAt.none (w : World) : TblAt w ⟨[], [], []⟩ noTbl :=
  ⟨_, 0, _, 0, rfl, fun _ => rfl, fun _ => rfl, fun h => by simp at h, fun h => by simp [ucells] at h, fun a h => by simp at h, fun a h => by simp at h⟩
theorem apply_any (t : Tbl) (v : Value) (us : List Upd) (A' : Option Addr) (cap' : Nat) (h : Bs) (m : Int) (w : World) (hv : TblAt w t v) (hs : Sorted t.refs) (hrl : t.refs.length ≤ 900000) (hll : t.log.length ≤ 900000) (hu : ∀ u ∈ us, u.name.length ≤ 2000000) (hul : us.length ≤ 10000) (hU : Upds w A' us)
    (hA' : A' = none → us.length = 0 ∧ cap' = 0) (hh : h.length ≤ 2000000) (hm : w.cell? ⟨0, 0, none⟩ = some (.int .i64 m)) :
    Calls Tryd.prog 13 #[v, .slice A' us.length cap', .string (mk h)] w fun e w' => ∃ P nR pc hT PB nL pb, e = .returned (.tuple #[.agg #[.slice P nR pc, .string hT, .slice PB nL pb], .int .i64 (mayE t.refs us h)]) ∧ TblAt w' (t.res us h) (.agg #[.slice P nR pc, .string hT, .slice PB nL pb]) ∧ Below w.heap.size w w' := by
  by_cases hE : mayE t.refs us h = 0
  · refine (apply_ok t v us A' cap' h m w hv hs hrl hll hu hul hU hA' hh hm hE).mono ?_
    rintro e w' ⟨v', rfl, h1, _, h2⟩
    obtain ⟨P, nR, pc, hT, PB, nL, pb, rfl⟩ := h1.form
    exact ⟨P, nR, pc, hT, PB, nL, pb, by rw [hE], by unfold Tbl.res; rw [if_pos hE]; exact h1, h2⟩
  · refine (apply_err t v us A' cap' h m w hv hs hrl hu hul hU hh hm hE).mono ?_
    rintro e w' ⟨rfl, h2⟩
    exact ⟨_, _, _, _, _, _, _, rfl, by unfold Tbl.res; rw [if_neg hE]; exact TblAt.none w', h2⟩
/-- A transaction. -/
structure NTxn where
  l : List NUpd
  head : Bs
def NTxn.us (x : NTxn) : List Upd := (x.l.take 12).map NUpd.upd
def NTxn.ok (x : NTxn) : Prop := x.l.length ≤ 9223372036854775807 ∧ (∀ u ∈ x.l, u.name.length ≤ 2000000) ∧ x.head.length ≤ 2000000
theorem NTxn.us_len (x : NTxn) : x.us.length ≤ 12 := by unfold NTxn.us; rw [List.length_map, List.length_take]; omega
theorem NTxn.us_ok {x : NTxn} (h : x.ok) : ∀ u ∈ x.us, u.name.length ≤ 2000000 := by
  intro u hu
  obtain ⟨y, hy, rfl⟩ := List.mem_map.1 hu
  exact h.2.1 y (List.mem_of_mem_take hy)
/-- These transactions lie from A on. -/
def Txns (w : World) (A : Option Addr) (l : List NTxn) : Prop := 0 < l.length → ∃ g o, A = some ⟨g, o, none⟩ ∧ g < w.heap.size ∧
  ∀ j (h : j < l.length), ∃ B c, w.cell? ⟨g, o + j * 2, none⟩ = some (.slice B l[j].l.length c) ∧ w.cell? ⟨g, o + j * 2 + 1, none⟩ = some (.string (mk l[j].head)) ∧ NUpds w B l[j].l
theorem NUpds.below {w w' : World} {A : Option Addr} {l : List NUpd} (h : NUpds w A l) {B : Nat} (hB : w.heap.size ≤ B) (hb : Below B w w') : NUpds w' A l := by
  intro h0
  obtain ⟨g, o, hA, hg, hc⟩ := h h0
  have hg' := Nat.lt_of_lt_of_le hg hB
  refine ⟨g, o, hA, Nat.lt_of_lt_of_le hg hb.size, fun j hj => ?_⟩
  obtain ⟨a, b, c⟩ := hc j hj
  exact ⟨(hb.cell (p := ⟨g, o + j * 3, none⟩) hg').trans a, (hb.cell (p := ⟨g, o + j * 3 + 1, none⟩) hg').trans b, (hb.cell (p := ⟨g, o + j * 3 + 2, none⟩) hg').trans c⟩
theorem Txns.below {w w' : World} {A : Option Addr} {l : List NTxn} (h : Txns w A l) {B : Nat} (hB : w.heap.size ≤ B) (hb : Below B w w') : Txns w' A l := by
  intro h0
  obtain ⟨g, o, hA, hg, hc⟩ := h h0
  have hg' := Nat.lt_of_lt_of_le hg hB
  refine ⟨g, o, hA, Nat.lt_of_lt_of_le hg hb.size, fun j hj => ?_⟩
  obtain ⟨B, c, a, b, d⟩ := hc j hj
  exact ⟨B, c, (hb.cell (p := ⟨g, o + j * 2, none⟩) hg').trans a, (hb.cell (p := ⟨g, o + j * 2 + 1, none⟩) hg').trans b, d.below hB hb⟩
/-- A table's bounds after k transactions. -/
def TOk (k : Nat) (t : Tbl) : Prop := Sorted t.refs ∧ t.refs.length ≤ 12 * k ∧ t.log.length ≤ 256
theorem TOk.put {k : Nat} {t : Tbl} (h : TOk k t) (us : List Upd) (hu : us.length ≤ 12) (hd : Bs) : TOk (k + 1) (t.put us hd) := by
  refine ⟨fold_sorted us _ h.1, ?_, ?_⟩
  · have := fold_len us t.refs
    have := h.2.1
    simp only [Tbl.put]
    omega
  · simp only [Tbl.put, List.length_drop]
    omega
theorem TOk.mono {k k' : Nat} {t : Tbl} (h : TOk k t) (hk : k ≤ k') : TOk k' t := ⟨h.1, Nat.le_trans h.2.1 (by omega), h.2.2⟩
theorem may_rev (R : Refs) (us : List Upd) (h : Bs) : mayE R us.reverse h = 0 ↔ mayE R us h = 0 := by
  rw [may_zero, may_zero]
  have h1 : us.reverse ≠ [] ↔ us ≠ [] := by simp
  have h2 : us.reverse.Pairwise (fun a b => a.name ≠ b.name) ↔ us.Pairwise (fun a b => a.name ≠ b.name) := by
    rw [List.pairwise_reverse]
    exact ⟨fun h => h.imp fun e => e.symm, fun h => h.imp fun e => e.symm⟩
  rw [h1, h2]
  simp only [List.mem_reverse]
/-- Turned updates: the same references and head, and as long a log. -/
theorem res_rev (t : Tbl) (us : List Upd) (h : Bs) (hs : Sorted t.refs) : (t.res us.reverse h).refs = (t.res us h).refs ∧ (t.res us.reverse h).head = (t.res us h).head ∧ (t.res us.reverse h).log.length = (t.res us h).log.length := by
  unfold Tbl.res
  by_cases hE : mayE t.refs us h = 0
  · rw [if_pos hE, if_pos ((may_rev _ _ _).2 hE)]
    obtain ⟨_, _, _, hd, _⟩ := (may_zero _ _ _).1 hE
    exact ⟨fold_reverse t.refs us hs hd, rfl, by simp [Tbl.put]⟩
  · rw [if_neg hE, if_neg (fun e => hE ((may_rev _ _ _).1 e))]
    exact ⟨rfl, rfl, rfl⟩
theorem eq_guard41 (w : World) (op : BinOp) (x y : Operand) (xs ys : Array Value) : (eqGuard op 41 x y (.agg xs) (.agg ys)).run Tryd.prog w = .ok () w := run_eqGuard_agg w op 41 x y xs ys (by kernel_rfl)
theorem ref_neq (a b c d : ByteArray) (w : World) : (binOp .neq 41 (.agg #[.string a, .string b]) (.agg #[.string c, .string d])).run Tryd.prog w = .ok (.bool (!(a.toList == c.toList && b.toList == d.toList))) w := by
  rw [run_neq_struct, run_equalIn_struct w _ _ _ _ (by kernel_rfl) (by kernel_rfl)]
  have hf : (Tryd.prog.fieldsOf 41).toList = (match Tryd.prog.underlying 41 with | some (.struct fs) => fs.toList | _ => []) := by kernel_rfl
  rw [hf, Tryd.underlying41]
  simp only [Op.eqFields]
  go_simp
  by_cases h1 : a.toList = c.toList
  · by_cases h2 : b.toList = d.toList
    · simp [h1, h2]
    · simp [h1, h2]
  · simp [h1]
theorem ref_same (a b : ByteArray) (w : World) : (binOp .neq 41 (.agg #[.string a, .string b]) (.agg #[.string a, .string b])).run Tryd.prog w = .ok (.bool false) w := by
  rw [ref_neq]; simp
end Go.Proofs.YtlkfnhcnfjdgbaaDoor
