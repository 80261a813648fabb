/- stemmalaw16.NamesLog, walked. -/
import Derived.Test.YtlkfnhcnfjdgbaaDoorLq
import Derived.Test.YtlkfnhcnfjdgbaaDoorTn
import Derived.Test.YtlkfnhcnfjdgbaaDoorRs
import Derived.Laws.Cover1
namespace Go.Proofs.YtlkfnhcnfjdgbaaDoor
open Go.RowKit Go.Maps Go.WideMaps
/-- These numbers lie from A on. -/
def Ints (w : World) (A : Option Addr) (l : List Int) : Prop := 0 < l.length → ∃ g o, A = some ⟨g, o, none⟩ ∧ g < w.heap.size ∧ ∀ j (h : j < l.length), w.cell? ⟨g, o + j, none⟩ = some (.int .i64 l[j])
theorem Ints.below {w w' : World} {A : Option Addr} {l : List Int} (h : Ints w A l) {B : Nat} (hB : w.heap.size ≤ B) (hb : Below B w w') : Ints w' A l := by
  intro h0
  obtain ⟨g, o, hA, hg, hc⟩ := h h0
  have hg' := Nat.lt_of_lt_of_le hg hB
  exact ⟨g, o, hA, Nat.lt_of_lt_of_le hg hb.size, fun j hj => (hb.cell (p := ⟨g, o + j, none⟩) hg').trans (hc j hj)⟩
def atC (a : Nat → Int) : Array Value := #[.int .i64 (a 0), .int .i64 (a 1), .int .i64 (a 2)]
theorem atC_get (a : Nat → Int) : ∀ k, k < 3 → (atC a)[k]? = some (.int .i64 (a k))
  | 0, _ => rfl
  | 1, _ => rfl
  | 2, _ => rfl
  | _ + 3, h => by omega
theorem atC_set (a : Nat → Int) (v : Int) : ∀ k, k < 3 → (atC a).setIfInBounds k (.int .i64 v) = atC (updA a k v)
  | 0, _ => by simp [atC, updA]
  | 1, _ => by simp [atC, updA]
  | 2, _ => by simp [atC, updA]
  | _ + 3, h => by omega
theorem names_get : ∀ k, k < 3 → (#[.string (mk (nmB 0)), .string (mk (nmB 1)), .string (mk (nmB 2))] : Array Value)[k]? = some (.string (mk (nmB k)))
  | 0, _ => rfl
  | 1, _ => rfl
  | 2, _ => rfl
  | _ + 3, h => by omega
theorem apply_up (t : Tbl) (v : Value) (u : Upd) (A' : Option Addr) (cap' : Nat) (m : Int) (w : World) (hv : TblAt w t v) (hs : Sorted t.refs) (hrl : t.refs.length ≤ 900000) (hll : t.log.length ≤ 900000) (hu : u.name.length ≤ 2000000) (hU : Upds w A' [u])
    (hA' : A' = none → ([u] : List Upd).length = 0 ∧ cap' = 0) (hm : w.cell? ⟨0, 0, none⟩ = some (.int .i64 m)) (hE : mayE t.refs [u] [] = 0) :
    Calls Tryd.prog 13 #[v, .slice A' 1 cap', .string ⟨#[]⟩] w fun e w' => ∃ P nR pc hP PB nL pb, e = .returned (.tuple #[.agg #[.slice P nR pc, .string hP, .slice PB nL pb], .int .i64 0]) ∧ TblAt w' (t.res [u] []) (.agg #[.slice P nR pc, .string hP, .slice PB nL pb]) ∧
      (∀ a : Addr, PB = some a → w.heap.size ≤ a.block) ∧ Below w.heap.size w w' := by
  refine (apply_ok t v [u] A' cap' [] m w hv hs hrl hll (fun x hx => by rw [List.mem_singleton.1 hx]; exact hu) (by simp) hU hA' (by simp) hm hE).mono ?_
  rintro e w' ⟨v', rfl, h1, h2, h3⟩
  obtain ⟨P, nR, pc, hT, PB, nL, pb, rfl⟩ := h1.form
  exact ⟨P, nR, pc, hT, PB, nL, pb, rfl, by unfold Tbl.res; rw [if_pos hE]; exact h1, h2 _ _ _ _ _ _ _ rfl, h3⟩
theorem Blk.two {w w1 : World} {cs : Array Value} {e : TypeId} {o : Obj} (h : Below ((w.alloc (.cells cs e)).alloc o).heap.size ((w.alloc (.cells cs e)).alloc o) w1) : Blk w1 w.heap.size cs e := Blk.below ((Blk.new w cs e).alloc o) h
theorem Blk.two' {w w1 : World} {cs : Array Value} {e : TypeId} {o : Obj} (h : Below ((w.alloc (.cells cs e)).alloc o).drew.heap.size ((w.alloc (.cells cs e)).alloc o).drew w1) : Blk w1 w.heap.size cs e := Blk.below ((Blk.new w cs e).alloc o).drew h
theorem balloc {w0 w : World} (h : Below w0.heap.size w0 w) (o : Obj) : Below w0.heap.size w0 (w.alloc o) := h.alloc h.size o
theorem tbl_set {w : World} {t : Tbl} {v : Value} (h : TblAt w t v) {Y : Nat} {cs : Array Value} {et : TypeId} (hY : Blk w Y cs et) (he1 : (41 : TypeId) ≠ et) (he2 : (39 : TypeId) ≠ et) (i : Nat) (u : Value) : TblAt (w.setCell ⟨Y, i, none⟩ u) t v := by
  obtain ⟨A, c, B, cb, rfl, h1, h2, h3, h4, h5, h6⟩ := h
  have hb : ∀ g (e : TypeId), (∃ cs fr, w.heap[g]? = some (.cells cs e fr)) → e ≠ et → g ≠ Y := by
    rintro g e ⟨c1, fr, hc⟩ he rfl
    unfold Blk at hY
    rw [hY] at hc
    simp only [Option.some.injEq, Obj.cells.injEq] at hc
    exact he hc.2.1.symm
  have hk : ∀ g j, g ≠ Y → (w.setCell ⟨Y, i, none⟩ u).cell? ⟨g, j, none⟩ = w.cell? ⟨g, j, none⟩ := fun g j hg =>
    World.cell?_setCell_other _ _ _ _ (fun e => hg (congrArg Addr.block e).symm)
  have hty : ∀ A e, Typed w A e → e ≠ et → Typed (w.setCell ⟨Y, i, none⟩ u) A e := by
    intro A e h he a ha
    obtain ⟨c1, fr, hc⟩ := h a ha
    refine ⟨c1, fr, ?_⟩
    show (w.heap.modify Y _)[a.block]? = _
    rw [Array.getElem?_modify, if_neg (fun e' => hb _ _ ⟨c1, fr, hc⟩ he e'.symm), hc]
  have hsz : (w.setCell ⟨Y, i, none⟩ u).heap.size = w.heap.size := by simp [World.setCell]
  refine ⟨A, c, B, cb, rfl, h1, h2, fun h0 => ?_, fun h0 => ?_, hty _ _ h5 he1, hty _ _ h6 he2⟩
  · obtain ⟨g, hA, hl, hc⟩ := h3 h0
    have hg := hb g 41 (h5 _ hA) he1
    refine ⟨g, hA, by rw [hsz]; exact hl, fun j hj => ?_⟩
    rw [hk _ _ hg, hk _ _ hg]
    exact hc j hj
  · obtain ⟨g, o, hA, hl, hc⟩ := h4 h0
    have hg := hb g 39 (h6 _ hA) he2
    refine ⟨g, o, hA, by rw [hsz]; exact hl, fun j v hj => ?_⟩
    rw [hk _ _ hg]
    exact hc j v hj
/-- A table's cells lie still while another block grows. -/
theorem tbl_grown {w w' : World} {t : Tbl} {P : Option Addr} {nR pc : Nat} {hT : Value} {PB : Option Addr} {nL pb : Nat} (h : TblAt w t (.agg #[.slice P nR pc, hT, .slice PB nL pb])) {r : Option Nat} (hg : w.grownBy w' r) (hr : ∀ g cs e fr, r = some g → w.heap[g]? = some (.cells cs e fr) → e = 39) (hB : ∀ a : Addr, PB = some a → r ≠ some a.block) :
    TblAt w' t (.agg #[.slice P nR pc, hT, .slice PB nL pb]) := by
  obtain ⟨A, c, B, cb, eq, h1, h2, h3, h4, h5, h6⟩ := h
  have eqB : PB = B := by simp at eq; exact eq.2.2.1
  have hkB : ∀ a : Addr, B = some a → w'.heap[a.block]? = w.heap[a.block]? := fun a ha => by
    obtain ⟨cs, fr, hc⟩ := h6 a ha
    exact hg.block _ (Array.getElem?_eq_some_iff.1 hc).1 (fun e => hB a (eqB.trans ha) e.symm)
  have hkA : ∀ a : Addr, A = some a → w'.heap[a.block]? = w.heap[a.block]? := fun a ha => by
    obtain ⟨cs, fr, hc⟩ := h5 a ha
    exact hg.block _ (Array.getElem?_eq_some_iff.1 hc).1 (fun e => by have h39 := hr _ _ _ _ e.symm hc; exact absurd h39 (by decide))
  refine ⟨A, c, B, cb, eq, h1, h2, fun h0 => ?_, fun h0 => ?_, fun a ha => ?_, fun a ha => ?_⟩
  · obtain ⟨g, hA, hl, hc⟩ := h3 h0
    have hk := hkA _ hA
    refine ⟨g, hA, Nat.lt_of_lt_of_le hl hg.size, fun j hj => ?_⟩
    obtain ⟨a, b⟩ := hc j hj
    exact ⟨(World.cell?_of_block (a := ⟨g, j * 2, none⟩) hk).trans a, (World.cell?_of_block (a := ⟨g, j * 2 + 1, none⟩) hk).trans b⟩
  · obtain ⟨g, o, hA, hl, hc⟩ := h4 h0
    have hk := hkB _ hA
    exact ⟨g, o, hA, Nat.lt_of_lt_of_le hl hg.size, fun j v hj => (World.cell?_of_block (a := ⟨g, o + j, none⟩) hk).trans (hc j v hj)⟩
  · obtain ⟨cs, fr, hc⟩ := h5 a ha
    exact ⟨cs, fr, (hkA a ha).trans hc⟩
  · obtain ⟨cs, fr, hc⟩ := h6 a ha
    exact ⟨cs, fr, (hkB a ha).trans hc⟩
theorem blk_other {w : World} {b X : Nat} {cs : Array Value} {e : TypeId} (h : Blk w b cs e) (hne : b ≠ X) (i : Nat) (v : Value) : Blk (w.setCell ⟨X, i, none⟩ v) b cs e := by
  unfold Blk at h ⊢
  show (w.heap.modify X _)[b]? = _
  rw [Array.getElem?_modify, if_neg (fun e => hne e.symm), h]
theorem log_seven {w6 w0 : World} {v : Value} {a a' : Nat → Int} {kk Y X B k : Nat} {cs csx : Array Value} {t : Tbl} {tv vD : Value} {xs : List Value} (e : (atC a).setIfInBounds kk v = atC a') (hB : Blk w6 (Y + 1) (atC a) 54) (hYb : Blk w6 Y cs 31) (hX : Blk w6 X csx 39) (hne : X ≠ Y + 1) (hT : TblAt w6 t tv)
    (hD : w6.ownsRow B 39 3 vD k xs) (hb : Below w0.heap.size w0 w6) (hY : w0.heap.size ≤ Y) : Blk (w6.setCell ⟨Y + 1, kk, none⟩ v) (Y + 1) (atC a') 54 ∧ Blk (w6.setCell ⟨Y + 1, kk, none⟩ v) Y cs 31 ∧ Blk (w6.setCell ⟨Y + 1, kk, none⟩ v) X csx 39 ∧ TblAt (w6.setCell ⟨Y + 1, kk, none⟩ v) t tv ∧
      (w6.setCell ⟨Y + 1, kk, none⟩ v).ownsRow B 39 3 vD k xs ∧ Below w0.heap.size w0 (w6.setCell ⟨Y + 1, kk, none⟩ v) :=
  ⟨by rw [← e]; exact hB.set kk v, blk_other hYb (by omega) kk v, blk_other hX hne kk v, tbl_set hT hB (by decide) (by decide) kk v, own_set hD hB (by decide) kk v, hb.setCell (p := ⟨Y + 1, kk, none⟩) (by show w0.heap.size ≤ Y + 1; omega) v⟩
theorem own_type {w : World} {B e s n : Nat} {v : Value} {xs : List Value} (h : w.ownsRow B e s v n xs) : ∀ g cs et fr, v.ownBlock = some g → w.heap[g]? = some (.cells cs et fr) → et = e := by
  intro g cs et fr hv hg
  rcases h.2 with ⟨rfl, _⟩ | ⟨g', c, cur, rfl, _, hg', _⟩
  · simp [Value.ownBlock] at hv
  · simp only [Value.ownBlock, Option.some.injEq] at hv
    subst hv
    rw [hg'] at hg
    simp only [Option.some.injEq, Obj.cells.injEq] at hg
    exact hg.2.1.symm
theorem tbl_log_lt {w : World} {t : Tbl} {x y : Value} {PB : Option Addr} {nL pb : Nat} (h : TblAt w t (.agg #[x, y, .slice PB nL pb])) : ∀ b : Addr, PB = some b → b.block < w.heap.size := by
  intro b hb
  obtain ⟨A, c, B, cb, eq, _, _, _, _, _, h6⟩ := h
  have eqB : PB = B := by simp at eq; exact eq.2.2.1
  obtain ⟨cs, fr, hc⟩ := h6 b (eqB.symm.trans hb)
  exact (Array.getElem?_eq_some_iff.1 hc).1
theorem upds_one {w : World} {X : Nat} {u : Upd} {cs : Array Value} {e : TypeId} (h : Blk w X cs e) (hc : cs.toList = ucells [u]) : Upds w (some ⟨X, 0, none⟩) [u] := by
  intro _
  refine ⟨X, rfl, h.lt, fun j hj => ?_⟩
  have hj0 : j = 0 := by simpa using hj
  subst hj0
  have e3 : cs = #[.string (mk u.name), .string (mk u.old), .string (mk u.new)] := by
    have : cs = cs.toList.toArray := by simp
    rw [this, hc]; rfl
  subst e3
  exact ⟨h.cell 0, h.cell 1, h.cell 2⟩
theorem apply_blk {W2 : World} {X : Nat} {cs : Array Value} {u : Upd} {t : Tbl} {v : Value} {m : Int} (_ : Blk W2 X cs 39) (hc : cs.toList = ucells [u]) (hv : TblAt W2 t v) (hs : Sorted t.refs) (hrl : t.refs.length ≤ 900000) (hll : t.log.length ≤ 900000) (hu : u.name.length ≤ 2000000) (hm : W2.cell? ⟨0, 0, none⟩ = some (.int .i64 m)) (hE : mayE t.refs [u] [] = 0) :
    Calls Tryd.prog 13 #[v, .slice (some ⟨W2.heap.size, 0, none⟩) 1 1, .string ⟨#[]⟩] (W2.alloc (.cells cs 39)) fun e w' => ∃ P nR pc hP PB nL pb, e = .returned (.tuple #[.agg #[.slice P nR pc, .string hP, .slice PB nL pb], .int .i64 0]) ∧ TblAt w' (t.res [u] []) (.agg #[.slice P nR pc, .string hP, .slice PB nL pb]) ∧
      (∀ a : Addr, PB = some a → W2.heap.size ≤ a.block) ∧ Below (W2.alloc (.cells cs 39)).heap.size (W2.alloc (.cells cs 39)) w' := by
  have hb := below_alloc W2 (.cells cs 39)
  refine (apply_up t v u (some ⟨W2.heap.size, 0, none⟩) 1 m (W2.alloc (.cells cs 39)) (hv.below hb) hs hrl hll hu (upds_one (Blk.new W2 cs 39) hc) (fun h => by cases h) ((hb.cell (p := ⟨0, 0, none⟩) (cell_lt hm)).trans hm) hE).mono ?_
  rintro e w' ⟨P, nR, pc, hP, PB, nL, pb, rfl, h1, h2, h3⟩
  exact ⟨P, nR, pc, hP, PB, nL, pb, rfl, h1, fun a ha => Nat.le_trans hb.size (h2 a ha), h3⟩
theorem blk_bundle {w0 W2 : World} {X Y B k : Nat} {cs csy csb : Array Value} {vD : Value} {xs : List Value} (hX : Blk W2 X cs 39) (hY : Blk W2 Y csy 31) (hB : Blk W2 (Y + 1) csb 54) (hD : W2.ownsRow B 39 3 vD k xs) (hb : Below w0.heap.size w0 W2) :
    ∀ w5, Below (W2.alloc (.cells cs 39)).heap.size (W2.alloc (.cells cs 39)) w5 → Blk w5 Y csy 31 ∧ Blk w5 (Y + 1) csb 54 ∧ Blk w5 X cs 39 ∧ w5.ownsRow B 39 3 vD k xs ∧ Below w0.heap.size w0 w5 := fun _ h5 =>
  ⟨(hY.alloc _).below h5, (hB.alloc _).below h5, (hX.alloc _).below h5, own_below (hD.alloc _) h5, below_step (balloc hb _) h5⟩
theorem log_nine {w7 wa w0 : World} {o : Obj} {Y k ga capa nR pc nL pb : Nat} {P PB D : Option Addr} {d : Nat} {hP : Value} {csy csb : Array Value} {t : Tbl} {xs : List Value} (hgra : (w7.alloc o).grownBy wa (Value.slice D k d).ownBlock) (hY : Blk w7 Y csy 31) (hB : Blk w7 (Y + 1) csb 54)
    (hT : TblAt w7 t (.agg #[.slice P nR pc, hP, .slice PB nL pb])) (hD : w7.ownsRow w0.heap.size 39 3 (.slice D k d) k xs) (hb : Below w0.heap.size w0 w7) (hap : ∀ b : Addr, PB = some b → (Value.slice D k d).ownBlock ≠ some b.block) (hat : (Value.slice D k d).ownBlock = some ga ∨ ga = (w7.alloc o).heap.size) :
    Below w0.heap.size w0 wa ∧ Blk wa Y csy 31 ∧ Blk wa (Y + 1) csb 54 ∧ TblAt wa t (.agg #[.slice P nR pc, hP, .slice PB nL pb]) ∧ ∀ b : Addr, PB = some b → (Value.slice (some ⟨ga, 0, none⟩) (k + 1) capa).ownBlock ≠ some b.block := by
  refine ⟨(balloc hb o).grown hgra (balloc hb o).size (fun b e => (hD.lt b e).1), (hY.alloc o).grown hgra (own_ne_blk (hD.alloc o) (hY.alloc o) (by decide)), (hB.alloc o).grown hgra (own_ne_blk (hD.alloc o) (hB.alloc o) (by decide)),
    tbl_grown (hT.below (below_alloc _ _)) hgra (fun g cs e fr h1 h2 => own_type (hD.alloc o) g cs e fr h1 h2) (fun b hb => hap b hb), fun b hb e => ?_⟩
  have h1 := tbl_log_lt hT b hb
  simp only [Value.ownBlock, Option.some.injEq] at e
  rcases hat with h2 | h2
  · exact hap b hb (h2.trans (by rw [e]))
  · simp at h2
    omega
theorem eq_guard39 (w : World) (op : BinOp) (x y : Operand) (xs ys : Array Value) : (eqGuard op 39 x y (.agg xs) (.agg ys)).run Tryd.prog w = .ok () w := run_eqGuard_agg w op 39 x y xs ys (by kernel_rfl)
theorem upd_neq (a b c d e f : ByteArray) (w : World) : (binOp .neq 39 (.agg #[.string a, .string b, .string c]) (.agg #[.string d, .string e, .string f])).run Tryd.prog w = .ok (.bool (!(a.toList == d.toList && b.toList == e.toList && c.toList == f.toList))) w := by
  rw [run_neq_struct, run_equalIn_struct w _ _ _ _ (by kernel_rfl) (by kernel_rfl)]
  have hf : (Tryd.prog.fieldsOf 39).toList = (match Tryd.prog.underlying 39 with | some (.struct fs) => fs.toList | _ => []) := by kernel_rfl
  rw [hf, Tryd.underlying39]
  simp only [Op.eqFields]
  go_simp
  by_cases h1 : a.toList = d.toList
  · by_cases h2 : b.toList = e.toList
    · by_cases h3 : c.toList = f.toList
      · simp [h1, h2, h3]
      · simp [h1, h2, h3]
    · simp [h1, h2]
  · simp [h1]
theorem upd_same (a b c : ByteArray) (w : World) : (binOp .neq 39 (.agg #[.string a, .string b, .string c]) (.agg #[.string a, .string b, .string c])).run Tryd.prog w = .ok (.bool false) w := by
  rw [upd_neq]; simp
/-- The cells of an element of updates that lie anywhere. -/
theorem lies_at {w : World} {A : Option Addr} {us : List Upd} (h : Lies w A (ucells us)) (j : Nat) (hj : j < us.length) : ∃ g o, A = some ⟨g, o, none⟩ ∧ w.cell? ⟨g, o + j * 3, none⟩ = some (.string (mk us[j].name)) ∧ w.cell? ⟨g, o + j * 3 + 1, none⟩ = some (.string (mk us[j].old)) ∧ w.cell? ⟨g, o + j * 3 + 2, none⟩ = some (.string (mk us[j].new)) := by
  obtain ⟨g, o, hA, _, hc⟩ := h (by rw [ucells_length]; omega)
  obtain ⟨u0, u1, u2⟩ := ucells_at us j hj
  exact ⟨g, o, hA, hc _ _ u0, hc _ _ u1, hc _ _ u2⟩
theorem known_len (S : List Bs) : (knownL S).length ≤ S.length := by
  unfold knownL
  refine Nat.le_trans (List.length_filter_le _ _) ?_
  rw [← sortB_len S]
  unfold Lib.compact Lib.compactUpTo
  rw [List.length_map]
  exact Nat.le_trans (List.length_filter_le _ _) (by simp)
theorem ids_len (t : Tbl) : t.ids.length = t.refs.length + t.log.length * 2 := by
  unfold Tbl.ids
  rw [List.length_append, List.length_map, logIds_len]
set_option maxRecDepth 100000 in
set_option maxHeartbeats 8000000 in
theorem log_any (A : Option Addr) (n cap : Nat) (l : List Int) (m : Int) (w : World) (hln : l.length = n) (hn : n ≤ 9223372036854775807) (hL : Ints w A l) (hwf : ∀ x ∈ l, -9223372036854775808 ≤ x ∧ x ≤ 9223372036854775807) (hm : w.cell? ⟨0, 0, none⟩ = some (.int .i64 m)) :
    Calls Tryd.prog 6 #[.slice A n cap] w fun e w' => e = .returned (.bool true) ∧ Below w.heap.size w w' := by
  have KS := speaks_any m _ hm
  have GA := Lib.hid (show ∀ w', Below w.heap.size w w' → w'.cell? ⟨0, 0, none⟩ = some (.int .i64 m) ∧ Ints w' A l from fun w' hb =>
    ⟨(hb.cell (p := ⟨0, 0, none⟩) (cell_lt hm)).trans hm, hL.below (Nat.le_refl _) hb⟩)
  have HWF := Lib.hid hwf
  obtain ⟨iu, hiu, hu0, hu1, hu2⟩ := info_parts info39
  clear hL hwf hm
  go_enter Tryd.func6, Tryd.ntmps6
  go_wp2_with (go_at_call 7; refine KS.mono ?_; rintro e W1 ⟨rfl, hb1⟩)
  have hTb : TblAt ((W1.alloc (.cells #[.slice none 0 0, .string (mk mainB), .slice none 0 0] 31)).alloc (.cells (atC fun _ => 0) 54)) ⟨[], mainB, []⟩ (.agg #[.slice none 0 0, .string (mk mainB), .slice none 0 0]) :=
    ⟨_, 0, _, 0, rfl, fun _ => rfl, fun _ => rfl, fun h => by simp at h, fun h => by simp [ucells] at h, fun a h => by simp at h, fun a h => by simp at h⟩
  have hY := (Blk.new W1 #[.slice none 0 0, .string (mk mainB), .slice none 0 0] 31).alloc (.cells (atC fun _ => 0) 54)
  have hBt : Blk ((W1.alloc (.cells #[.slice none 0 0, .string (mk mainB), .slice none 0 0] 31)).alloc (.cells (atC fun _ => 0) 54)) (W1.heap.size + 1) (atC fun _ => 0) 54 := by
    have := Blk.new (W1.alloc (.cells #[.slice none 0 0, .string (mk mainB), .slice none 0 0] 31)) (atC fun _ => 0) 54
    rw [show (W1.alloc (.cells #[.slice none 0 0, .string (mk mainB), .slice none 0 0] 31)).heap.size = W1.heap.size + 1 by simp] at this
    exact this
  have hbY := balloc (balloc hb1 (.cells #[.slice none 0 0, .string (mk mainB), .slice none 0 0] 31)) (.cells (atC fun _ => 0) 54)
  have HTb := Lib.hid hTb
  have HY := Lib.hid hY
  have HBt := Lib.hid hBt
  have HbY := Lib.hid hbY
  have hWs := hb1.size
  obtain ⟨Y, hYY⟩ : ∃ Y, W1.heap.size = Y := ⟨_, rfl⟩
  rw [hYY] at HY HBt hWs
  simp only [hYY]
  clear hTb hY hBt hbY KS hYY
  go_loopw [5, 6] (fun vw i wr => ∃ (k : Nat) (t : Tbl) (a : Nat → Int) (W : List Upd) (T : Option Addr) (nT ct : Nat) (hT : ByteArray) (TB : Option Addr) (nB cb : Nat) (D : Option Addr) (d : Nat), k ≤ 400 ∧ k ≤ n ∧ i = .int .i64 k ∧ vw = .slice D k d ∧ Blk wr Y #[.slice T nT ct, .string hT, .slice TB nB cb] 31 ∧
      TblAt wr t (.agg #[.slice T nT ct, .string hT, .slice TB nB cb]) ∧ Blk wr (Y + 1) (atC a) 54 ∧ LInv k t a W ∧ wr.ownsRow w.heap.size 39 3 (.slice D k d) k (ucells W) ∧ (∀ b : Addr, TB = some b → (Value.slice D k d).ownBlock ≠ some b.block) ∧ Below w.heap.size w wr) (fun _ i _ => 400 - (intOf i).toNat)
  case atStart => exact ⟨0, _, _, _, _, _, _, _, _, _, _, none, 0, by omega, by omega, rfl, rfl, HY.out, HTb.out, HBt.out, LInv.start, World.ownsRow_nil _ _ _ _, (fun b hb => by cases hb), HbY.out⟩
  case round =>
    clear HTb HY HBt HbY
    obtain ⟨k, t, a, W, T, nT, ct, hT, TB, nB, cb, D, d, hk, hkn, rfl, rfl, hY, hTA, hBt, hI, hD, hap, hb⟩ := hrel
    obtain ⟨hm1, hIn⟩ := GA.out _ hb
    by_cases h : k < 400 ∧ k < n
    · obtain ⟨h4, hkn'⟩ := h
      have hkl : k < l.length := by omega
      obtain ⟨g, o, rfl, hg, hcs⟩ := hIn (by omega)
      have c0 := hcs k hkl
      have hxb := HWF.out _ (List.getElem_mem hkl)
      obtain ⟨x, hx⟩ : ∃ x, l[k] = x := ⟨_, rfl⟩
      rw [hx] at c0 hxb
      obtain ⟨r, kk, hr, hr1, hr2, hkk, hkk3⟩ := num_k x
      obtain ⟨q, r5, n5, hq, hr5, hr51, hr52, hn5, hn50, hn55⟩ := num_n x
      have hq1 : 3 * q + r = x := by rw [← hq, ← hr]; exact Int.mul_tdiv_add_tmod x 3
      have hq2 : -9223372036854775808 ≤ q := by omega
      have hq3 : q ≤ 9223372036854775807 := by omega
      obtain ⟨nv, hnv⟩ : ∃ nv, 1 + n5 = nv := ⟨_, rfl⟩
      have hnv1 : 1 ≤ nv := by omega
      have hnv5 : nv ≤ 5 := by omega
      have k0 : (0 : Int) ≤ (k : Int) := by omega
      have k1 : (k : Int) < (n : Int) := by omega
      have k2 : (k : Int) < 400 := by omega
      have kk0 : (0 : Int) ≤ (kk : Int) := by omega
      have kk3 : (kk : Int) < 3 := by omega
      clear hIn hcs hx hq1
      go_upto_region 11 with fail
      obtain ⟨idS, hidS⟩ : ∃ f : Int → ByteArray, f = fun n => mk (idB n) := ⟨_, rfl⟩
      have KI : ∀ (m : Int) (w : World), Calls Tryd.prog 19 #[.int .i64 m] w fun e w' => e = .returned (.string (idS m)) ∧ Below w.heap.size w w' := fun m w => by rw [hidS]; exact id_any m w
      have HidS := Lib.hid hidS
      have GC := Lib.hid (show ∀ w', Below wr.heap.size wr w' → w'.cell? ⟨Y + 1, kk, none⟩ = some (.int .i64 (a kk)) from fun w' hb' => ((hBt.below hb').cell kk).trans (atC_get a kk hkk3))
      have hnk : (#[.string ⟨#[104, 101, 97, 100, 115, 47, 97]⟩, .string ⟨#[104, 101, 97, 100, 115, 47, 98]⟩, .string ⟨#[116, 97, 103, 115, 47, 99]⟩] : Array Value)[kk]? = some (.string (mk (nmB kk))) := names_get kk hkk3
      obtain ⟨nk, hnkk⟩ : ∃ z, mk (nmB kk) = z := ⟨_, rfl⟩
      obtain ⟨av, hav⟩ : ∃ z, a kk = z := ⟨_, rfl⟩
      rw [hnkk] at hnk
      rw [hav] at GC
      have HNK := Lib.hid hnkk
      have HAV := Lib.hid hav
      have HI := Lib.hid hI
      have HST := Lib.hid (And.intro hY (And.intro hTA (And.intro hBt (And.intro hD (And.intro hap hb)))))
      have hbt0 := GC.out _ (Below.refl _ wr)
      clear hidS hnkk hav hI hY hTA hBt hD hap hb hr hkk hq hr5 hn5 hnv c0 hm1
      go_cut [9] from 48 to 58 (fun s9 wx => ∃ X, s9 = .pointer (some ⟨X, 0, none⟩) ∧ wr.heap.size ≤ X ∧ Blk wx X #[.string nk, .string (idS av), .string (idS nv)] 39 ∧ Below wr.heap.size wr wx)
      case first =>
        have hnk2 : ∀ h : kk < ([.string ⟨#[104, 101, 97, 100, 115, 47, 97]⟩, .string ⟨#[104, 101, 97, 100, 115, 47, 98]⟩, .string ⟨#[116, 97, 103, 115, 47, 99]⟩] : List Value).length, ([.string ⟨#[104, 101, 97, 100, 115, 47, 97]⟩, .string ⟨#[104, 101, 97, 100, 115, 47, 98]⟩, .string ⟨#[116, 97, 103, 115, 47, 99]⟩] : List Value)[kk] = .string nk := fun h => by
          have e := hnk
          rw [← Array.getElem?_toList] at e
          rw [List.getElem?_eq_getElem h] at e
          exact Option.some.inj e
        clear HST HI
        have mixed : Tryd.prog.follows Departure.mixedOrders = true := by kernel_rfl
        refine wp_region_held (S := fun w' => Below wr.heap.size wr w') mixed ?_
        change wpAnyH _ _ _ _ _ _ _ _ wr.drew
        have B := (Below.refl wr.heap.size wr).drew
        obtain ⟨w0, hw0⟩ : ∃ u, wr.drew = u := ⟨_, rfl⟩
        rw [hw0] at B
        rw [hw0]
        clear hw0
        refine wpAnyH_take (i := 1) (v := .int .i64 kk) rfl (by kernel_rfl) (by kernel_rfl) (by kernel_rfl) (fun c a w h => h) (.inl ⟨by kernel_rfl, fun w' hS => ?_⟩) ?_ ?_
        · go_simp
        · exact B
        try go_simp
        refine wpAnyH_take (i := 4) (v := .int .i64 kk) rfl (by kernel_rfl) (by kernel_rfl) (by kernel_rfl) (fun c a w h => h) (.inl ⟨by kernel_rfl, fun w' hS => ?_⟩) ?_ ?_
        · go_simp
        · exact B
        try go_simp
        refine wpAnyH_take (i := 5) (v := .pointer (some ⟨Y + 1, kk, none⟩)) rfl (by kernel_rfl) (by kernel_rfl) (by kernel_rfl) (fun c a w h => h) (.inl ⟨by kernel_rfl, fun w' hS => ?_⟩) ?_ ?_
        · go_simp
        · exact B
        try go_simp
        refine wpAnyH_take (i := 6) (v := .int .i64 av) rfl (by kernel_rfl) (by kernel_rfl) (by kernel_rfl) (fun c a w h => h) (.inl ⟨by kernel_rfl, fun w' hS => ?_⟩) ?_ ?_
        · have hc := GC.out _ hS; go_simp
        · exact B
        try go_simp
        refine wpAnyH_take (i := 8) (v := .int .i64 nv) rfl (by kernel_rfl) (by kernel_rfl) (by kernel_rfl) (fun c a w h => h) (.inl ⟨by kernel_rfl, fun w' hS => ?_⟩) ?_ ?_
        · go_simp
        · exact B
        try go_simp
        refine wpAnyH_all (rs := [0, 7, 11]) (by kernel_rfl) (by simp) ?_
        intro i hi
        simp only [List.mem_cons, List.not_mem_nil, or_false] at hi
        rcases hi with rfl | rfl | rfl
        · unfold wpOp
          go_simp
          have B2 := balloc B (.cells #[.string ⟨#[104, 101, 97, 100, 115, 47, 97]⟩, .string ⟨#[104, 101, 97, 100, 115, 47, 98]⟩, .string ⟨#[116, 97, 103, 115, 47, 99]⟩] 9)
          have SB2 := Blk.new w0 #[.string ⟨#[104, 101, 97, 100, 115, 47, 97]⟩, .string ⟨#[104, 101, 97, 100, 115, 47, 98]⟩, .string ⟨#[116, 97, 103, 115, 47, 99]⟩] 9
          have hS0 := B.size
          first | refine .inl ⟨B2, ?_⟩ | refine ⟨B2, ?_⟩
          obtain ⟨b, hb⟩ : ∃ b, w0.heap.size = b := ⟨_, rfl⟩
          rw [hb] at SB2
          obtain ⟨wz1, hw⟩ : ∃ u, w0.alloc (.cells #[.string ⟨#[104, 101, 97, 100, 115, 47, 97]⟩, .string ⟨#[104, 101, 97, 100, 115, 47, 98]⟩, .string ⟨#[116, 97, 103, 115, 47, 99]⟩] 9) = u := ⟨_, rfl⟩
          rw [hw] at B2 SB2
          rw [hw]
          try rw [hb]
          refine wpAnyH_strong (S2 := fun w' => Below wr.heap.size wr w' ∧ Blk w' b #[.string ⟨#[104, 101, 97, 100, 115, 47, 97]⟩, .string ⟨#[104, 101, 97, 100, 115, 47, 98]⟩, .string ⟨#[116, 97, 103, 115, 47, 99]⟩] 9) (fun w h => h.1) _ _ _ _ ?_
          have B := B2
          have SB := SB2
          refine wpAnyH_take (i := 2) (v := .pointer (some ⟨b, kk, none⟩)) rfl (by kernel_rfl) (by kernel_rfl) (by kernel_rfl) (fun c a w h => h) (.inl ⟨by kernel_rfl, fun w' hS => ?_⟩) ?_ ?_
          · go_simp
          · exact ⟨B, SB⟩
          try go_simp
          refine wpAnyH_take (i := 3) (v := .string nk) rfl (by kernel_rfl) (by kernel_rfl) (by kernel_rfl) (fun c a w h => h) (.inl ⟨by kernel_rfl, fun w' hS => ?_⟩) ?_ ?_
          · have hc := (hS.2.cell kk).trans hnk; go_simp
          · exact ⟨B, SB⟩
          try go_simp
          refine wpAnyH_all (rs := [7, 11]) (by kernel_rfl) (by simp) ?_
          intro i hi
          simp only [List.mem_cons, List.not_mem_nil, or_false] at hi
          rcases hi with rfl | rfl
          · unfold wpOp
            go_simp
            refine .inl ((KI _ _).mono ?_)
            rintro e wz2 ⟨rfl, h1⟩
            have B2 := below_step B h1
            have SB2 := SB.below h1
            replace B := B2
            replace SB := SB2
            refine ⟨⟨B, SB⟩, ?_⟩
            try go_simp
            refine wpAnyH_all (rs := [9, 11]) (by kernel_rfl) (by simp) ?_
            intro i hi
            simp only [List.mem_cons, List.not_mem_nil, or_false] at hi
            rcases hi with rfl | rfl
            · unfold wpOp
              go_simp
              refine .inl ((KI _ _).mono ?_)
              rintro e wz3 ⟨rfl, h1⟩
              have B2 := below_step B h1
              have SB2 := SB.below h1
              replace B := B2
              replace SB := SB2
              refine ⟨⟨B, SB⟩, ?_⟩
              try go_simp
              refine wpAnyH_take (i := 10) (v := .agg #[.string nk, .string (idS av), .string (idS nv)]) rfl (by kernel_rfl) (by kernel_rfl) (by kernel_rfl) (fun c a w h => h) (.inl ⟨by kernel_rfl, fun w' hS => ?_⟩) ?_ ?_
              · go_simp
              · exact ⟨B, SB⟩
              try go_simp
              refine wpAnyH_all (rs := [11]) (by kernel_rfl) (by simp) ?_
              intro i hi
              simp only [List.mem_cons, List.not_mem_nil, or_false] at hi
              subst hi
              · unfold wpOp
                go_simp
                have B2 := balloc B (.cells #[.string ⟨#[]⟩, .string ⟨#[]⟩, .string ⟨#[]⟩] 39)
                have XB2 := Blk.new wz3 #[.string ⟨#[]⟩, .string ⟨#[]⟩, .string ⟨#[]⟩] 39
                have hX := B.size
                have SB2 := SB.alloc (.cells #[.string ⟨#[]⟩, .string ⟨#[]⟩, .string ⟨#[]⟩] 39)
                first | refine .inl ⟨⟨B2, SB2⟩, ?_⟩ | refine ⟨⟨B2, SB2⟩, ?_⟩
                obtain ⟨X, hXe⟩ : ∃ b, wz3.heap.size = b := ⟨_, rfl⟩
                rw [hXe] at XB2 hX
                have hbX : b ≠ X := by have := SB.lt; omega
                obtain ⟨wz4, hw⟩ : ∃ u, wz3.alloc (.cells #[.string ⟨#[]⟩, .string ⟨#[]⟩, .string ⟨#[]⟩] 39) = u := ⟨_, rfl⟩
                rw [hw] at B2 XB2 SB2
                rw [hw]
                try rw [hXe]
                have B := B2
                have XB := XB2
                have SB := SB2
                refine wpAnyH_all (rs := [12]) (by kernel_rfl) (by simp) ?_
                intro i hi
                simp only [List.mem_cons, List.not_mem_nil, or_false] at hi
                subst hi
                · unfold wpOp
                  have y0 := XB.cell 0
                  have y1 := XB.cell 1
                  have y2 := XB.cell 2
                  have f0 := XB.frozen 0
                  have f1 := XB.frozen 1
                  have f2 := XB.frozen 2
                  simp at y0 y1 y2
                  go_simp
                  first | refine ⟨⟨(((B.setCell (p := ⟨X, 0, none⟩) hX _).setCell (p := ⟨X, 1, none⟩) hX _).setCell (p := ⟨X, 2, none⟩) hX _), blk_other (X := X) (blk_other (X := X) (blk_other (X := X) SB hbX 0 _) hbX 1 _) hbX 2 _⟩, wpAnyH_done (by kernel_rfl) ?_ _⟩ | refine .inl ⟨⟨(((B.setCell (p := ⟨X, 0, none⟩) hX _).setCell (p := ⟨X, 1, none⟩) hX _).setCell (p := ⟨X, 2, none⟩) hX _), blk_other (X := X) (blk_other (X := X) (blk_other (X := X) SB hbX 0 _) hbX 1 _) hbX 2 _⟩, wpAnyH_done (by kernel_rfl) ?_ _⟩
                  have XF := ((XB.set 0 (.string nk)).set 1 (.string (idS av))).set 2 (.string (idS nv))
                  simp at XF
                  first | (go_meet; exact ⟨X, rfl, hX, XF, ((B.setCell (p := ⟨X, 0, none⟩) hX _).setCell (p := ⟨X, 1, none⟩) hX _).setCell (p := ⟨X, 2, none⟩) hX _⟩) | (go_wp2_with fail; go_meet; exact ⟨X, rfl, hX, XF, ((B.setCell (p := ⟨X, 0, none⟩) hX _).setCell (p := ⟨X, 1, none⟩) hX _).setCell (p := ⟨X, 2, none⟩) hX _⟩) | (simp only [Exit.then]; go_meet; exact ⟨X, rfl, hX, XF, ((B.setCell (p := ⟨X, 0, none⟩) hX _).setCell (p := ⟨X, 1, none⟩) hX _).setCell (p := ⟨X, 2, none⟩) hX _⟩)
            · unfold wpOp
              go_simp
              have B2 := balloc B (.cells #[.string ⟨#[]⟩, .string ⟨#[]⟩, .string ⟨#[]⟩] 39)
              have XB2 := Blk.new wz2 #[.string ⟨#[]⟩, .string ⟨#[]⟩, .string ⟨#[]⟩] 39
              have hX := B.size
              have SB2 := SB.alloc (.cells #[.string ⟨#[]⟩, .string ⟨#[]⟩, .string ⟨#[]⟩] 39)
              first | refine .inl ⟨⟨B2, SB2⟩, ?_⟩ | refine ⟨⟨B2, SB2⟩, ?_⟩
              obtain ⟨X, hXe⟩ : ∃ b, wz2.heap.size = b := ⟨_, rfl⟩
              rw [hXe] at XB2 hX
              have hbX : b ≠ X := by have := SB.lt; omega
              obtain ⟨wz5, hw⟩ : ∃ u, wz2.alloc (.cells #[.string ⟨#[]⟩, .string ⟨#[]⟩, .string ⟨#[]⟩] 39) = u := ⟨_, rfl⟩
              rw [hw] at B2 XB2 SB2
              rw [hw]
              try rw [hXe]
              have B := B2
              have XB := XB2
              have SB := SB2
              refine wpAnyH_all (rs := [9]) (by kernel_rfl) (by simp) ?_
              intro i hi
              simp only [List.mem_cons, List.not_mem_nil, or_false] at hi
              subst hi
              · unfold wpOp
                go_simp
                refine .inl ((KI _ _).mono ?_)
                rintro e wz6 ⟨rfl, h1⟩
                have B2 := below_step B h1
                have SB2 := SB.below h1
                have XB2 := XB.below h1
                replace B := B2
                replace SB := SB2
                replace XB := XB2
                refine ⟨⟨B, SB⟩, ?_⟩
                try go_simp
                refine wpAnyH_take (i := 10) (v := .agg #[.string nk, .string (idS av), .string (idS nv)]) rfl (by kernel_rfl) (by kernel_rfl) (by kernel_rfl) (fun c a w h => h) (.inl ⟨by kernel_rfl, fun w' hS => ?_⟩) ?_ ?_
                · go_simp
                · exact ⟨B, SB⟩
                try go_simp
                refine wpAnyH_all (rs := [12]) (by kernel_rfl) (by simp) ?_
                intro i hi
                simp only [List.mem_cons, List.not_mem_nil, or_false] at hi
                subst hi
                · unfold wpOp
                  have y0 := XB.cell 0
                  have y1 := XB.cell 1
                  have y2 := XB.cell 2
                  have f0 := XB.frozen 0
                  have f1 := XB.frozen 1
                  have f2 := XB.frozen 2
                  simp at y0 y1 y2
                  go_simp
                  first | refine ⟨⟨(((B.setCell (p := ⟨X, 0, none⟩) hX _).setCell (p := ⟨X, 1, none⟩) hX _).setCell (p := ⟨X, 2, none⟩) hX _), blk_other (X := X) (blk_other (X := X) (blk_other (X := X) SB hbX 0 _) hbX 1 _) hbX 2 _⟩, wpAnyH_done (by kernel_rfl) ?_ _⟩ | refine .inl ⟨⟨(((B.setCell (p := ⟨X, 0, none⟩) hX _).setCell (p := ⟨X, 1, none⟩) hX _).setCell (p := ⟨X, 2, none⟩) hX _), blk_other (X := X) (blk_other (X := X) (blk_other (X := X) SB hbX 0 _) hbX 1 _) hbX 2 _⟩, wpAnyH_done (by kernel_rfl) ?_ _⟩
                  have XF := ((XB.set 0 (.string nk)).set 1 (.string (idS av))).set 2 (.string (idS nv))
                  simp at XF
                  first | (go_meet; exact ⟨X, rfl, hX, XF, ((B.setCell (p := ⟨X, 0, none⟩) hX _).setCell (p := ⟨X, 1, none⟩) hX _).setCell (p := ⟨X, 2, none⟩) hX _⟩) | (go_wp2_with fail; go_meet; exact ⟨X, rfl, hX, XF, ((B.setCell (p := ⟨X, 0, none⟩) hX _).setCell (p := ⟨X, 1, none⟩) hX _).setCell (p := ⟨X, 2, none⟩) hX _⟩) | (simp only [Exit.then]; go_meet; exact ⟨X, rfl, hX, XF, ((B.setCell (p := ⟨X, 0, none⟩) hX _).setCell (p := ⟨X, 1, none⟩) hX _).setCell (p := ⟨X, 2, none⟩) hX _⟩)
          · unfold wpOp
            go_simp
            have B2 := balloc B (.cells #[.string ⟨#[]⟩, .string ⟨#[]⟩, .string ⟨#[]⟩] 39)
            have XB2 := Blk.new wz1 #[.string ⟨#[]⟩, .string ⟨#[]⟩, .string ⟨#[]⟩] 39
            have hX := B.size
            have SB2 := SB.alloc (.cells #[.string ⟨#[]⟩, .string ⟨#[]⟩, .string ⟨#[]⟩] 39)
            first | refine .inl ⟨⟨B2, SB2⟩, ?_⟩ | refine ⟨⟨B2, SB2⟩, ?_⟩
            obtain ⟨X, hXe⟩ : ∃ b, wz1.heap.size = b := ⟨_, rfl⟩
            rw [hXe] at XB2 hX
            have hbX : b ≠ X := by have := SB.lt; omega
            obtain ⟨wz7, hw⟩ : ∃ u, wz1.alloc (.cells #[.string ⟨#[]⟩, .string ⟨#[]⟩, .string ⟨#[]⟩] 39) = u := ⟨_, rfl⟩
            rw [hw] at B2 XB2 SB2
            rw [hw]
            try rw [hXe]
            have B := B2
            have XB := XB2
            have SB := SB2
            refine wpAnyH_all (rs := [7]) (by kernel_rfl) (by simp) ?_
            intro i hi
            simp only [List.mem_cons, List.not_mem_nil, or_false] at hi
            subst hi
            · unfold wpOp
              go_simp
              refine .inl ((KI _ _).mono ?_)
              rintro e wz8 ⟨rfl, h1⟩
              have B2 := below_step B h1
              have SB2 := SB.below h1
              have XB2 := XB.below h1
              replace B := B2
              replace SB := SB2
              replace XB := XB2
              refine ⟨⟨B, SB⟩, ?_⟩
              try go_simp
              refine wpAnyH_all (rs := [9]) (by kernel_rfl) (by simp) ?_
              intro i hi
              simp only [List.mem_cons, List.not_mem_nil, or_false] at hi
              subst hi
              · unfold wpOp
                go_simp
                refine .inl ((KI _ _).mono ?_)
                rintro e wz9 ⟨rfl, h1⟩
                have B2 := below_step B h1
                have SB2 := SB.below h1
                have XB2 := XB.below h1
                replace B := B2
                replace SB := SB2
                replace XB := XB2
                refine ⟨⟨B, SB⟩, ?_⟩
                try go_simp
                refine wpAnyH_take (i := 10) (v := .agg #[.string nk, .string (idS av), .string (idS nv)]) rfl (by kernel_rfl) (by kernel_rfl) (by kernel_rfl) (fun c a w h => h) (.inl ⟨by kernel_rfl, fun w' hS => ?_⟩) ?_ ?_
                · go_simp
                · exact ⟨B, SB⟩
                try go_simp
                refine wpAnyH_all (rs := [12]) (by kernel_rfl) (by simp) ?_
                intro i hi
                simp only [List.mem_cons, List.not_mem_nil, or_false] at hi
                subst hi
                · unfold wpOp
                  have y0 := XB.cell 0
                  have y1 := XB.cell 1
                  have y2 := XB.cell 2
                  have f0 := XB.frozen 0
                  have f1 := XB.frozen 1
                  have f2 := XB.frozen 2
                  simp at y0 y1 y2
                  go_simp
                  first | refine ⟨⟨(((B.setCell (p := ⟨X, 0, none⟩) hX _).setCell (p := ⟨X, 1, none⟩) hX _).setCell (p := ⟨X, 2, none⟩) hX _), blk_other (X := X) (blk_other (X := X) (blk_other (X := X) SB hbX 0 _) hbX 1 _) hbX 2 _⟩, wpAnyH_done (by kernel_rfl) ?_ _⟩ | refine .inl ⟨⟨(((B.setCell (p := ⟨X, 0, none⟩) hX _).setCell (p := ⟨X, 1, none⟩) hX _).setCell (p := ⟨X, 2, none⟩) hX _), blk_other (X := X) (blk_other (X := X) (blk_other (X := X) SB hbX 0 _) hbX 1 _) hbX 2 _⟩, wpAnyH_done (by kernel_rfl) ?_ _⟩
                  have XF := ((XB.set 0 (.string nk)).set 1 (.string (idS av))).set 2 (.string (idS nv))
                  simp at XF
                  first | (go_meet; exact ⟨X, rfl, hX, XF, ((B.setCell (p := ⟨X, 0, none⟩) hX _).setCell (p := ⟨X, 1, none⟩) hX _).setCell (p := ⟨X, 2, none⟩) hX _⟩) | (go_wp2_with fail; go_meet; exact ⟨X, rfl, hX, XF, ((B.setCell (p := ⟨X, 0, none⟩) hX _).setCell (p := ⟨X, 1, none⟩) hX _).setCell (p := ⟨X, 2, none⟩) hX _⟩) | (simp only [Exit.then]; go_meet; exact ⟨X, rfl, hX, XF, ((B.setCell (p := ⟨X, 0, none⟩) hX _).setCell (p := ⟨X, 1, none⟩) hX _).setCell (p := ⟨X, 2, none⟩) hX _⟩)
        · unfold wpOp
          go_simp
          refine .inl ((KI _ _).mono ?_)
          rintro e wz10 ⟨rfl, h1⟩
          have B2 := below_step B h1
          replace B := B2
          refine ⟨B, ?_⟩
          try go_simp
          refine wpAnyH_all (rs := [0, 9, 11]) (by kernel_rfl) (by simp) ?_
          intro i hi
          simp only [List.mem_cons, List.not_mem_nil, or_false] at hi
          rcases hi with rfl | rfl | rfl
          · unfold wpOp
            go_simp
            have B2 := balloc B (.cells #[.string ⟨#[104, 101, 97, 100, 115, 47, 97]⟩, .string ⟨#[104, 101, 97, 100, 115, 47, 98]⟩, .string ⟨#[116, 97, 103, 115, 47, 99]⟩] 9)
            have SB2 := Blk.new wz10 #[.string ⟨#[104, 101, 97, 100, 115, 47, 97]⟩, .string ⟨#[104, 101, 97, 100, 115, 47, 98]⟩, .string ⟨#[116, 97, 103, 115, 47, 99]⟩] 9
            have hS0 := B.size
            first | refine .inl ⟨B2, ?_⟩ | refine ⟨B2, ?_⟩
            obtain ⟨b, hb⟩ : ∃ b, wz10.heap.size = b := ⟨_, rfl⟩
            rw [hb] at SB2
            obtain ⟨wz11, hw⟩ : ∃ u, wz10.alloc (.cells #[.string ⟨#[104, 101, 97, 100, 115, 47, 97]⟩, .string ⟨#[104, 101, 97, 100, 115, 47, 98]⟩, .string ⟨#[116, 97, 103, 115, 47, 99]⟩] 9) = u := ⟨_, rfl⟩
            rw [hw] at B2 SB2
            rw [hw]
            try rw [hb]
            refine wpAnyH_strong (S2 := fun w' => Below wr.heap.size wr w' ∧ Blk w' b #[.string ⟨#[104, 101, 97, 100, 115, 47, 97]⟩, .string ⟨#[104, 101, 97, 100, 115, 47, 98]⟩, .string ⟨#[116, 97, 103, 115, 47, 99]⟩] 9) (fun w h => h.1) _ _ _ _ ?_
            have B := B2
            have SB := SB2
            refine wpAnyH_take (i := 2) (v := .pointer (some ⟨b, kk, none⟩)) rfl (by kernel_rfl) (by kernel_rfl) (by kernel_rfl) (fun c a w h => h) (.inl ⟨by kernel_rfl, fun w' hS => ?_⟩) ?_ ?_
            · go_simp
            · exact ⟨B, SB⟩
            try go_simp
            refine wpAnyH_take (i := 3) (v := .string nk) rfl (by kernel_rfl) (by kernel_rfl) (by kernel_rfl) (fun c a w h => h) (.inl ⟨by kernel_rfl, fun w' hS => ?_⟩) ?_ ?_
            · have hc := (hS.2.cell kk).trans hnk; go_simp
            · exact ⟨B, SB⟩
            try go_simp
            refine wpAnyH_all (rs := [9, 11]) (by kernel_rfl) (by simp) ?_
            intro i hi
            simp only [List.mem_cons, List.not_mem_nil, or_false] at hi
            rcases hi with rfl | rfl
            · unfold wpOp
              go_simp
              refine .inl ((KI _ _).mono ?_)
              rintro e wz12 ⟨rfl, h1⟩
              have B2 := below_step B h1
              have SB2 := SB.below h1
              replace B := B2
              replace SB := SB2
              refine ⟨⟨B, SB⟩, ?_⟩
              try go_simp
              refine wpAnyH_take (i := 10) (v := .agg #[.string nk, .string (idS av), .string (idS nv)]) rfl (by kernel_rfl) (by kernel_rfl) (by kernel_rfl) (fun c a w h => h) (.inl ⟨by kernel_rfl, fun w' hS => ?_⟩) ?_ ?_
              · go_simp
              · exact ⟨B, SB⟩
              try go_simp
              refine wpAnyH_all (rs := [11]) (by kernel_rfl) (by simp) ?_
              intro i hi
              simp only [List.mem_cons, List.not_mem_nil, or_false] at hi
              subst hi
              · unfold wpOp
                go_simp
                have B2 := balloc B (.cells #[.string ⟨#[]⟩, .string ⟨#[]⟩, .string ⟨#[]⟩] 39)
                have XB2 := Blk.new wz12 #[.string ⟨#[]⟩, .string ⟨#[]⟩, .string ⟨#[]⟩] 39
                have hX := B.size
                have SB2 := SB.alloc (.cells #[.string ⟨#[]⟩, .string ⟨#[]⟩, .string ⟨#[]⟩] 39)
                first | refine .inl ⟨⟨B2, SB2⟩, ?_⟩ | refine ⟨⟨B2, SB2⟩, ?_⟩
                obtain ⟨X, hXe⟩ : ∃ b, wz12.heap.size = b := ⟨_, rfl⟩
                rw [hXe] at XB2 hX
                have hbX : b ≠ X := by have := SB.lt; omega
                obtain ⟨wz13, hw⟩ : ∃ u, wz12.alloc (.cells #[.string ⟨#[]⟩, .string ⟨#[]⟩, .string ⟨#[]⟩] 39) = u := ⟨_, rfl⟩
                rw [hw] at B2 XB2 SB2
                rw [hw]
                try rw [hXe]
                have B := B2
                have XB := XB2
                have SB := SB2
                refine wpAnyH_all (rs := [12]) (by kernel_rfl) (by simp) ?_
                intro i hi
                simp only [List.mem_cons, List.not_mem_nil, or_false] at hi
                subst hi
                · unfold wpOp
                  have y0 := XB.cell 0
                  have y1 := XB.cell 1
                  have y2 := XB.cell 2
                  have f0 := XB.frozen 0
                  have f1 := XB.frozen 1
                  have f2 := XB.frozen 2
                  simp at y0 y1 y2
                  go_simp
                  first | refine ⟨⟨(((B.setCell (p := ⟨X, 0, none⟩) hX _).setCell (p := ⟨X, 1, none⟩) hX _).setCell (p := ⟨X, 2, none⟩) hX _), blk_other (X := X) (blk_other (X := X) (blk_other (X := X) SB hbX 0 _) hbX 1 _) hbX 2 _⟩, wpAnyH_done (by kernel_rfl) ?_ _⟩ | refine .inl ⟨⟨(((B.setCell (p := ⟨X, 0, none⟩) hX _).setCell (p := ⟨X, 1, none⟩) hX _).setCell (p := ⟨X, 2, none⟩) hX _), blk_other (X := X) (blk_other (X := X) (blk_other (X := X) SB hbX 0 _) hbX 1 _) hbX 2 _⟩, wpAnyH_done (by kernel_rfl) ?_ _⟩
                  have XF := ((XB.set 0 (.string nk)).set 1 (.string (idS av))).set 2 (.string (idS nv))
                  simp at XF
                  first | (go_meet; exact ⟨X, rfl, hX, XF, ((B.setCell (p := ⟨X, 0, none⟩) hX _).setCell (p := ⟨X, 1, none⟩) hX _).setCell (p := ⟨X, 2, none⟩) hX _⟩) | (go_wp2_with fail; go_meet; exact ⟨X, rfl, hX, XF, ((B.setCell (p := ⟨X, 0, none⟩) hX _).setCell (p := ⟨X, 1, none⟩) hX _).setCell (p := ⟨X, 2, none⟩) hX _⟩) | (simp only [Exit.then]; go_meet; exact ⟨X, rfl, hX, XF, ((B.setCell (p := ⟨X, 0, none⟩) hX _).setCell (p := ⟨X, 1, none⟩) hX _).setCell (p := ⟨X, 2, none⟩) hX _⟩)
            · unfold wpOp
              go_simp
              have B2 := balloc B (.cells #[.string ⟨#[]⟩, .string ⟨#[]⟩, .string ⟨#[]⟩] 39)
              have XB2 := Blk.new wz11 #[.string ⟨#[]⟩, .string ⟨#[]⟩, .string ⟨#[]⟩] 39
              have hX := B.size
              have SB2 := SB.alloc (.cells #[.string ⟨#[]⟩, .string ⟨#[]⟩, .string ⟨#[]⟩] 39)
              first | refine .inl ⟨⟨B2, SB2⟩, ?_⟩ | refine ⟨⟨B2, SB2⟩, ?_⟩
              obtain ⟨X, hXe⟩ : ∃ b, wz11.heap.size = b := ⟨_, rfl⟩
              rw [hXe] at XB2 hX
              have hbX : b ≠ X := by have := SB.lt; omega
              obtain ⟨wz14, hw⟩ : ∃ u, wz11.alloc (.cells #[.string ⟨#[]⟩, .string ⟨#[]⟩, .string ⟨#[]⟩] 39) = u := ⟨_, rfl⟩
              rw [hw] at B2 XB2 SB2
              rw [hw]
              try rw [hXe]
              have B := B2
              have XB := XB2
              have SB := SB2
              refine wpAnyH_all (rs := [9]) (by kernel_rfl) (by simp) ?_
              intro i hi
              simp only [List.mem_cons, List.not_mem_nil, or_false] at hi
              subst hi
              · unfold wpOp
                go_simp
                refine .inl ((KI _ _).mono ?_)
                rintro e wz15 ⟨rfl, h1⟩
                have B2 := below_step B h1
                have SB2 := SB.below h1
                have XB2 := XB.below h1
                replace B := B2
                replace SB := SB2
                replace XB := XB2
                refine ⟨⟨B, SB⟩, ?_⟩
                try go_simp
                refine wpAnyH_take (i := 10) (v := .agg #[.string nk, .string (idS av), .string (idS nv)]) rfl (by kernel_rfl) (by kernel_rfl) (by kernel_rfl) (fun c a w h => h) (.inl ⟨by kernel_rfl, fun w' hS => ?_⟩) ?_ ?_
                · go_simp
                · exact ⟨B, SB⟩
                try go_simp
                refine wpAnyH_all (rs := [12]) (by kernel_rfl) (by simp) ?_
                intro i hi
                simp only [List.mem_cons, List.not_mem_nil, or_false] at hi
                subst hi
                · unfold wpOp
                  have y0 := XB.cell 0
                  have y1 := XB.cell 1
                  have y2 := XB.cell 2
                  have f0 := XB.frozen 0
                  have f1 := XB.frozen 1
                  have f2 := XB.frozen 2
                  simp at y0 y1 y2
                  go_simp
                  first | refine ⟨⟨(((B.setCell (p := ⟨X, 0, none⟩) hX _).setCell (p := ⟨X, 1, none⟩) hX _).setCell (p := ⟨X, 2, none⟩) hX _), blk_other (X := X) (blk_other (X := X) (blk_other (X := X) SB hbX 0 _) hbX 1 _) hbX 2 _⟩, wpAnyH_done (by kernel_rfl) ?_ _⟩ | refine .inl ⟨⟨(((B.setCell (p := ⟨X, 0, none⟩) hX _).setCell (p := ⟨X, 1, none⟩) hX _).setCell (p := ⟨X, 2, none⟩) hX _), blk_other (X := X) (blk_other (X := X) (blk_other (X := X) SB hbX 0 _) hbX 1 _) hbX 2 _⟩, wpAnyH_done (by kernel_rfl) ?_ _⟩
                  have XF := ((XB.set 0 (.string nk)).set 1 (.string (idS av))).set 2 (.string (idS nv))
                  simp at XF
                  first | (go_meet; exact ⟨X, rfl, hX, XF, ((B.setCell (p := ⟨X, 0, none⟩) hX _).setCell (p := ⟨X, 1, none⟩) hX _).setCell (p := ⟨X, 2, none⟩) hX _⟩) | (go_wp2_with fail; go_meet; exact ⟨X, rfl, hX, XF, ((B.setCell (p := ⟨X, 0, none⟩) hX _).setCell (p := ⟨X, 1, none⟩) hX _).setCell (p := ⟨X, 2, none⟩) hX _⟩) | (simp only [Exit.then]; go_meet; exact ⟨X, rfl, hX, XF, ((B.setCell (p := ⟨X, 0, none⟩) hX _).setCell (p := ⟨X, 1, none⟩) hX _).setCell (p := ⟨X, 2, none⟩) hX _⟩)
          · unfold wpOp
            go_simp
            refine .inl ((KI _ _).mono ?_)
            rintro e wz16 ⟨rfl, h1⟩
            have B2 := below_step B h1
            replace B := B2
            refine ⟨B, ?_⟩
            try go_simp
            refine wpAnyH_all (rs := [0, 11]) (by kernel_rfl) (by simp) ?_
            intro i hi
            simp only [List.mem_cons, List.not_mem_nil, or_false] at hi
            rcases hi with rfl | rfl
            · unfold wpOp
              go_simp
              have B2 := balloc B (.cells #[.string ⟨#[104, 101, 97, 100, 115, 47, 97]⟩, .string ⟨#[104, 101, 97, 100, 115, 47, 98]⟩, .string ⟨#[116, 97, 103, 115, 47, 99]⟩] 9)
              have SB2 := Blk.new wz16 #[.string ⟨#[104, 101, 97, 100, 115, 47, 97]⟩, .string ⟨#[104, 101, 97, 100, 115, 47, 98]⟩, .string ⟨#[116, 97, 103, 115, 47, 99]⟩] 9
              have hS0 := B.size
              first | refine .inl ⟨B2, ?_⟩ | refine ⟨B2, ?_⟩
              obtain ⟨b, hb⟩ : ∃ b, wz16.heap.size = b := ⟨_, rfl⟩
              rw [hb] at SB2
              obtain ⟨wz17, hw⟩ : ∃ u, wz16.alloc (.cells #[.string ⟨#[104, 101, 97, 100, 115, 47, 97]⟩, .string ⟨#[104, 101, 97, 100, 115, 47, 98]⟩, .string ⟨#[116, 97, 103, 115, 47, 99]⟩] 9) = u := ⟨_, rfl⟩
              rw [hw] at B2 SB2
              rw [hw]
              try rw [hb]
              refine wpAnyH_strong (S2 := fun w' => Below wr.heap.size wr w' ∧ Blk w' b #[.string ⟨#[104, 101, 97, 100, 115, 47, 97]⟩, .string ⟨#[104, 101, 97, 100, 115, 47, 98]⟩, .string ⟨#[116, 97, 103, 115, 47, 99]⟩] 9) (fun w h => h.1) _ _ _ _ ?_
              have B := B2
              have SB := SB2
              refine wpAnyH_take (i := 2) (v := .pointer (some ⟨b, kk, none⟩)) rfl (by kernel_rfl) (by kernel_rfl) (by kernel_rfl) (fun c a w h => h) (.inl ⟨by kernel_rfl, fun w' hS => ?_⟩) ?_ ?_
              · go_simp
              · exact ⟨B, SB⟩
              try go_simp
              refine wpAnyH_take (i := 3) (v := .string nk) rfl (by kernel_rfl) (by kernel_rfl) (by kernel_rfl) (fun c a w h => h) (.inl ⟨by kernel_rfl, fun w' hS => ?_⟩) ?_ ?_
              · have hc := (hS.2.cell kk).trans hnk; go_simp
              · exact ⟨B, SB⟩
              try go_simp
              refine wpAnyH_take (i := 10) (v := .agg #[.string nk, .string (idS av), .string (idS nv)]) rfl (by kernel_rfl) (by kernel_rfl) (by kernel_rfl) (fun c a w h => h) (.inl ⟨by kernel_rfl, fun w' hS => ?_⟩) ?_ ?_
              · go_simp
              · exact ⟨B, SB⟩
              try go_simp
              refine wpAnyH_all (rs := [11]) (by kernel_rfl) (by simp) ?_
              intro i hi
              simp only [List.mem_cons, List.not_mem_nil, or_false] at hi
              subst hi
              · unfold wpOp
                go_simp
                have B2 := balloc B (.cells #[.string ⟨#[]⟩, .string ⟨#[]⟩, .string ⟨#[]⟩] 39)
                have XB2 := Blk.new wz17 #[.string ⟨#[]⟩, .string ⟨#[]⟩, .string ⟨#[]⟩] 39
                have hX := B.size
                have SB2 := SB.alloc (.cells #[.string ⟨#[]⟩, .string ⟨#[]⟩, .string ⟨#[]⟩] 39)
                first | refine .inl ⟨⟨B2, SB2⟩, ?_⟩ | refine ⟨⟨B2, SB2⟩, ?_⟩
                obtain ⟨X, hXe⟩ : ∃ b, wz17.heap.size = b := ⟨_, rfl⟩
                rw [hXe] at XB2 hX
                have hbX : b ≠ X := by have := SB.lt; omega
                obtain ⟨wz18, hw⟩ : ∃ u, wz17.alloc (.cells #[.string ⟨#[]⟩, .string ⟨#[]⟩, .string ⟨#[]⟩] 39) = u := ⟨_, rfl⟩
                rw [hw] at B2 XB2 SB2
                rw [hw]
                try rw [hXe]
                have B := B2
                have XB := XB2
                have SB := SB2
                refine wpAnyH_all (rs := [12]) (by kernel_rfl) (by simp) ?_
                intro i hi
                simp only [List.mem_cons, List.not_mem_nil, or_false] at hi
                subst hi
                · unfold wpOp
                  have y0 := XB.cell 0
                  have y1 := XB.cell 1
                  have y2 := XB.cell 2
                  have f0 := XB.frozen 0
                  have f1 := XB.frozen 1
                  have f2 := XB.frozen 2
                  simp at y0 y1 y2
                  go_simp
                  first | refine ⟨⟨(((B.setCell (p := ⟨X, 0, none⟩) hX _).setCell (p := ⟨X, 1, none⟩) hX _).setCell (p := ⟨X, 2, none⟩) hX _), blk_other (X := X) (blk_other (X := X) (blk_other (X := X) SB hbX 0 _) hbX 1 _) hbX 2 _⟩, wpAnyH_done (by kernel_rfl) ?_ _⟩ | refine .inl ⟨⟨(((B.setCell (p := ⟨X, 0, none⟩) hX _).setCell (p := ⟨X, 1, none⟩) hX _).setCell (p := ⟨X, 2, none⟩) hX _), blk_other (X := X) (blk_other (X := X) (blk_other (X := X) SB hbX 0 _) hbX 1 _) hbX 2 _⟩, wpAnyH_done (by kernel_rfl) ?_ _⟩
                  have XF := ((XB.set 0 (.string nk)).set 1 (.string (idS av))).set 2 (.string (idS nv))
                  simp at XF
                  first | (go_meet; exact ⟨X, rfl, hX, XF, ((B.setCell (p := ⟨X, 0, none⟩) hX _).setCell (p := ⟨X, 1, none⟩) hX _).setCell (p := ⟨X, 2, none⟩) hX _⟩) | (go_wp2_with fail; go_meet; exact ⟨X, rfl, hX, XF, ((B.setCell (p := ⟨X, 0, none⟩) hX _).setCell (p := ⟨X, 1, none⟩) hX _).setCell (p := ⟨X, 2, none⟩) hX _⟩) | (simp only [Exit.then]; go_meet; exact ⟨X, rfl, hX, XF, ((B.setCell (p := ⟨X, 0, none⟩) hX _).setCell (p := ⟨X, 1, none⟩) hX _).setCell (p := ⟨X, 2, none⟩) hX _⟩)
            · unfold wpOp
              go_simp
              have B2 := balloc B (.cells #[.string ⟨#[]⟩, .string ⟨#[]⟩, .string ⟨#[]⟩] 39)
              have XB2 := Blk.new wz16 #[.string ⟨#[]⟩, .string ⟨#[]⟩, .string ⟨#[]⟩] 39
              have hX := B.size
              first | refine .inl ⟨B2, ?_⟩ | refine ⟨B2, ?_⟩
              obtain ⟨X, hXe⟩ : ∃ b, wz16.heap.size = b := ⟨_, rfl⟩
              rw [hXe] at XB2 hX
              obtain ⟨wz19, hw⟩ : ∃ u, wz16.alloc (.cells #[.string ⟨#[]⟩, .string ⟨#[]⟩, .string ⟨#[]⟩] 39) = u := ⟨_, rfl⟩
              rw [hw] at B2 XB2
              rw [hw]
              try rw [hXe]
              have B := B2
              have XB := XB2
              refine wpAnyH_all (rs := [0]) (by kernel_rfl) (by simp) ?_
              intro i hi
              simp only [List.mem_cons, List.not_mem_nil, or_false] at hi
              subst hi
              · unfold wpOp
                go_simp
                have B2 := balloc B (.cells #[.string ⟨#[104, 101, 97, 100, 115, 47, 97]⟩, .string ⟨#[104, 101, 97, 100, 115, 47, 98]⟩, .string ⟨#[116, 97, 103, 115, 47, 99]⟩] 9)
                have SB2 := Blk.new wz19 #[.string ⟨#[104, 101, 97, 100, 115, 47, 97]⟩, .string ⟨#[104, 101, 97, 100, 115, 47, 98]⟩, .string ⟨#[116, 97, 103, 115, 47, 99]⟩] 9
                have hS0 := B.size
                have XB2 := XB.alloc (.cells #[.string ⟨#[104, 101, 97, 100, 115, 47, 97]⟩, .string ⟨#[104, 101, 97, 100, 115, 47, 98]⟩, .string ⟨#[116, 97, 103, 115, 47, 99]⟩] 9)
                first | refine .inl ⟨B2, ?_⟩ | refine ⟨B2, ?_⟩
                obtain ⟨b, hb⟩ : ∃ b, wz19.heap.size = b := ⟨_, rfl⟩
                rw [hb] at SB2
                have hbX : b ≠ X := by have := XB.lt; omega
                obtain ⟨wz20, hw⟩ : ∃ u, wz19.alloc (.cells #[.string ⟨#[104, 101, 97, 100, 115, 47, 97]⟩, .string ⟨#[104, 101, 97, 100, 115, 47, 98]⟩, .string ⟨#[116, 97, 103, 115, 47, 99]⟩] 9) = u := ⟨_, rfl⟩
                rw [hw] at B2 SB2 XB2
                rw [hw]
                try rw [hb]
                refine wpAnyH_strong (S2 := fun w' => Below wr.heap.size wr w' ∧ Blk w' b #[.string ⟨#[104, 101, 97, 100, 115, 47, 97]⟩, .string ⟨#[104, 101, 97, 100, 115, 47, 98]⟩, .string ⟨#[116, 97, 103, 115, 47, 99]⟩] 9) (fun w h => h.1) _ _ _ _ ?_
                have B := B2
                have SB := SB2
                have XB := XB2
                refine wpAnyH_take (i := 2) (v := .pointer (some ⟨b, kk, none⟩)) rfl (by kernel_rfl) (by kernel_rfl) (by kernel_rfl) (fun c a w h => h) (.inl ⟨by kernel_rfl, fun w' hS => ?_⟩) ?_ ?_
                · go_simp
                · exact ⟨B, SB⟩
                try go_simp
                refine wpAnyH_take (i := 3) (v := .string nk) rfl (by kernel_rfl) (by kernel_rfl) (by kernel_rfl) (fun c a w h => h) (.inl ⟨by kernel_rfl, fun w' hS => ?_⟩) ?_ ?_
                · have hc := (hS.2.cell kk).trans hnk; go_simp
                · exact ⟨B, SB⟩
                try go_simp
                refine wpAnyH_take (i := 10) (v := .agg #[.string nk, .string (idS av), .string (idS nv)]) rfl (by kernel_rfl) (by kernel_rfl) (by kernel_rfl) (fun c a w h => h) (.inl ⟨by kernel_rfl, fun w' hS => ?_⟩) ?_ ?_
                · go_simp
                · exact ⟨B, SB⟩
                try go_simp
                refine wpAnyH_all (rs := [12]) (by kernel_rfl) (by simp) ?_
                intro i hi
                simp only [List.mem_cons, List.not_mem_nil, or_false] at hi
                subst hi
                · unfold wpOp
                  have y0 := XB.cell 0
                  have y1 := XB.cell 1
                  have y2 := XB.cell 2
                  have f0 := XB.frozen 0
                  have f1 := XB.frozen 1
                  have f2 := XB.frozen 2
                  simp at y0 y1 y2
                  go_simp
                  first | refine ⟨⟨(((B.setCell (p := ⟨X, 0, none⟩) hX _).setCell (p := ⟨X, 1, none⟩) hX _).setCell (p := ⟨X, 2, none⟩) hX _), blk_other (X := X) (blk_other (X := X) (blk_other (X := X) SB hbX 0 _) hbX 1 _) hbX 2 _⟩, wpAnyH_done (by kernel_rfl) ?_ _⟩ | refine .inl ⟨⟨(((B.setCell (p := ⟨X, 0, none⟩) hX _).setCell (p := ⟨X, 1, none⟩) hX _).setCell (p := ⟨X, 2, none⟩) hX _), blk_other (X := X) (blk_other (X := X) (blk_other (X := X) SB hbX 0 _) hbX 1 _) hbX 2 _⟩, wpAnyH_done (by kernel_rfl) ?_ _⟩
                  have XF := ((XB.set 0 (.string nk)).set 1 (.string (idS av))).set 2 (.string (idS nv))
                  simp at XF
                  first | (go_meet; exact ⟨X, rfl, hX, XF, ((B.setCell (p := ⟨X, 0, none⟩) hX _).setCell (p := ⟨X, 1, none⟩) hX _).setCell (p := ⟨X, 2, none⟩) hX _⟩) | (go_wp2_with fail; go_meet; exact ⟨X, rfl, hX, XF, ((B.setCell (p := ⟨X, 0, none⟩) hX _).setCell (p := ⟨X, 1, none⟩) hX _).setCell (p := ⟨X, 2, none⟩) hX _⟩) | (simp only [Exit.then]; go_meet; exact ⟨X, rfl, hX, XF, ((B.setCell (p := ⟨X, 0, none⟩) hX _).setCell (p := ⟨X, 1, none⟩) hX _).setCell (p := ⟨X, 2, none⟩) hX _⟩)
          · unfold wpOp
            go_simp
            have B2 := balloc B (.cells #[.string ⟨#[]⟩, .string ⟨#[]⟩, .string ⟨#[]⟩] 39)
            have XB2 := Blk.new wz10 #[.string ⟨#[]⟩, .string ⟨#[]⟩, .string ⟨#[]⟩] 39
            have hX := B.size
            first | refine .inl ⟨B2, ?_⟩ | refine ⟨B2, ?_⟩
            obtain ⟨X, hXe⟩ : ∃ b, wz10.heap.size = b := ⟨_, rfl⟩
            rw [hXe] at XB2 hX
            obtain ⟨wz21, hw⟩ : ∃ u, wz10.alloc (.cells #[.string ⟨#[]⟩, .string ⟨#[]⟩, .string ⟨#[]⟩] 39) = u := ⟨_, rfl⟩
            rw [hw] at B2 XB2
            rw [hw]
            try rw [hXe]
            have B := B2
            have XB := XB2
            refine wpAnyH_all (rs := [0, 9]) (by kernel_rfl) (by simp) ?_
            intro i hi
            simp only [List.mem_cons, List.not_mem_nil, or_false] at hi
            rcases hi with rfl | rfl
            · unfold wpOp
              go_simp
              have B2 := balloc B (.cells #[.string ⟨#[104, 101, 97, 100, 115, 47, 97]⟩, .string ⟨#[104, 101, 97, 100, 115, 47, 98]⟩, .string ⟨#[116, 97, 103, 115, 47, 99]⟩] 9)
              have SB2 := Blk.new wz21 #[.string ⟨#[104, 101, 97, 100, 115, 47, 97]⟩, .string ⟨#[104, 101, 97, 100, 115, 47, 98]⟩, .string ⟨#[116, 97, 103, 115, 47, 99]⟩] 9
              have hS0 := B.size
              have XB2 := XB.alloc (.cells #[.string ⟨#[104, 101, 97, 100, 115, 47, 97]⟩, .string ⟨#[104, 101, 97, 100, 115, 47, 98]⟩, .string ⟨#[116, 97, 103, 115, 47, 99]⟩] 9)
              first | refine .inl ⟨B2, ?_⟩ | refine ⟨B2, ?_⟩
              obtain ⟨b, hb⟩ : ∃ b, wz21.heap.size = b := ⟨_, rfl⟩
              rw [hb] at SB2
              have hbX : b ≠ X := by have := XB.lt; omega
              obtain ⟨wz22, hw⟩ : ∃ u, wz21.alloc (.cells #[.string ⟨#[104, 101, 97, 100, 115, 47, 97]⟩, .string ⟨#[104, 101, 97, 100, 115, 47, 98]⟩, .string ⟨#[116, 97, 103, 115, 47, 99]⟩] 9) = u := ⟨_, rfl⟩
              rw [hw] at B2 SB2 XB2
              rw [hw]
              try rw [hb]
              refine wpAnyH_strong (S2 := fun w' => Below wr.heap.size wr w' ∧ Blk w' b #[.string ⟨#[104, 101, 97, 100, 115, 47, 97]⟩, .string ⟨#[104, 101, 97, 100, 115, 47, 98]⟩, .string ⟨#[116, 97, 103, 115, 47, 99]⟩] 9) (fun w h => h.1) _ _ _ _ ?_
              have B := B2
              have SB := SB2
              have XB := XB2
              refine wpAnyH_take (i := 2) (v := .pointer (some ⟨b, kk, none⟩)) rfl (by kernel_rfl) (by kernel_rfl) (by kernel_rfl) (fun c a w h => h) (.inl ⟨by kernel_rfl, fun w' hS => ?_⟩) ?_ ?_
              · go_simp
              · exact ⟨B, SB⟩
              try go_simp
              refine wpAnyH_take (i := 3) (v := .string nk) rfl (by kernel_rfl) (by kernel_rfl) (by kernel_rfl) (fun c a w h => h) (.inl ⟨by kernel_rfl, fun w' hS => ?_⟩) ?_ ?_
              · have hc := (hS.2.cell kk).trans hnk; go_simp
              · exact ⟨B, SB⟩
              try go_simp
              refine wpAnyH_all (rs := [9]) (by kernel_rfl) (by simp) ?_
              intro i hi
              simp only [List.mem_cons, List.not_mem_nil, or_false] at hi
              subst hi
              · unfold wpOp
                go_simp
                refine .inl ((KI _ _).mono ?_)
                rintro e wz23 ⟨rfl, h1⟩
                have B2 := below_step B h1
                have SB2 := SB.below h1
                have XB2 := XB.below h1
                replace B := B2
                replace SB := SB2
                replace XB := XB2
                refine ⟨⟨B, SB⟩, ?_⟩
                try go_simp
                refine wpAnyH_take (i := 10) (v := .agg #[.string nk, .string (idS av), .string (idS nv)]) rfl (by kernel_rfl) (by kernel_rfl) (by kernel_rfl) (fun c a w h => h) (.inl ⟨by kernel_rfl, fun w' hS => ?_⟩) ?_ ?_
                · go_simp
                · exact ⟨B, SB⟩
                try go_simp
                refine wpAnyH_all (rs := [12]) (by kernel_rfl) (by simp) ?_
                intro i hi
                simp only [List.mem_cons, List.not_mem_nil, or_false] at hi
                subst hi
                · unfold wpOp
                  have y0 := XB.cell 0
                  have y1 := XB.cell 1
                  have y2 := XB.cell 2
                  have f0 := XB.frozen 0
                  have f1 := XB.frozen 1
                  have f2 := XB.frozen 2
                  simp at y0 y1 y2
                  go_simp
                  first | refine ⟨⟨(((B.setCell (p := ⟨X, 0, none⟩) hX _).setCell (p := ⟨X, 1, none⟩) hX _).setCell (p := ⟨X, 2, none⟩) hX _), blk_other (X := X) (blk_other (X := X) (blk_other (X := X) SB hbX 0 _) hbX 1 _) hbX 2 _⟩, wpAnyH_done (by kernel_rfl) ?_ _⟩ | refine .inl ⟨⟨(((B.setCell (p := ⟨X, 0, none⟩) hX _).setCell (p := ⟨X, 1, none⟩) hX _).setCell (p := ⟨X, 2, none⟩) hX _), blk_other (X := X) (blk_other (X := X) (blk_other (X := X) SB hbX 0 _) hbX 1 _) hbX 2 _⟩, wpAnyH_done (by kernel_rfl) ?_ _⟩
                  have XF := ((XB.set 0 (.string nk)).set 1 (.string (idS av))).set 2 (.string (idS nv))
                  simp at XF
                  first | (go_meet; exact ⟨X, rfl, hX, XF, ((B.setCell (p := ⟨X, 0, none⟩) hX _).setCell (p := ⟨X, 1, none⟩) hX _).setCell (p := ⟨X, 2, none⟩) hX _⟩) | (go_wp2_with fail; go_meet; exact ⟨X, rfl, hX, XF, ((B.setCell (p := ⟨X, 0, none⟩) hX _).setCell (p := ⟨X, 1, none⟩) hX _).setCell (p := ⟨X, 2, none⟩) hX _⟩) | (simp only [Exit.then]; go_meet; exact ⟨X, rfl, hX, XF, ((B.setCell (p := ⟨X, 0, none⟩) hX _).setCell (p := ⟨X, 1, none⟩) hX _).setCell (p := ⟨X, 2, none⟩) hX _⟩)
            · unfold wpOp
              go_simp
              refine .inl ((KI _ _).mono ?_)
              rintro e wz24 ⟨rfl, h1⟩
              have B2 := below_step B h1
              have XB2 := XB.below h1
              replace B := B2
              replace XB := XB2
              refine ⟨B, ?_⟩
              try go_simp
              refine wpAnyH_all (rs := [0]) (by kernel_rfl) (by simp) ?_
              intro i hi
              simp only [List.mem_cons, List.not_mem_nil, or_false] at hi
              subst hi
              · unfold wpOp
                go_simp
                have B2 := balloc B (.cells #[.string ⟨#[104, 101, 97, 100, 115, 47, 97]⟩, .string ⟨#[104, 101, 97, 100, 115, 47, 98]⟩, .string ⟨#[116, 97, 103, 115, 47, 99]⟩] 9)
                have SB2 := Blk.new wz24 #[.string ⟨#[104, 101, 97, 100, 115, 47, 97]⟩, .string ⟨#[104, 101, 97, 100, 115, 47, 98]⟩, .string ⟨#[116, 97, 103, 115, 47, 99]⟩] 9
                have hS0 := B.size
                have XB2 := XB.alloc (.cells #[.string ⟨#[104, 101, 97, 100, 115, 47, 97]⟩, .string ⟨#[104, 101, 97, 100, 115, 47, 98]⟩, .string ⟨#[116, 97, 103, 115, 47, 99]⟩] 9)
                first | refine .inl ⟨B2, ?_⟩ | refine ⟨B2, ?_⟩
                obtain ⟨b, hb⟩ : ∃ b, wz24.heap.size = b := ⟨_, rfl⟩
                rw [hb] at SB2
                have hbX : b ≠ X := by have := XB.lt; omega
                obtain ⟨wz25, hw⟩ : ∃ u, wz24.alloc (.cells #[.string ⟨#[104, 101, 97, 100, 115, 47, 97]⟩, .string ⟨#[104, 101, 97, 100, 115, 47, 98]⟩, .string ⟨#[116, 97, 103, 115, 47, 99]⟩] 9) = u := ⟨_, rfl⟩
                rw [hw] at B2 SB2 XB2
                rw [hw]
                try rw [hb]
                refine wpAnyH_strong (S2 := fun w' => Below wr.heap.size wr w' ∧ Blk w' b #[.string ⟨#[104, 101, 97, 100, 115, 47, 97]⟩, .string ⟨#[104, 101, 97, 100, 115, 47, 98]⟩, .string ⟨#[116, 97, 103, 115, 47, 99]⟩] 9) (fun w h => h.1) _ _ _ _ ?_
                have B := B2
                have SB := SB2
                have XB := XB2
                refine wpAnyH_take (i := 2) (v := .pointer (some ⟨b, kk, none⟩)) rfl (by kernel_rfl) (by kernel_rfl) (by kernel_rfl) (fun c a w h => h) (.inl ⟨by kernel_rfl, fun w' hS => ?_⟩) ?_ ?_
                · go_simp
                · exact ⟨B, SB⟩
                try go_simp
                refine wpAnyH_take (i := 3) (v := .string nk) rfl (by kernel_rfl) (by kernel_rfl) (by kernel_rfl) (fun c a w h => h) (.inl ⟨by kernel_rfl, fun w' hS => ?_⟩) ?_ ?_
                · have hc := (hS.2.cell kk).trans hnk; go_simp
                · exact ⟨B, SB⟩
                try go_simp
                refine wpAnyH_take (i := 10) (v := .agg #[.string nk, .string (idS av), .string (idS nv)]) rfl (by kernel_rfl) (by kernel_rfl) (by kernel_rfl) (fun c a w h => h) (.inl ⟨by kernel_rfl, fun w' hS => ?_⟩) ?_ ?_
                · go_simp
                · exact ⟨B, SB⟩
                try go_simp
                refine wpAnyH_all (rs := [12]) (by kernel_rfl) (by simp) ?_
                intro i hi
                simp only [List.mem_cons, List.not_mem_nil, or_false] at hi
                subst hi
                · unfold wpOp
                  have y0 := XB.cell 0
                  have y1 := XB.cell 1
                  have y2 := XB.cell 2
                  have f0 := XB.frozen 0
                  have f1 := XB.frozen 1
                  have f2 := XB.frozen 2
                  simp at y0 y1 y2
                  go_simp
                  first | refine ⟨⟨(((B.setCell (p := ⟨X, 0, none⟩) hX _).setCell (p := ⟨X, 1, none⟩) hX _).setCell (p := ⟨X, 2, none⟩) hX _), blk_other (X := X) (blk_other (X := X) (blk_other (X := X) SB hbX 0 _) hbX 1 _) hbX 2 _⟩, wpAnyH_done (by kernel_rfl) ?_ _⟩ | refine .inl ⟨⟨(((B.setCell (p := ⟨X, 0, none⟩) hX _).setCell (p := ⟨X, 1, none⟩) hX _).setCell (p := ⟨X, 2, none⟩) hX _), blk_other (X := X) (blk_other (X := X) (blk_other (X := X) SB hbX 0 _) hbX 1 _) hbX 2 _⟩, wpAnyH_done (by kernel_rfl) ?_ _⟩
                  have XF := ((XB.set 0 (.string nk)).set 1 (.string (idS av))).set 2 (.string (idS nv))
                  simp at XF
                  first | (go_meet; exact ⟨X, rfl, hX, XF, ((B.setCell (p := ⟨X, 0, none⟩) hX _).setCell (p := ⟨X, 1, none⟩) hX _).setCell (p := ⟨X, 2, none⟩) hX _⟩) | (go_wp2_with fail; go_meet; exact ⟨X, rfl, hX, XF, ((B.setCell (p := ⟨X, 0, none⟩) hX _).setCell (p := ⟨X, 1, none⟩) hX _).setCell (p := ⟨X, 2, none⟩) hX _⟩) | (simp only [Exit.then]; go_meet; exact ⟨X, rfl, hX, XF, ((B.setCell (p := ⟨X, 0, none⟩) hX _).setCell (p := ⟨X, 1, none⟩) hX _).setCell (p := ⟨X, 2, none⟩) hX _⟩)
        · unfold wpOp
          go_simp
          have B2 := balloc B (.cells #[.string ⟨#[]⟩, .string ⟨#[]⟩, .string ⟨#[]⟩] 39)
          have XB2 := Blk.new w0 #[.string ⟨#[]⟩, .string ⟨#[]⟩, .string ⟨#[]⟩] 39
          have hX := B.size
          first | refine .inl ⟨B2, ?_⟩ | refine ⟨B2, ?_⟩
          obtain ⟨X, hXe⟩ : ∃ b, w0.heap.size = b := ⟨_, rfl⟩
          rw [hXe] at XB2 hX
          obtain ⟨wz26, hw⟩ : ∃ u, w0.alloc (.cells #[.string ⟨#[]⟩, .string ⟨#[]⟩, .string ⟨#[]⟩] 39) = u := ⟨_, rfl⟩
          rw [hw] at B2 XB2
          rw [hw]
          try rw [hXe]
          have B := B2
          have XB := XB2
          refine wpAnyH_all (rs := [0, 7]) (by kernel_rfl) (by simp) ?_
          intro i hi
          simp only [List.mem_cons, List.not_mem_nil, or_false] at hi
          rcases hi with rfl | rfl
          · unfold wpOp
            go_simp
            have B2 := balloc B (.cells #[.string ⟨#[104, 101, 97, 100, 115, 47, 97]⟩, .string ⟨#[104, 101, 97, 100, 115, 47, 98]⟩, .string ⟨#[116, 97, 103, 115, 47, 99]⟩] 9)
            have SB2 := Blk.new wz26 #[.string ⟨#[104, 101, 97, 100, 115, 47, 97]⟩, .string ⟨#[104, 101, 97, 100, 115, 47, 98]⟩, .string ⟨#[116, 97, 103, 115, 47, 99]⟩] 9
            have hS0 := B.size
            have XB2 := XB.alloc (.cells #[.string ⟨#[104, 101, 97, 100, 115, 47, 97]⟩, .string ⟨#[104, 101, 97, 100, 115, 47, 98]⟩, .string ⟨#[116, 97, 103, 115, 47, 99]⟩] 9)
            first | refine .inl ⟨B2, ?_⟩ | refine ⟨B2, ?_⟩
            obtain ⟨b, hb⟩ : ∃ b, wz26.heap.size = b := ⟨_, rfl⟩
            rw [hb] at SB2
            have hbX : b ≠ X := by have := XB.lt; omega
            obtain ⟨wz27, hw⟩ : ∃ u, wz26.alloc (.cells #[.string ⟨#[104, 101, 97, 100, 115, 47, 97]⟩, .string ⟨#[104, 101, 97, 100, 115, 47, 98]⟩, .string ⟨#[116, 97, 103, 115, 47, 99]⟩] 9) = u := ⟨_, rfl⟩
            rw [hw] at B2 SB2 XB2
            rw [hw]
            try rw [hb]
            refine wpAnyH_strong (S2 := fun w' => Below wr.heap.size wr w' ∧ Blk w' b #[.string ⟨#[104, 101, 97, 100, 115, 47, 97]⟩, .string ⟨#[104, 101, 97, 100, 115, 47, 98]⟩, .string ⟨#[116, 97, 103, 115, 47, 99]⟩] 9) (fun w h => h.1) _ _ _ _ ?_
            have B := B2
            have SB := SB2
            have XB := XB2
            refine wpAnyH_take (i := 2) (v := .pointer (some ⟨b, kk, none⟩)) rfl (by kernel_rfl) (by kernel_rfl) (by kernel_rfl) (fun c a w h => h) (.inl ⟨by kernel_rfl, fun w' hS => ?_⟩) ?_ ?_
            · go_simp
            · exact ⟨B, SB⟩
            try go_simp
            refine wpAnyH_take (i := 3) (v := .string nk) rfl (by kernel_rfl) (by kernel_rfl) (by kernel_rfl) (fun c a w h => h) (.inl ⟨by kernel_rfl, fun w' hS => ?_⟩) ?_ ?_
            · have hc := (hS.2.cell kk).trans hnk; go_simp
            · exact ⟨B, SB⟩
            try go_simp
            refine wpAnyH_all (rs := [7]) (by kernel_rfl) (by simp) ?_
            intro i hi
            simp only [List.mem_cons, List.not_mem_nil, or_false] at hi
            subst hi
            · unfold wpOp
              go_simp
              refine .inl ((KI _ _).mono ?_)
              rintro e wz28 ⟨rfl, h1⟩
              have B2 := below_step B h1
              have SB2 := SB.below h1
              have XB2 := XB.below h1
              replace B := B2
              replace SB := SB2
              replace XB := XB2
              refine ⟨⟨B, SB⟩, ?_⟩
              try go_simp
              refine wpAnyH_all (rs := [9]) (by kernel_rfl) (by simp) ?_
              intro i hi
              simp only [List.mem_cons, List.not_mem_nil, or_false] at hi
              subst hi
              · unfold wpOp
                go_simp
                refine .inl ((KI _ _).mono ?_)
                rintro e wz29 ⟨rfl, h1⟩
                have B2 := below_step B h1
                have SB2 := SB.below h1
                have XB2 := XB.below h1
                replace B := B2
                replace SB := SB2
                replace XB := XB2
                refine ⟨⟨B, SB⟩, ?_⟩
                try go_simp
                refine wpAnyH_take (i := 10) (v := .agg #[.string nk, .string (idS av), .string (idS nv)]) rfl (by kernel_rfl) (by kernel_rfl) (by kernel_rfl) (fun c a w h => h) (.inl ⟨by kernel_rfl, fun w' hS => ?_⟩) ?_ ?_
                · go_simp
                · exact ⟨B, SB⟩
                try go_simp
                refine wpAnyH_all (rs := [12]) (by kernel_rfl) (by simp) ?_
                intro i hi
                simp only [List.mem_cons, List.not_mem_nil, or_false] at hi
                subst hi
                · unfold wpOp
                  have y0 := XB.cell 0
                  have y1 := XB.cell 1
                  have y2 := XB.cell 2
                  have f0 := XB.frozen 0
                  have f1 := XB.frozen 1
                  have f2 := XB.frozen 2
                  simp at y0 y1 y2
                  go_simp
                  first | refine ⟨⟨(((B.setCell (p := ⟨X, 0, none⟩) hX _).setCell (p := ⟨X, 1, none⟩) hX _).setCell (p := ⟨X, 2, none⟩) hX _), blk_other (X := X) (blk_other (X := X) (blk_other (X := X) SB hbX 0 _) hbX 1 _) hbX 2 _⟩, wpAnyH_done (by kernel_rfl) ?_ _⟩ | refine .inl ⟨⟨(((B.setCell (p := ⟨X, 0, none⟩) hX _).setCell (p := ⟨X, 1, none⟩) hX _).setCell (p := ⟨X, 2, none⟩) hX _), blk_other (X := X) (blk_other (X := X) (blk_other (X := X) SB hbX 0 _) hbX 1 _) hbX 2 _⟩, wpAnyH_done (by kernel_rfl) ?_ _⟩
                  have XF := ((XB.set 0 (.string nk)).set 1 (.string (idS av))).set 2 (.string (idS nv))
                  simp at XF
                  first | (go_meet; exact ⟨X, rfl, hX, XF, ((B.setCell (p := ⟨X, 0, none⟩) hX _).setCell (p := ⟨X, 1, none⟩) hX _).setCell (p := ⟨X, 2, none⟩) hX _⟩) | (go_wp2_with fail; go_meet; exact ⟨X, rfl, hX, XF, ((B.setCell (p := ⟨X, 0, none⟩) hX _).setCell (p := ⟨X, 1, none⟩) hX _).setCell (p := ⟨X, 2, none⟩) hX _⟩) | (simp only [Exit.then]; go_meet; exact ⟨X, rfl, hX, XF, ((B.setCell (p := ⟨X, 0, none⟩) hX _).setCell (p := ⟨X, 1, none⟩) hX _).setCell (p := ⟨X, 2, none⟩) hX _⟩)
          · unfold wpOp
            go_simp
            refine .inl ((KI _ _).mono ?_)
            rintro e wz30 ⟨rfl, h1⟩
            have B2 := below_step B h1
            have XB2 := XB.below h1
            replace B := B2
            replace XB := XB2
            refine ⟨B, ?_⟩
            try go_simp
            refine wpAnyH_all (rs := [0, 9]) (by kernel_rfl) (by simp) ?_
            intro i hi
            simp only [List.mem_cons, List.not_mem_nil, or_false] at hi
            rcases hi with rfl | rfl
            · unfold wpOp
              go_simp
              have B2 := balloc B (.cells #[.string ⟨#[104, 101, 97, 100, 115, 47, 97]⟩, .string ⟨#[104, 101, 97, 100, 115, 47, 98]⟩, .string ⟨#[116, 97, 103, 115, 47, 99]⟩] 9)
              have SB2 := Blk.new wz30 #[.string ⟨#[104, 101, 97, 100, 115, 47, 97]⟩, .string ⟨#[104, 101, 97, 100, 115, 47, 98]⟩, .string ⟨#[116, 97, 103, 115, 47, 99]⟩] 9
              have hS0 := B.size
              have XB2 := XB.alloc (.cells #[.string ⟨#[104, 101, 97, 100, 115, 47, 97]⟩, .string ⟨#[104, 101, 97, 100, 115, 47, 98]⟩, .string ⟨#[116, 97, 103, 115, 47, 99]⟩] 9)
              first | refine .inl ⟨B2, ?_⟩ | refine ⟨B2, ?_⟩
              obtain ⟨b, hb⟩ : ∃ b, wz30.heap.size = b := ⟨_, rfl⟩
              rw [hb] at SB2
              have hbX : b ≠ X := by have := XB.lt; omega
              obtain ⟨wz31, hw⟩ : ∃ u, wz30.alloc (.cells #[.string ⟨#[104, 101, 97, 100, 115, 47, 97]⟩, .string ⟨#[104, 101, 97, 100, 115, 47, 98]⟩, .string ⟨#[116, 97, 103, 115, 47, 99]⟩] 9) = u := ⟨_, rfl⟩
              rw [hw] at B2 SB2 XB2
              rw [hw]
              try rw [hb]
              refine wpAnyH_strong (S2 := fun w' => Below wr.heap.size wr w' ∧ Blk w' b #[.string ⟨#[104, 101, 97, 100, 115, 47, 97]⟩, .string ⟨#[104, 101, 97, 100, 115, 47, 98]⟩, .string ⟨#[116, 97, 103, 115, 47, 99]⟩] 9) (fun w h => h.1) _ _ _ _ ?_
              have B := B2
              have SB := SB2
              have XB := XB2
              refine wpAnyH_take (i := 2) (v := .pointer (some ⟨b, kk, none⟩)) rfl (by kernel_rfl) (by kernel_rfl) (by kernel_rfl) (fun c a w h => h) (.inl ⟨by kernel_rfl, fun w' hS => ?_⟩) ?_ ?_
              · go_simp
              · exact ⟨B, SB⟩
              try go_simp
              refine wpAnyH_take (i := 3) (v := .string nk) rfl (by kernel_rfl) (by kernel_rfl) (by kernel_rfl) (fun c a w h => h) (.inl ⟨by kernel_rfl, fun w' hS => ?_⟩) ?_ ?_
              · have hc := (hS.2.cell kk).trans hnk; go_simp
              · exact ⟨B, SB⟩
              try go_simp
              refine wpAnyH_all (rs := [9]) (by kernel_rfl) (by simp) ?_
              intro i hi
              simp only [List.mem_cons, List.not_mem_nil, or_false] at hi
              subst hi
              · unfold wpOp
                go_simp
                refine .inl ((KI _ _).mono ?_)
                rintro e wz32 ⟨rfl, h1⟩
                have B2 := below_step B h1
                have SB2 := SB.below h1
                have XB2 := XB.below h1
                replace B := B2
                replace SB := SB2
                replace XB := XB2
                refine ⟨⟨B, SB⟩, ?_⟩
                try go_simp
                refine wpAnyH_take (i := 10) (v := .agg #[.string nk, .string (idS av), .string (idS nv)]) rfl (by kernel_rfl) (by kernel_rfl) (by kernel_rfl) (fun c a w h => h) (.inl ⟨by kernel_rfl, fun w' hS => ?_⟩) ?_ ?_
                · go_simp
                · exact ⟨B, SB⟩
                try go_simp
                refine wpAnyH_all (rs := [12]) (by kernel_rfl) (by simp) ?_
                intro i hi
                simp only [List.mem_cons, List.not_mem_nil, or_false] at hi
                subst hi
                · unfold wpOp
                  have y0 := XB.cell 0
                  have y1 := XB.cell 1
                  have y2 := XB.cell 2
                  have f0 := XB.frozen 0
                  have f1 := XB.frozen 1
                  have f2 := XB.frozen 2
                  simp at y0 y1 y2
                  go_simp
                  first | refine ⟨⟨(((B.setCell (p := ⟨X, 0, none⟩) hX _).setCell (p := ⟨X, 1, none⟩) hX _).setCell (p := ⟨X, 2, none⟩) hX _), blk_other (X := X) (blk_other (X := X) (blk_other (X := X) SB hbX 0 _) hbX 1 _) hbX 2 _⟩, wpAnyH_done (by kernel_rfl) ?_ _⟩ | refine .inl ⟨⟨(((B.setCell (p := ⟨X, 0, none⟩) hX _).setCell (p := ⟨X, 1, none⟩) hX _).setCell (p := ⟨X, 2, none⟩) hX _), blk_other (X := X) (blk_other (X := X) (blk_other (X := X) SB hbX 0 _) hbX 1 _) hbX 2 _⟩, wpAnyH_done (by kernel_rfl) ?_ _⟩
                  have XF := ((XB.set 0 (.string nk)).set 1 (.string (idS av))).set 2 (.string (idS nv))
                  simp at XF
                  first | (go_meet; exact ⟨X, rfl, hX, XF, ((B.setCell (p := ⟨X, 0, none⟩) hX _).setCell (p := ⟨X, 1, none⟩) hX _).setCell (p := ⟨X, 2, none⟩) hX _⟩) | (go_wp2_with fail; go_meet; exact ⟨X, rfl, hX, XF, ((B.setCell (p := ⟨X, 0, none⟩) hX _).setCell (p := ⟨X, 1, none⟩) hX _).setCell (p := ⟨X, 2, none⟩) hX _⟩) | (simp only [Exit.then]; go_meet; exact ⟨X, rfl, hX, XF, ((B.setCell (p := ⟨X, 0, none⟩) hX _).setCell (p := ⟨X, 1, none⟩) hX _).setCell (p := ⟨X, 2, none⟩) hX _⟩)
            · unfold wpOp
              go_simp
              refine .inl ((KI _ _).mono ?_)
              rintro e wz33 ⟨rfl, h1⟩
              have B2 := below_step B h1
              have XB2 := XB.below h1
              replace B := B2
              replace XB := XB2
              refine ⟨B, ?_⟩
              try go_simp
              refine wpAnyH_all (rs := [0]) (by kernel_rfl) (by simp) ?_
              intro i hi
              simp only [List.mem_cons, List.not_mem_nil, or_false] at hi
              subst hi
              · unfold wpOp
                go_simp
                have B2 := balloc B (.cells #[.string ⟨#[104, 101, 97, 100, 115, 47, 97]⟩, .string ⟨#[104, 101, 97, 100, 115, 47, 98]⟩, .string ⟨#[116, 97, 103, 115, 47, 99]⟩] 9)
                have SB2 := Blk.new wz33 #[.string ⟨#[104, 101, 97, 100, 115, 47, 97]⟩, .string ⟨#[104, 101, 97, 100, 115, 47, 98]⟩, .string ⟨#[116, 97, 103, 115, 47, 99]⟩] 9
                have hS0 := B.size
                have XB2 := XB.alloc (.cells #[.string ⟨#[104, 101, 97, 100, 115, 47, 97]⟩, .string ⟨#[104, 101, 97, 100, 115, 47, 98]⟩, .string ⟨#[116, 97, 103, 115, 47, 99]⟩] 9)
                first | refine .inl ⟨B2, ?_⟩ | refine ⟨B2, ?_⟩
                obtain ⟨b, hb⟩ : ∃ b, wz33.heap.size = b := ⟨_, rfl⟩
                rw [hb] at SB2
                have hbX : b ≠ X := by have := XB.lt; omega
                obtain ⟨wz34, hw⟩ : ∃ u, wz33.alloc (.cells #[.string ⟨#[104, 101, 97, 100, 115, 47, 97]⟩, .string ⟨#[104, 101, 97, 100, 115, 47, 98]⟩, .string ⟨#[116, 97, 103, 115, 47, 99]⟩] 9) = u := ⟨_, rfl⟩
                rw [hw] at B2 SB2 XB2
                rw [hw]
                try rw [hb]
                refine wpAnyH_strong (S2 := fun w' => Below wr.heap.size wr w' ∧ Blk w' b #[.string ⟨#[104, 101, 97, 100, 115, 47, 97]⟩, .string ⟨#[104, 101, 97, 100, 115, 47, 98]⟩, .string ⟨#[116, 97, 103, 115, 47, 99]⟩] 9) (fun w h => h.1) _ _ _ _ ?_
                have B := B2
                have SB := SB2
                have XB := XB2
                refine wpAnyH_take (i := 2) (v := .pointer (some ⟨b, kk, none⟩)) rfl (by kernel_rfl) (by kernel_rfl) (by kernel_rfl) (fun c a w h => h) (.inl ⟨by kernel_rfl, fun w' hS => ?_⟩) ?_ ?_
                · go_simp
                · exact ⟨B, SB⟩
                try go_simp
                refine wpAnyH_take (i := 3) (v := .string nk) rfl (by kernel_rfl) (by kernel_rfl) (by kernel_rfl) (fun c a w h => h) (.inl ⟨by kernel_rfl, fun w' hS => ?_⟩) ?_ ?_
                · have hc := (hS.2.cell kk).trans hnk; go_simp
                · exact ⟨B, SB⟩
                try go_simp
                refine wpAnyH_take (i := 10) (v := .agg #[.string nk, .string (idS av), .string (idS nv)]) rfl (by kernel_rfl) (by kernel_rfl) (by kernel_rfl) (fun c a w h => h) (.inl ⟨by kernel_rfl, fun w' hS => ?_⟩) ?_ ?_
                · go_simp
                · exact ⟨B, SB⟩
                try go_simp
                refine wpAnyH_all (rs := [12]) (by kernel_rfl) (by simp) ?_
                intro i hi
                simp only [List.mem_cons, List.not_mem_nil, or_false] at hi
                subst hi
                · unfold wpOp
                  have y0 := XB.cell 0
                  have y1 := XB.cell 1
                  have y2 := XB.cell 2
                  have f0 := XB.frozen 0
                  have f1 := XB.frozen 1
                  have f2 := XB.frozen 2
                  simp at y0 y1 y2
                  go_simp
                  first | refine ⟨⟨(((B.setCell (p := ⟨X, 0, none⟩) hX _).setCell (p := ⟨X, 1, none⟩) hX _).setCell (p := ⟨X, 2, none⟩) hX _), blk_other (X := X) (blk_other (X := X) (blk_other (X := X) SB hbX 0 _) hbX 1 _) hbX 2 _⟩, wpAnyH_done (by kernel_rfl) ?_ _⟩ | refine .inl ⟨⟨(((B.setCell (p := ⟨X, 0, none⟩) hX _).setCell (p := ⟨X, 1, none⟩) hX _).setCell (p := ⟨X, 2, none⟩) hX _), blk_other (X := X) (blk_other (X := X) (blk_other (X := X) SB hbX 0 _) hbX 1 _) hbX 2 _⟩, wpAnyH_done (by kernel_rfl) ?_ _⟩
                  have XF := ((XB.set 0 (.string nk)).set 1 (.string (idS av))).set 2 (.string (idS nv))
                  simp at XF
                  first | (go_meet; exact ⟨X, rfl, hX, XF, ((B.setCell (p := ⟨X, 0, none⟩) hX _).setCell (p := ⟨X, 1, none⟩) hX _).setCell (p := ⟨X, 2, none⟩) hX _⟩) | (go_wp2_with fail; go_meet; exact ⟨X, rfl, hX, XF, ((B.setCell (p := ⟨X, 0, none⟩) hX _).setCell (p := ⟨X, 1, none⟩) hX _).setCell (p := ⟨X, 2, none⟩) hX _⟩) | (simp only [Exit.then]; go_meet; exact ⟨X, rfl, hX, XF, ((B.setCell (p := ⟨X, 0, none⟩) hX _).setCell (p := ⟨X, 1, none⟩) hX _).setCell (p := ⟨X, 2, none⟩) hX _⟩)
      case rest =>
        rename World => wx
        obtain ⟨X, rfl, hXle, hX, hbx⟩ := hcut
        obtain ⟨hY, hTA, hBt, hD, hap, hb⟩ := HST.out
        have hYx := hY.below hbx
        have hTx := hTA.below hbx
        have hBx := hBt.below hbx
        have hDx := own_below hD hbx
        have hbb := below_step hb hbx
        have hat := (hBx.cell kk).trans (atC_get a kk hkk3)
        rw [HAV.out] at hat
        have hatf := hBx.frozen kk
        have y0 := hX.cell 0
        have y1 := hX.cell 1
        have y2 := hX.cell 2
        have f2 := hX.frozen 2
        simp at y0 y1 y2
        clear GC hbt0 hnk KI
        obtain ⟨u0, u1, u2'⟩ : X ≠ Y ∧ X ≠ Y + 1 ∧ True := ⟨by have := hY.lt; omega, by have := hBt.lt; omega, trivial⟩
        have hav : a kk = av := HAV.out
        have hidn : ∀ z, idS z = mk (idB z) := fun z => by rw [HidS.out]
        rcases Decidable.em (av = nv) with hne | hne
        all_goals first
        | (have hq2 : (av == nv) = true := by rw [hne]; exact beq_self_eq_true nv
           have HStep := Lib.hid (HI.out.step kk hkk3 0 (by omega) (by omega) (by rw [hav]; omega))
           have hXf := hX.set 2 (.string ⟨#[]⟩)
           simp at hXf
           have hbf := hbx.setCell (p := ⟨X, 2, none⟩) hXle (.string ⟨#[]⟩)
           have hat' := atC_set a 0 kk hkk3
           obtain ⟨a', ha'⟩ : ∃ a', updA a kk 0 = a' := ⟨_, rfl⟩
           obtain ⟨u, hu⟩ : ∃ u : Upd, (⟨nmB kk, idB (a kk), idB 0⟩ : Upd) = u := ⟨_, rfl⟩
           rw [ha', hu] at HStep
           rw [ha'] at hat'
           have hun : u.name.length ≤ 2000000 := by rw [← hu]; have : ∀ z, z < 3 → (nmB z).length ≤ 2000000 := (fun z hz => by have := nm_good z hz; rcases z with _ | _ | _ | z <;> first | decide | omega); exact this kk hkk3
           have huc : (#[.string nk, .string (idS av), .string ⟨#[]⟩] : Array Value).toList = ucells [u] := by rw [← hu, hidn, ← hav, ← HNK.out]; rfl
           clear ha' hu hXle hX hidn hav
           go_upto_region 15 with fail
           obtain ⟨W2, hW2⟩ : ∃ u, wx.setCell ⟨X, 2, none⟩ (.string ⟨#[]⟩) = u := ⟨_, rfl⟩
           rw [hW2] at hXf hbf
           simp only [hW2]
           clear hW2 hne hq2)
        | (have hq2 : (av == nv) = false := beq_eq_false_iff_ne.2 hne
           have HStep := Lib.hid (HI.out.step kk hkk3 nv (by omega) (by omega) (by rw [hav]; exact hne))
           have hXf := hX
           have hbf := hbx
           have hat' := atC_set a nv kk hkk3
           obtain ⟨a', ha'⟩ : ∃ a', updA a kk nv = a' := ⟨_, rfl⟩
           obtain ⟨u, hu⟩ : ∃ u : Upd, (⟨nmB kk, idB (a kk), idB nv⟩ : Upd) = u := ⟨_, rfl⟩
           rw [ha', hu] at HStep
           rw [ha'] at hat'
           have hun : u.name.length ≤ 2000000 := by rw [← hu]; have : ∀ z, z < 3 → (nmB z).length ≤ 2000000 := (fun z hz => by have := nm_good z hz; rcases z with _ | _ | _ | z <;> first | decide | omega); exact this kk hkk3
           have huc : (#[.string nk, .string (idS av), .string (idS nv)] : Array Value).toList = ucells [u] := by rw [← hu, hidn, hidn, ← hav, ← HNK.out]; rfl
           clear ha' hu hXle hX hidn hav
           go_upto_region 15 with fail
           obtain ⟨W2, hW2⟩ : ∃ u, wx = u := ⟨_, rfl⟩
           rw [hW2] at hXf hbf
           simp only [hW2]
           clear hW2 hne hq2)
        all_goals
          clear hat hatf y0 y1 y2 f2 hYx hTx hBx hDx hbb hbx
          have hY2 := hY.below hbf
          have hT2 := hTA.below hbf
          have hB2 := hBt.below hbf
          have hD2 := own_below hD hbf
          have hb2 := below_step hb hbf
          have HX2 := Lib.hid hXf
          have y0 := hY2.cell 0
          have y1 := hY2.cell 1
          have y2 := hY2.cell 2
          have x0 := hXf.cell 0
          have x1 := hXf.cell 1
          have x2 := hXf.cell 2
          simp at y0 y1 y2 x0 x1 x2
          have hrl : t.refs.length ≤ 900000 := by have := HI.out.rlen; omega
          have hll : t.log.length ≤ 900000 := by have h1 := HI.out.wlen; have h2 := congrArg List.length HI.out.log; unfold cutL at h2; rw [List.length_drop] at h2; omega
          have KA := apply_blk hXf huc hT2 HI.out.sorted hrl hll hun (GA.out _ hb2).1 HStep.out.1
          have hD2l : ∀ b, (Value.slice D k d).ownBlock = some b → b < W2.heap.size := fun b e => (hD2.lt b e).2
          have GY := Lib.hid (blk_bundle hXf hY2 hB2 hD2 hb2)
          have HUC := Lib.hid huc
          clear hXf huc
          go_upto_region 16 with (go_at_call 13; refine KA.mono ?_; rintro e w5 ⟨P, nR, pc, hP, PB, nL, pb, rfl, ht5, hfr, hb5⟩; have q0 := (GY.out _ hb5).1.cell 0; have q1 := (GY.out _ hb5).1.cell 1; have q2 := (GY.out _ hb5).1.cell 2; have g0 := (GY.out _ hb5).1.frozen 0; have g1 := (GY.out _ hb5).1.frozen 1; have g2 := (GY.out _ hb5).1.frozen 2; simp at q0 q1 q2)
          obtain ⟨hYa, hBa, hXa, hDa, hba⟩ := GY.out _ hb5
          have h6Y := ((hYa.set 0 (.slice P nR pc)).set 1 (.string hP)).set 2 (.slice PB nL pb)
          simp at h6Y
          have h6T := tbl_set (tbl_set (tbl_set ht5 hYa (by decide) (by decide) 0 (.slice P nR pc)) (hYa.set 0 _) (by decide) (by decide) 1 (.string hP)) ((hYa.set 0 _).set 1 _) (by decide) (by decide) 2 (.slice PB nL pb)
          have h6B := blk_other (X := Y) (blk_other (X := Y) (blk_other (X := Y) hBa (by omega) 0 (.slice P nR pc)) (by omega) 1 (.string hP)) (by omega) 2 (.slice PB nL pb)
          have h6X := blk_other (blk_other (blk_other hXa u0 0 (.slice P nR pc)) u0 1 (.string hP)) u0 2 (.slice PB nL pb)
          have h6D := own_set3 hDa hYa (by decide) (.slice P nR pc) (.string hP) (.slice PB nL pb)
          have h6b := ((hba.setCell (p := ⟨Y, 0, none⟩) hWs (.slice P nR pc)).setCell (p := ⟨Y, 1, none⟩) hWs (.string hP)).setCell (p := ⟨Y, 2, none⟩) hWs (.slice PB nL pb)
          have h6ap : ∀ b : Addr, PB = some b → (Value.slice D k d).ownBlock ≠ some b.block := fun b hb e => by
            have h1 := hfr b hb
            have h2 := hD2l _ e
            omega
          obtain ⟨w6, hw6⟩ : ∃ u, ((w5.setCell ⟨Y, 0, none⟩ (.slice P nR pc)).setCell ⟨Y, 1, none⟩ (.string hP)).setCell ⟨Y, 2, none⟩ (.slice PB nL pb) = u := ⟨_, rfl⟩
          rw [hw6] at h6Y h6T h6B h6X h6D h6b
          simp only [hw6]
          clear hw6 hYa hBa hXa hDa hba KA GY q0 q1 q2 g0 g1 g2 ht5 hfr hb5 hY2 hT2 hB2 hD2 hb2 y0 y1 y2 x0 x1 x2
          have at6 := (h6B.cell kk).trans (atC_get a kk hkk3)
          have at6f := h6B.frozen kk
          obtain ⟨h7B, h7Y, h7X, h7T, h7D, h7b⟩ := log_seven hat' h6B h6Y h6X u1 h6T h6D h6b hWs
          have x0 := h7X.cell 0
          have x1 := h7X.cell 1
          have x2 := h7X.cell 2
          simp at x0 x1 x2
          go_upto_region 19 with fail
          clear at6 at6f h6Y h6T h6B h6X h6D h6b
          go_wp2_with (at_builtin; (first | refine wpList_append_lies _ rfl (.tmp 77) (.tmp 79) 29 rfl w.heap.size 39 iu _ 3 48 Tryd.underlying29 hiu hu0 hu1 hu2 rfl (by decide) (.slice D k d) k _ rfl (h7D.alloc _) ⟨_, 0, none⟩ 1 1 [.string nk, .string (idS av), .string ⟨#[]⟩] rfl rfl (World.news_of_block (cs := #[.string nk, .string (idS av), .string ⟨#[]⟩]) (heap_new _ _ _ (by simp))) (by simp [Value.oneCell']) (by omega) (by simp only [maxLen]; omega) (by omega) (balloc h7b _).size _ rfl ?_ | refine wpList_append_lies _ rfl (.tmp 77) (.tmp 79) 29 rfl w.heap.size 39 iu _ 3 48 Tryd.underlying29 hiu hu0 hu1 hu2 rfl (by decide) (.slice D k d) k _ rfl (h7D.alloc _) ⟨_, 0, none⟩ 1 1 [.string nk, .string (idS av), .string (idS nv)] rfl rfl (World.news_of_block (cs := #[.string nk, .string (idS av), .string (idS nv)]) (heap_new _ _ _ (by simp))) (by simp [Value.oneCell']) (by omega) (by simp only [maxLen]; omega) (by omega) (balloc h7b _).size _ rfl ?_); intro ga capa wa howna hgra hata _)
          obtain ⟨hba, hYn, hBn, hTn, hapn⟩ := log_nine (capa := capa) hgra h7Y h7B h7T h7D h7b h6ap (hata.imp id fun e => by simpa using e)
          clear hgra hata h7Y h7B h7T h7D h7b h7X
          go_roundw
          case rel => exact ⟨k + 1, t.res [u] [], a', W ++ [u], P, nR, pc, hP, PB, nL, pb, some ⟨ga, 0, none⟩, capa, by omega, by omega, by go_num, rfl, hYn, hTn, hBn, HStep.out.2, by rw [ucells_app, ← HUC.out]; exact howna, hapn, hba⟩
          case measure => first | (simp [intOf]; done) | (simp [intOf]; omega)
    · obtain ⟨P0, c0, B0, cb0, eq0, _, _, _, hLT, _, _⟩ := id hTA
      simp only [Value.agg.injEq, Array.mk.injEq, List.cons.injEq, Value.slice.injEq, Value.string.injEq, and_true] at eq0
      obtain ⟨e3, e4, e1, e2, e5⟩ := eq0
      clear e3 e4 e5
      have hcl := hI.log
      rw [← e1, hcl] at hLT
      obtain ⟨L, hL⟩ : ∃ L, cutL W = L := ⟨_, rfl⟩
      have hnB : nB = L.length := by rw [e2, hcl, hL]
      rw [hL] at hLT
      subst hnB
      have hDL := Lies.of_row hD
      have hDc := row_cap hD
      have hwl := hI.wlen
      have HI := Lib.hid hI
      have HTA := Lib.hid hTA
      have HY := Lib.hid hY
      have y2 := hY.cell 2
      simp at y2
      clear e1 e2 hcl hm1 hIn hBt hap hD hI hTA
      have hcase : (k = 400 ∧ k < n) ∨ k = n := by omega
      have h256 : 256 < k ∨ k ≤ 256 := by omega
      have hk0 : (k : Int) ≤ 400 := by omega
      rcases h256 with hc2 | hc2
      · obtain ⟨D5, K5, d5, hsl, hK5, hL5⟩ : ∃ (D5 : Option Addr) (K5 d5 : Nat), (∀ w, (Instr.slice 29 (.slice D k d) (some (.int .i64 ((k : Int) - 256))) none none).run Tryd.prog w = .ok (.slice D5 K5 d5) w) ∧ K5 = L.length ∧ Lies wr D5 (ucells L) := by
          refine ⟨if d = k - 256 then D else D.map (·.add ((k - 256) * 3)), k - (k - 256), d - (k - 256), fun w => ?_, ?_, ?_⟩
          · have := cut_log D k d (k - 256) w (by omega)
            rw [show ((k - 256 : Nat) : Int) = (k : Int) - 256 by omega] at this
            exact this
          · rw [← hL]; unfold cutL; rw [List.length_drop, hwl]
          · rw [← hL]; unfold cutL; rw [hwl]; exact Lies.cut hDL (by rw [hwl]; exact hDc) (by rw [hwl]; omega)
        subst hK5
        have hc3 : (256 : Int) < (k : Int) := by omega
        clear hDL hDc hwl
        have hcase2 : ((400 : Int) ≤ (k : Int) ∧ (k : Int) < (n : Int)) ∨ (n : Int) ≤ (k : Int) := by omega
        clear hcase
        rcases hcase2 with ⟨h4, h1⟩ | h1
        all_goals
          go_upto_region 22 with fail
          have hLl : L.length ≤ 256 := by rw [← hL]; unfold cutL; rw [List.length_drop]; omega
          obtain ⟨N, hN⟩ : ∃ N, L.length = N := ⟨_, rfl⟩
          have HTA' := HTA.out
          have HY' := HY.out
          rw [hN] at y2 hLl HTA' HY'
          simp only [hN]
          have HN := Lib.hid hN
          have GL := Lib.hid (show ∀ w', Below wr.heap.size wr w' → Lies w' D5 (ucells L) ∧ Lies w' TB (ucells L) ∧ w'.cell? ⟨Y, 0, none⟩ = some (.slice T nT ct) ∧ w'.cell? ⟨Y, 1, none⟩ = some (.string hT) ∧ w'.cell? ⟨Y, 2, none⟩ = some (.slice TB N cb) from fun w' h' =>
            ⟨hL5.below (Nat.le_refl _) h', hLT.below (Nat.le_refl _) h', (HY'.below h').cell 0, (HY'.below h').cell 1, (HY'.below h').cell 2⟩)
          have HT2 := Lib.hid HTA'
          have HKn := HI.out.known
          rw [hL] at HKn
          have hrl : t.refs.length ≤ 100000 := by have := HI.out.rlen; omega
          have hll : t.log.length ≤ 100000 := by rw [HI.out.log, hL, hN]; omega
          have hKb := known_len t.ids
          rw [ids_len] at hKb
          obtain ⟨K, hK⟩ : ∃ K, knownL t.ids = K := ⟨_, rfl⟩
          rw [hK] at hKb
          have hKb2 : K.length ≤ 1000000 := by omega
          have KK : ∀ w', Below wr.heap.size wr w' → Calls Tryd.prog 20 #[.agg #[.slice T nT ct, .string hT, .slice TB N cb]] w' fun e w'' => ∃ A6 c6, e = .returned (.slice A6 K.length c6) ∧ Strs w'' A6 K ∧ Below w'.heap.size w' w'' := fun w' h' => by
            have := known_any t _ w' (HTA'.below h') hrl hll
            rw [hK] at this
            exact this
          rw [hK] at HKn
          have QKn := Lib.hid HKn
          have QKK := Lib.hid KK
          have hbw := hb
          clear hKb hN hK hL hL5 hLT HTA' HY' HTA HY HI KK HKn hrl hll hb
          go_wp2
          go_loopw [11] (fun i w' => ∃ j : Nat, j ≤ N ∧ i = .int .i64 j ∧ Below wr.heap.size wr w') (fun i _ => N - (intOf i).toNat)
          case atStart => exact ⟨0, Nat.zero_le _, rfl, Below.refl _ _⟩
          case round =>
            rename World => w2
            obtain ⟨j, hj, rfl, hbj⟩ := hrel
            obtain ⟨l1, l2, z0, z1, z2⟩ := GL.out _ hbj
            by_cases hjn : j < N
            · have hjL : j < L.length := by rw [HN.out]; exact hjn
              obtain ⟨g1, o1, rfl, a0, a1, a2⟩ := lies_at l1 j hjL
              obtain ⟨g2, o2, rfl, b0, b1, b2⟩ := lies_at l2 j hjL
              obtain ⟨rA, hrA⟩ : ∃ a, mk L[j].name = a := ⟨_, rfl⟩
              obtain ⟨rB, hrB⟩ : ∃ a, mk L[j].old = a := ⟨_, rfl⟩
              obtain ⟨rC, hrC⟩ : ∃ a, mk L[j].new = a := ⟨_, rfl⟩
              rw [hrA] at a0 b0
              rw [hrB] at a1 b1
              rw [hrC] at a2 b2
              have hsame := upd_same rA rB rC
              have hguard := eq_guard39
              have j0 : (0 : Int) ≤ (j : Int) := by omega
              have j1 : (j : Int) < (N : Int) := by omega
              clear hrA hrB hrC l1 l2 y2
              go_wp2_with fail
              go_quiet (skip)
              go_wp2
              go_roundw
              case rel => exact ⟨j + 1, by omega, by go_num, hbj.trans (⟨rfl, rfl, rfl, Nat.le_refl _, fun _ _ => rfl⟩)⟩
              case measure => first | (simp [intOf]; done) | (simp [intOf]; omega)
            · obtain rfl : j = N := by omega
              have K20 := QKK.out _ hbj
              clear l1 l2 y2
              go_upto_region 30 with (go_at_call 20; refine K20.mono ?_; rintro e w9 ⟨A6, c6, rfl, hS6, hb9⟩)
              have hS9 := hS6
              have GK := Lib.hid (show ∀ w', Below w9.heap.size w9 w' → Strs w' A6 K ∧ Lies w' D5 (ucells L) from fun w' h' => ⟨hS6.below h', (GL.out _ (below_step (below_step hbj hb9) h')).1⟩)
              have hfin : Below w.heap.size w w9 := below_step (below_step hbw hbj) hb9
              obtain ⟨NK, hNK⟩ : ∃ z, K.length = z := ⟨_, rfl⟩
              simp only [hNK]
              have HNK := Lib.hid hNK
              rw [hNK] at hKb2
              clear hNK hS6 hS9 K20 hb9 z0 z1 z2 hbj
              go_wp2
              go_loopw [13] (fun i w' => ∃ p : Nat, p ≤ NK ∧ i = .int .i64 p ∧ Below w9.heap.size w9 w') (fun i _ => NK - (intOf i).toNat)
              case atStart => exact ⟨0, Nat.zero_le _, rfl, Below.refl _ _⟩
              case round =>
                rename World => w3
                obtain ⟨p, hp, rfl, hbp⟩ := hrel
                obtain ⟨sA, _⟩ := GK.out _ hbp
                by_cases hpn : p < NK
                · have hpK : p < K.length := by rw [HNK.out]; exact hpn
                  obtain ⟨g6, rfl, _, hc6⟩ := sA (by omega)
                  have s0 := hc6 p hpK
                  have hz32 : (mk K[p]).size = 32 := by rw [mk_size]; exact QKn.out.2.1 _ (List.getElem_mem hpK)
                  have p0 : (0 : Int) ≤ (p : Int) := by omega
                  have p1 : (p : Int) < (NK : Int) := by omega
                  cases p with
                  | zero =>
                    obtain ⟨zz, hzz⟩ : ∃ z, mk K[0] = z := ⟨_, rfl⟩
                    rw [hzz] at s0 hz32
                    clear hzz hc6 sA
                    go_wp2_with fail
                    go_quiet (skip)
                    go_wp2
                    go_roundw
                    case rel => exact ⟨1, by omega, by go_num, hbp.trans (⟨rfl, rfl, rfl, Nat.le_refl _, fun _ _ => rfl⟩)⟩
                    case measure => first | (simp [intOf]; done) | (simp [intOf]; omega)
                  | succ q =>
                    have s1 := hc6 q (by omega)
                    have hlt := List.pairwise_iff_getElem.1 QKn.out.1 q (q + 1) (by omega) hpK (by omega)
                    have hle1 : Op.bytesLess (mk K[q + 1]).toList (mk K[q]).toList = false := by
                      rw [mk_toList', mk_toList', Go.Proofs.bytesLess_eq]
                      exact decide_eq_false (fun h => List.lt_irrefl _ (List.lt_trans hlt h))
                    have hle2 : ((mk K[q + 1]).toList == (mk K[q]).toList) = false := by
                      rw [mk_toList', mk_toList']
                      exact beq_eq_false_iff_ne.2 (fun e => by rw [e] at hlt; exact List.lt_irrefl _ hlt)
                    have hq1 : ((q + 1 : Nat) : Int) - 1 = (q : Int) := by omega
                    have hq0 : (0 : Int) ≤ (q : Int) := by omega
                    have hqn : (q : Int) < (NK : Int) := by omega
                    have hq2 : (0 : Int) < ((q + 1 : Nat) : Int) := by omega
                    have hq3 : ((q + 1 : Nat) : Int) ≤ 9223372036854775807 := by omega
                    have hwr1 : IntKind.i64.wrap (q : Int) = (q : Int) := by have h := hKb2; simp [IntKind.wrap, IntKind.bits, IntKind.signed]; omega
                    obtain ⟨zz, hzz⟩ : ∃ z, mk K[q + 1] = z := ⟨_, rfl⟩
                    obtain ⟨zy, hzy⟩ : ∃ z, mk K[q] = z := ⟨_, rfl⟩
                    rw [hzz] at s0 hz32 hle1 hle2
                    rw [hzy] at s1 hle1 hle2
                    obtain ⟨pp, hpp⟩ : ∃ z : Nat, q + 1 = z := ⟨_, rfl⟩
                    rw [hpp] at s0 hq1 hq2 hq3 p0 p1
                    simp only [hpp]
                    have hpp2 := Lib.hid hpp
                    have hleq : ∀ w, (binOp .leq 9 (.string zz) (.string zy)).run Tryd.prog w = .ok (.bool false) w := fun w => by rw [binOp_string_leq, hle1, hle2]; rfl
                    have hppn : 0 < pp := by omega
                    clear hzz hzy hc6 sA hlt hpp
                    go_wp2_with fail
                    go_quiet (skip)
                    go_wp2
                    go_roundw
                    case rel => exact ⟨pp + 1, by have := hpp2.out; omega, by go_num, hbp.trans (⟨rfl, rfl, rfl, Nat.le_refl _, fun _ _ => rfl⟩)⟩
                    case measure => have := hpp2.out; first | (simp [intOf]; done) | (simp [intOf]; omega)
                · obtain rfl : p = NK := by omega
                  clear sA
                  go_wp2
                  go_loopw [14] (fun i w' => ∃ p : Nat, p ≤ j ∧ i = .int .i64 p ∧ Below w9.heap.size w9 w') (fun i _ => j - (intOf i).toNat)
                  case atStart => exact ⟨0, Nat.zero_le _, rfl, hbp⟩
                  case round =>
                    clear hbp
                    rename World => w4
                    obtain ⟨i, hi, rfl, hbi⟩ := hrel
                    obtain ⟨sA, sL⟩ := GK.out _ hbi
                    by_cases hin : i < j
                    · have hiL : i < L.length := by rw [HN.out]; exact hin
                      obtain ⟨g5, o5, rfl, _, d1, d2⟩ := lies_at sL i hiL
                      obtain ⟨hM1, hM2⟩ := QKn.out.2.2 L[i] (List.getElem_mem hiL)
                      obtain ⟨uo, huo⟩ : ∃ z, L[i].old = z := ⟨_, rfl⟩
                      obtain ⟨un, hun⟩ : ∃ z, L[i].new = z := ⟨_, rfl⟩
                      rw [huo] at d1 hM1
                      rw [hun] at d2 hM2
                      have ho : ((mk uo).toList == []) = (uo == []) := mk_eq_nil uo
                      have hn2 : ((mk un).toList == []) = (un == []) := mk_eq_nil un
                      obtain ⟨zo, hzo⟩ : ∃ z, mk uo = z := ⟨_, rfl⟩
                      obtain ⟨zn, hzn⟩ : ∃ z, mk un = z := ⟨_, rfl⟩
                      obtain ⟨ba, hba⟩ : ∃ z, (uo == []) = z := ⟨_, rfl⟩
                      obtain ⟨bb, hbb⟩ : ∃ z, (un == []) = z := ⟨_, rfl⟩
                      rw [hzo, hba] at ho
                      rw [hzn, hbb] at hn2
                      rw [hzo] at d1
                      rw [hzn] at d2
                      have HUo := Lib.hid huo
                      have HUn := Lib.hid hun
                      have HM1 := Lib.hid hM1
                      have HM2 := Lib.hid hM2
                      have HBa := Lib.hid hba
                      have HBb := Lib.hid hbb
                      have HZo := Lib.hid hzo
                      have HZn := Lib.hid hzn
                      have i0 : (0 : Int) ≤ (i : Int) := by omega
                      have i1 : (i : Int) < (j : Int) := by omega
                      clear huo hun hM1 hM2 hba hbb hzo hzn sA sL
                      go_wp2_with fail
                      go_quiet (skip)
                      have hbi' : Below w9.heap.size w9 (w4.drewN nq) := hbi.trans (⟨rfl, rfl, rfl, Nat.le_refl _, fun _ _ => rfl⟩)
                      clear ho hn2 d1 d2
                      obtain ⟨w5, hw5⟩ : ∃ u, w4.drewN nq = u := ⟨_, rfl⟩
                      rw [hw5] at hbi'
                      simp only [hw5]
                      clear hw5 hbi
                      go_wp2
                      go_loopw [15, 16, 17] (fun va vb q w' => ∃ r : Nat, r ≤ p ∧ q = .int .i64 r ∧ va = .bool (ba || (K.take r).any (fun z => z == uo)) ∧ vb = .bool (bb || (K.take r).any (fun z => z == un)) ∧ Below w9.heap.size w9 w') (fun _ _ q _ => p - (intOf q).toNat)
                      case atStart => exact ⟨0, Nat.zero_le _, rfl, by simp, by simp, hbi'⟩
                      case round =>
                        clear hbi'
                        rename World => w6
                        obtain ⟨r, hr, rfl, rfl, rfl, hbr⟩ := hrel
                        obtain ⟨sA, sL⟩ := GK.out _ hbr
                        by_cases hrn : r < p
                        · have hrK : r < K.length := by rw [HNK.out]; exact hrn
                          obtain ⟨g6, rfl, _, hc6⟩ := sA (by omega)
                          have s0 := hc6 r hrK
                          obtain ⟨g7, o7, e7, _, d1, d2⟩ := lies_at sL i hiL
                          simp only [Option.some.injEq, Addr.mk.injEq, and_true] at e7
                          obtain ⟨e8, e9⟩ := e7
                          subst e8
                          subst e9
                          rw [HUo.out, HZo.out] at d1
                          rw [HUn.out, HZn.out] at d2
                          have hc1 : ((mk K[r]).toList == zo.toList) = (K[r] == uo) := by rw [← HZo.out, mk_toList', mk_toList']
                          have hc2 : ((mk K[r]).toList == zn.toList) = (K[r] == un) := by rw [← HZn.out, mk_toList', mk_toList']
                          have hN1 : (ba || (K.take (r + 1)).any (fun z => z == uo)) = ((ba || (K.take r).any (fun z => z == uo)) || (K[r] == uo)) := by
                            rw [List.take_succ_eq_append_getElem hrK, List.any_append, ← Bool.or_assoc]; simp
                          have hN2 : (bb || (K.take (r + 1)).any (fun z => z == un)) = ((bb || (K.take r).any (fun z => z == un)) || (K[r] == un)) := by
                            rw [List.take_succ_eq_append_getElem hrK, List.any_append, ← Bool.or_assoc]; simp
                          obtain ⟨va, hva⟩ : ∃ b, (ba || (K.take r).any (fun z => z == uo)) = b := ⟨_, rfl⟩
                          obtain ⟨vb, hvb⟩ : ∃ b, (bb || (K.take r).any (fun z => z == un)) = b := ⟨_, rfl⟩
                          obtain ⟨c1, hcc1⟩ : ∃ b, (K[r] == uo) = b := ⟨_, rfl⟩
                          obtain ⟨c2, hcc2⟩ : ∃ b, (K[r] == un) = b := ⟨_, rfl⟩
                          obtain ⟨zr, hzr⟩ : ∃ z, mk K[r] = z := ⟨_, rfl⟩
                          rw [hva, hcc1] at hN1
                          rw [hvb, hcc2] at hN2
                          rw [hzr, hcc1] at hc1
                          rw [hzr, hcc2] at hc2
                          rw [hzr] at s0
                          rw [hva, hvb]
                          have HN1 := Lib.hid hN1
                          have HN2 := Lib.hid hN2
                          have r0 : (0 : Int) ≤ (r : Int) := by omega
                          have r1 : (r : Int) < (p : Int) := by omega
                          clear hva hvb hcc1 hcc2 hzr hN1 hN2 hc6 sA sL
                          cases va <;> cases vb
                          all_goals
                            go_wp2_with fail
                            go_quiet (skip)
                            go_wp2
                            go_roundw
                            case rel => exact ⟨r + 1, by omega, by go_num, by rw [HN1.out]; rfl, by rw [HN2.out]; rfl, hbr.trans (⟨rfl, rfl, rfl, Nat.le_refl _, fun _ _ => rfl⟩)⟩
                            case measure => first | (simp [intOf]; done) | (simp [intOf]; omega)
                        · obtain rfl : r = p := by omega
                          have hT : K.take r = K := List.take_of_length_le (by rw [HNK.out]; exact Nat.le_refl _)
                          have hA1 : (ba || (K.take r).any (fun z => z == uo)) = true := by
                            rw [hT, ← HBa.out]
                            rcases HM1.out with h | h
                            · rw [h]; rfl
                            · rw [List.any_eq_true.2 ⟨uo, h, by simp⟩, Bool.or_true]
                          have hA2 : (bb || (K.take r).any (fun z => z == un)) = true := by
                            rw [hT, ← HBb.out]
                            rcases HM2.out with h | h
                            · rw [h]; rfl
                            · rw [List.any_eq_true.2 ⟨un, h, by simp⟩, Bool.or_true]
                          rw [hA1, hA2]
                          clear hA1 hA2 hT sA sL
                          go_wp2
                          go_roundw
                          case rel => exact ⟨i + 1, by omega, by go_num, hbr⟩
                          case measure => first | (simp [intOf]; done) | (simp [intOf]; omega)
                    · obtain rfl : i = j := by omega
                      clear sA sL
                      go_wp2
                      go_ret
                      exact ⟨rfl, hfin.trans (hbi.mono hfin.size)⟩
      · have hLW : L = W := by rw [← hL]; unfold cutL; rw [show W.length - 256 = 0 by omega]; rfl
        obtain ⟨D5, d5, hD5, hd5⟩ : ∃ (D5 : Option Addr) (d5 : Nat), D5 = D ∧ d5 = d := ⟨_, _, rfl, rfl⟩
        subst hD5
        subst hd5
        have hkL : k = L.length := by rw [hLW, hwl]
        have hL5 : Lies wr D5 (ucells L) := by rw [hLW]; exact hDL
        have hc3 : (k : Int) ≤ 256 := by omega
        have hcase2 : ((400 : Int) ≤ (k : Int) ∧ (k : Int) < (n : Int)) ∨ (n : Int) ≤ (k : Int) := by omega
        clear hDL hDc hwl hLW hcase
        rcases hcase2 with ⟨h4, h1⟩ | h1
        · omega
        go_upto_region 22 with fail
        clear hkL
        have hLl : L.length ≤ 256 := by rw [← hL]; unfold cutL; rw [List.length_drop]; omega
        obtain ⟨N, hN⟩ : ∃ N, L.length = N := ⟨_, rfl⟩
        have HTA' := HTA.out
        have HY' := HY.out
        rw [hN] at y2 hLl HTA' HY'
        simp only [hN]
        have HN := Lib.hid hN
        have GL := Lib.hid (show ∀ w', Below wr.heap.size wr w' → Lies w' D5 (ucells L) ∧ Lies w' TB (ucells L) ∧ w'.cell? ⟨Y, 0, none⟩ = some (.slice T nT ct) ∧ w'.cell? ⟨Y, 1, none⟩ = some (.string hT) ∧ w'.cell? ⟨Y, 2, none⟩ = some (.slice TB N cb) from fun w' h' =>
          ⟨hL5.below (Nat.le_refl _) h', hLT.below (Nat.le_refl _) h', (HY'.below h').cell 0, (HY'.below h').cell 1, (HY'.below h').cell 2⟩)
        have HT2 := Lib.hid HTA'
        have HKn := HI.out.known
        rw [hL] at HKn
        have hrl : t.refs.length ≤ 100000 := by have := HI.out.rlen; omega
        have hll : t.log.length ≤ 100000 := by rw [HI.out.log, hL, hN]; omega
        have hKb := known_len t.ids
        rw [ids_len] at hKb
        obtain ⟨K, hK⟩ : ∃ K, knownL t.ids = K := ⟨_, rfl⟩
        rw [hK] at hKb
        have hKb2 : K.length ≤ 1000000 := by omega
        have KK : ∀ w', Below wr.heap.size wr w' → Calls Tryd.prog 20 #[.agg #[.slice T nT ct, .string hT, .slice TB N cb]] w' fun e w'' => ∃ A6 c6, e = .returned (.slice A6 K.length c6) ∧ Strs w'' A6 K ∧ Below w'.heap.size w' w'' := fun w' h' => by
          have := known_any t _ w' (HTA'.below h') hrl hll
          rw [hK] at this
          exact this
        rw [hK] at HKn
        have QKn := Lib.hid HKn
        have QKK := Lib.hid KK
        have hbw := hb
        clear hKb hN hK hL hL5 hLT HTA' HY' HTA HY HI KK HKn hrl hll hb
        go_wp2
        go_loopw [11] (fun i w' => ∃ j : Nat, j ≤ N ∧ i = .int .i64 j ∧ Below wr.heap.size wr w') (fun i _ => N - (intOf i).toNat)
        case atStart => exact ⟨0, Nat.zero_le _, rfl, Below.refl _ _⟩
        case round =>
          rename World => w2
          obtain ⟨j, hj, rfl, hbj⟩ := hrel
          obtain ⟨l1, l2, z0, z1, z2⟩ := GL.out _ hbj
          by_cases hjn : j < N
          · have hjL : j < L.length := by rw [HN.out]; exact hjn
            obtain ⟨g1, o1, rfl, a0, a1, a2⟩ := lies_at l1 j hjL
            obtain ⟨g2, o2, rfl, b0, b1, b2⟩ := lies_at l2 j hjL
            obtain ⟨rA, hrA⟩ : ∃ a, mk L[j].name = a := ⟨_, rfl⟩
            obtain ⟨rB, hrB⟩ : ∃ a, mk L[j].old = a := ⟨_, rfl⟩
            obtain ⟨rC, hrC⟩ : ∃ a, mk L[j].new = a := ⟨_, rfl⟩
            rw [hrA] at a0 b0
            rw [hrB] at a1 b1
            rw [hrC] at a2 b2
            have hsame := upd_same rA rB rC
            have hguard := eq_guard39
            have j0 : (0 : Int) ≤ (j : Int) := by omega
            have j1 : (j : Int) < (N : Int) := by omega
            clear hrA hrB hrC l1 l2 y2
            go_wp2_with fail
            go_quiet (skip)
            go_wp2
            go_roundw
            case rel => exact ⟨j + 1, by omega, by go_num, hbj.trans (⟨rfl, rfl, rfl, Nat.le_refl _, fun _ _ => rfl⟩)⟩
            case measure => first | (simp [intOf]; done) | (simp [intOf]; omega)
          · obtain rfl : j = N := by omega
            have K20 := QKK.out _ hbj
            clear l1 l2 y2
            go_upto_region 30 with (go_at_call 20; refine K20.mono ?_; rintro e w9 ⟨A6, c6, rfl, hS6, hb9⟩)
            have hS9 := hS6
            have GK := Lib.hid (show ∀ w', Below w9.heap.size w9 w' → Strs w' A6 K ∧ Lies w' D5 (ucells L) from fun w' h' => ⟨hS6.below h', (GL.out _ (below_step (below_step hbj hb9) h')).1⟩)
            have hfin : Below w.heap.size w w9 := below_step (below_step hbw hbj) hb9
            obtain ⟨NK, hNK⟩ : ∃ z, K.length = z := ⟨_, rfl⟩
            simp only [hNK]
            have HNK := Lib.hid hNK
            rw [hNK] at hKb2
            clear hNK hS6 hS9 K20 hb9 z0 z1 z2 hbj
            go_wp2
            go_loopw [13] (fun i w' => ∃ p : Nat, p ≤ NK ∧ i = .int .i64 p ∧ Below w9.heap.size w9 w') (fun i _ => NK - (intOf i).toNat)
            case atStart => exact ⟨0, Nat.zero_le _, rfl, Below.refl _ _⟩
            case round =>
              rename World => w3
              obtain ⟨p, hp, rfl, hbp⟩ := hrel
              obtain ⟨sA, _⟩ := GK.out _ hbp
              by_cases hpn : p < NK
              · have hpK : p < K.length := by rw [HNK.out]; exact hpn
                obtain ⟨g6, rfl, _, hc6⟩ := sA (by omega)
                have s0 := hc6 p hpK
                have hz32 : (mk K[p]).size = 32 := by rw [mk_size]; exact QKn.out.2.1 _ (List.getElem_mem hpK)
                have p0 : (0 : Int) ≤ (p : Int) := by omega
                have p1 : (p : Int) < (NK : Int) := by omega
                cases p with
                | zero =>
                  obtain ⟨zz, hzz⟩ : ∃ z, mk K[0] = z := ⟨_, rfl⟩
                  rw [hzz] at s0 hz32
                  clear hzz hc6 sA
                  go_wp2_with fail
                  go_quiet (skip)
                  go_wp2
                  go_roundw
                  case rel => exact ⟨1, by omega, by go_num, hbp.trans (⟨rfl, rfl, rfl, Nat.le_refl _, fun _ _ => rfl⟩)⟩
                  case measure => first | (simp [intOf]; done) | (simp [intOf]; omega)
                | succ q =>
                  have s1 := hc6 q (by omega)
                  have hlt := List.pairwise_iff_getElem.1 QKn.out.1 q (q + 1) (by omega) hpK (by omega)
                  have hle1 : Op.bytesLess (mk K[q + 1]).toList (mk K[q]).toList = false := by
                    rw [mk_toList', mk_toList', Go.Proofs.bytesLess_eq]
                    exact decide_eq_false (fun h => List.lt_irrefl _ (List.lt_trans hlt h))
                  have hle2 : ((mk K[q + 1]).toList == (mk K[q]).toList) = false := by
                    rw [mk_toList', mk_toList']
                    exact beq_eq_false_iff_ne.2 (fun e => by rw [e] at hlt; exact List.lt_irrefl _ hlt)
                  have hq1 : ((q + 1 : Nat) : Int) - 1 = (q : Int) := by omega
                  have hq0 : (0 : Int) ≤ (q : Int) := by omega
                  have hqn : (q : Int) < (NK : Int) := by omega
                  have hq2 : (0 : Int) < ((q + 1 : Nat) : Int) := by omega
                  have hq3 : ((q + 1 : Nat) : Int) ≤ 9223372036854775807 := by omega
                  have hwr1 : IntKind.i64.wrap (q : Int) = (q : Int) := by have h := hKb2; simp [IntKind.wrap, IntKind.bits, IntKind.signed]; omega
                  obtain ⟨zz, hzz⟩ : ∃ z, mk K[q + 1] = z := ⟨_, rfl⟩
                  obtain ⟨zy, hzy⟩ : ∃ z, mk K[q] = z := ⟨_, rfl⟩
                  rw [hzz] at s0 hz32 hle1 hle2
                  rw [hzy] at s1 hle1 hle2
                  obtain ⟨pp, hpp⟩ : ∃ z : Nat, q + 1 = z := ⟨_, rfl⟩
                  rw [hpp] at s0 hq1 hq2 hq3 p0 p1
                  simp only [hpp]
                  have hpp2 := Lib.hid hpp
                  have hleq : ∀ w, (binOp .leq 9 (.string zz) (.string zy)).run Tryd.prog w = .ok (.bool false) w := fun w => by rw [binOp_string_leq, hle1, hle2]; rfl
                  have hppn : 0 < pp := by omega
                  clear hzz hzy hc6 sA hlt hpp
                  go_wp2_with fail
                  go_quiet (skip)
                  go_wp2
                  go_roundw
                  case rel => exact ⟨pp + 1, by have := hpp2.out; omega, by go_num, hbp.trans (⟨rfl, rfl, rfl, Nat.le_refl _, fun _ _ => rfl⟩)⟩
                  case measure => have := hpp2.out; first | (simp [intOf]; done) | (simp [intOf]; omega)
              · obtain rfl : p = NK := by omega
                clear sA
                go_wp2
                go_loopw [14] (fun i w' => ∃ p : Nat, p ≤ j ∧ i = .int .i64 p ∧ Below w9.heap.size w9 w') (fun i _ => j - (intOf i).toNat)
                case atStart => exact ⟨0, Nat.zero_le _, rfl, hbp⟩
                case round =>
                  clear hbp
                  rename World => w4
                  obtain ⟨i, hi, rfl, hbi⟩ := hrel
                  obtain ⟨sA, sL⟩ := GK.out _ hbi
                  by_cases hin : i < j
                  · have hiL : i < L.length := by rw [HN.out]; exact hin
                    obtain ⟨g5, o5, rfl, _, d1, d2⟩ := lies_at sL i hiL
                    obtain ⟨hM1, hM2⟩ := QKn.out.2.2 L[i] (List.getElem_mem hiL)
                    obtain ⟨uo, huo⟩ : ∃ z, L[i].old = z := ⟨_, rfl⟩
                    obtain ⟨un, hun⟩ : ∃ z, L[i].new = z := ⟨_, rfl⟩
                    rw [huo] at d1 hM1
                    rw [hun] at d2 hM2
                    have ho : ((mk uo).toList == []) = (uo == []) := mk_eq_nil uo
                    have hn2 : ((mk un).toList == []) = (un == []) := mk_eq_nil un
                    obtain ⟨zo, hzo⟩ : ∃ z, mk uo = z := ⟨_, rfl⟩
                    obtain ⟨zn, hzn⟩ : ∃ z, mk un = z := ⟨_, rfl⟩
                    obtain ⟨ba, hba⟩ : ∃ z, (uo == []) = z := ⟨_, rfl⟩
                    obtain ⟨bb, hbb⟩ : ∃ z, (un == []) = z := ⟨_, rfl⟩
                    rw [hzo, hba] at ho
                    rw [hzn, hbb] at hn2
                    rw [hzo] at d1
                    rw [hzn] at d2
                    have HUo := Lib.hid huo
                    have HUn := Lib.hid hun
                    have HM1 := Lib.hid hM1
                    have HM2 := Lib.hid hM2
                    have HBa := Lib.hid hba
                    have HBb := Lib.hid hbb
                    have HZo := Lib.hid hzo
                    have HZn := Lib.hid hzn
                    have i0 : (0 : Int) ≤ (i : Int) := by omega
                    have i1 : (i : Int) < (j : Int) := by omega
                    clear huo hun hM1 hM2 hba hbb hzo hzn sA sL
                    go_wp2_with fail
                    go_quiet (skip)
                    have hbi' : Below w9.heap.size w9 (w4.drewN nq) := hbi.trans (⟨rfl, rfl, rfl, Nat.le_refl _, fun _ _ => rfl⟩)
                    clear ho hn2 d1 d2
                    obtain ⟨w5, hw5⟩ : ∃ u, w4.drewN nq = u := ⟨_, rfl⟩
                    rw [hw5] at hbi'
                    simp only [hw5]
                    clear hw5 hbi
                    go_wp2
                    go_loopw [15, 16, 17] (fun va vb q w' => ∃ r : Nat, r ≤ p ∧ q = .int .i64 r ∧ va = .bool (ba || (K.take r).any (fun z => z == uo)) ∧ vb = .bool (bb || (K.take r).any (fun z => z == un)) ∧ Below w9.heap.size w9 w') (fun _ _ q _ => p - (intOf q).toNat)
                    case atStart => exact ⟨0, Nat.zero_le _, rfl, by simp, by simp, hbi'⟩
                    case round =>
                      clear hbi'
                      rename World => w6
                      obtain ⟨r, hr, rfl, rfl, rfl, hbr⟩ := hrel
                      obtain ⟨sA, sL⟩ := GK.out _ hbr
                      by_cases hrn : r < p
                      · have hrK : r < K.length := by rw [HNK.out]; exact hrn
                        obtain ⟨g6, rfl, _, hc6⟩ := sA (by omega)
                        have s0 := hc6 r hrK
                        obtain ⟨g7, o7, e7, _, d1, d2⟩ := lies_at sL i hiL
                        simp only [Option.some.injEq, Addr.mk.injEq, and_true] at e7
                        obtain ⟨e8, e9⟩ := e7
                        subst e8
                        subst e9
                        rw [HUo.out, HZo.out] at d1
                        rw [HUn.out, HZn.out] at d2
                        have hc1 : ((mk K[r]).toList == zo.toList) = (K[r] == uo) := by rw [← HZo.out, mk_toList', mk_toList']
                        have hc2 : ((mk K[r]).toList == zn.toList) = (K[r] == un) := by rw [← HZn.out, mk_toList', mk_toList']
                        have hN1 : (ba || (K.take (r + 1)).any (fun z => z == uo)) = ((ba || (K.take r).any (fun z => z == uo)) || (K[r] == uo)) := by
                          rw [List.take_succ_eq_append_getElem hrK, List.any_append, ← Bool.or_assoc]; simp
                        have hN2 : (bb || (K.take (r + 1)).any (fun z => z == un)) = ((bb || (K.take r).any (fun z => z == un)) || (K[r] == un)) := by
                          rw [List.take_succ_eq_append_getElem hrK, List.any_append, ← Bool.or_assoc]; simp
                        obtain ⟨va, hva⟩ : ∃ b, (ba || (K.take r).any (fun z => z == uo)) = b := ⟨_, rfl⟩
                        obtain ⟨vb, hvb⟩ : ∃ b, (bb || (K.take r).any (fun z => z == un)) = b := ⟨_, rfl⟩
                        obtain ⟨c1, hcc1⟩ : ∃ b, (K[r] == uo) = b := ⟨_, rfl⟩
                        obtain ⟨c2, hcc2⟩ : ∃ b, (K[r] == un) = b := ⟨_, rfl⟩
                        obtain ⟨zr, hzr⟩ : ∃ z, mk K[r] = z := ⟨_, rfl⟩
                        rw [hva, hcc1] at hN1
                        rw [hvb, hcc2] at hN2
                        rw [hzr, hcc1] at hc1
                        rw [hzr, hcc2] at hc2
                        rw [hzr] at s0
                        rw [hva, hvb]
                        have HN1 := Lib.hid hN1
                        have HN2 := Lib.hid hN2
                        have r0 : (0 : Int) ≤ (r : Int) := by omega
                        have r1 : (r : Int) < (p : Int) := by omega
                        clear hva hvb hcc1 hcc2 hzr hN1 hN2 hc6 sA sL
                        cases va <;> cases vb
                        all_goals
                          go_wp2_with fail
                          go_quiet (skip)
                          go_wp2
                          go_roundw
                          case rel => exact ⟨r + 1, by omega, by go_num, by rw [HN1.out]; rfl, by rw [HN2.out]; rfl, hbr.trans (⟨rfl, rfl, rfl, Nat.le_refl _, fun _ _ => rfl⟩)⟩
                          case measure => first | (simp [intOf]; done) | (simp [intOf]; omega)
                      · obtain rfl : r = p := by omega
                        have hT : K.take r = K := List.take_of_length_le (by rw [HNK.out]; exact Nat.le_refl _)
                        have hA1 : (ba || (K.take r).any (fun z => z == uo)) = true := by
                          rw [hT, ← HBa.out]
                          rcases HM1.out with h | h
                          · rw [h]; rfl
                          · rw [List.any_eq_true.2 ⟨uo, h, by simp⟩, Bool.or_true]
                        have hA2 : (bb || (K.take r).any (fun z => z == un)) = true := by
                          rw [hT, ← HBb.out]
                          rcases HM2.out with h | h
                          · rw [h]; rfl
                          · rw [List.any_eq_true.2 ⟨un, h, by simp⟩, Bool.or_true]
                        rw [hA1, hA2]
                        clear hA1 hA2 hT sA sL
                        go_wp2
                        go_roundw
                        case rel => exact ⟨i + 1, by omega, by go_num, hbr⟩
                        case measure => first | (simp [intOf]; done) | (simp [intOf]; omega)
                  · obtain rfl : i = j := by omega
                    clear sA sL
                    go_wp2
                    go_ret
                    exact ⟨rfl, hfin.trans (hbi.mono hfin.size)⟩
end Go.Proofs.YtlkfnhcnfjdgbaaDoor
