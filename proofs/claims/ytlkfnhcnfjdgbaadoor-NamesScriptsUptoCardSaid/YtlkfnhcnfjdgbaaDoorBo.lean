/- stemmalaw16.both at any transaction, walked. -/
import Derived.Test.YtlkfnhcnfjdgbaaDoorIa
import Derived.Deep.RegionHeld3
import Derived.Deep.CutRange
import Derived.Deep.AppendLies
import Derived.BigQuiet
namespace Go.Proofs.YtlkfnhcnfjdgbaaDoor
open Go.RowKit Go.Maps Go.WideMaps
theorem info66 : (Tryd.prog.info? 66).map (fun i => (i.zero, i.size, i.bytes)) = some (some (.agg #[.string ⟨#[]⟩, .string ⟨#[]⟩, .string ⟨#[]⟩]), 3, 48) := by kernel_rfl
/-- An update with numbers for its IDs. -/
structure NUpd where
  name : Bs
  old : Int
  new : Int
def NUpd.upd (x : NUpd) : Upd := ⟨x.name, idB x.old, idB x.new⟩
/-- These updates lie from A on. -/
def NUpds (w : World) (A : Option Addr) (l : List NUpd) : Prop := 0 < l.length → ∃ g o, A = some ⟨g, o, none⟩ ∧ g < w.heap.size ∧
  ∀ j (h : j < l.length), w.cell? ⟨g, o + j * 3, none⟩ = some (.string (mk l[j].name)) ∧ w.cell? ⟨g, o + j * 3 + 1, none⟩ = some (.int .i64 l[j].old) ∧ w.cell? ⟨g, o + j * 3 + 2, none⟩ = some (.int .i64 l[j].new)
/-- Block b of w is these cells. -/
def Blk (w : World) (b : Nat) (cs : Array Value) (e : TypeId) : Prop := w.heap[b]? = some (.cells cs e (0, 0))
theorem Blk.cell {w : World} {b : Nat} {cs : Array Value} {e : TypeId} (h : Blk w b cs e) (i : Nat) : w.cell? ⟨b, i, none⟩ = cs[i]? := by
  unfold Blk at h
  unfold World.cell?; rw [h]; simp
theorem Blk.frozen {w : World} {b : Nat} {cs : Array Value} {e : TypeId} (h : Blk w b cs e) (i : Nat) : w.frozen? ⟨b, i, none⟩ = false := by
  unfold Blk at h
  unfold World.frozen?; rw [h]; simp
theorem Blk.set {w : World} {b : Nat} {cs : Array Value} {e : TypeId} (h : Blk w b cs e) (i : Nat) (v : Value) : Blk (w.setCell ⟨b, i, none⟩ v) b (cs.setIfInBounds i v) e := by
  unfold Blk at h ⊢
  show (w.heap.modify b _)[b]? = _
  rw [Array.getElem?_modify, if_pos rfl, h]; simp
theorem Blk.lt {w : World} {b : Nat} {cs : Array Value} {e : TypeId} (h : Blk w b cs e) : b < w.heap.size := (Array.getElem?_eq_some_iff.1 h).1
theorem Blk.below {w w' : World} {b : Nat} {cs : Array Value} {e : TypeId} (h : Blk w b cs e) (hb : Below w.heap.size w w') : Blk w' b cs e := (hb.block b h.lt).trans h
theorem Blk.new (w : World) (cs : Array Value) (e : TypeId) : Blk (w.alloc (.cells cs e)) w.heap.size cs e := heap_alloc_new w _
theorem Blk.alloc {w : World} {b : Nat} {cs : Array Value} {e : TypeId} (h : Blk w b cs e) (o : Obj) : Blk (w.alloc o) b cs e := (heap_alloc_old w o h.lt).trans h
theorem Blk.drew {w : World} {b : Nat} {cs : Array Value} {e : TypeId} (h : Blk w b cs e) : Blk w.drew b cs e := h
theorem Blk.below_new {w w1 : World} {cs : Array Value} {e : TypeId} (h : Below (w.alloc (.cells cs e)).drew.heap.size (w.alloc (.cells cs e)).drew w1) : Blk w1 w.heap.size cs e := Blk.below (w := (w.alloc (.cells cs e)).drew) (Blk.new w cs e).drew h
theorem Blk.below_new' {w w1 : World} {cs : Array Value} {e : TypeId} (h : Below (w.alloc (.cells cs e)).heap.size (w.alloc (.cells cs e)) w1) : Blk w1 w.heap.size cs e := Blk.below (w := w.alloc (.cells cs e)) (Blk.new w cs e) h
theorem below_step {w0 w w1 : World} (hb : Below w0.heap.size w0 w) (h : Below w.heap.size w w1) : Below w0.heap.size w0 w1 := hb.trans (h.mono hb.size)
theorem own_below {w w' : World} {b size : Nat} {e : TypeId} {v : Value} {n : Nat} {xs : List Value} (h : w.ownsRow b e size v n xs) (hb : Below w.heap.size w w') : w'.ownsRow b e size v n xs := by
  refine ⟨h.1, h.2.imp id ?_⟩
  rintro ⟨g, cap, cur, h1, h2, h3, h4⟩
  exact ⟨g, cap, cur, h1, h2, (hb.block g (Array.getElem?_eq_some_iff.1 h3).1).trans h3, h4⟩
theorem own_apart {w : World} {b1 s1 b2 s2 : Nat} {e1 e2 : TypeId} {v1 v2 : Value} {n1 n2 : Nat} {xs1 xs2 : List Value} (h1 : w.ownsRow b1 e1 s1 v1 n1 xs1) (h2 : w.ownsRow b2 e2 s2 v2 n2 xs2) (he : e1 ≠ e2) : v2.ownBlock = none ∨ v1.ownBlock ≠ v2.ownBlock := by
  rcases h2.2 with ⟨rfl, _⟩ | ⟨g2, c2, cur2, rfl, _, hg2, _⟩
  · exact .inl rfl
  · rcases h1.2 with ⟨rfl, _⟩ | ⟨g1, c1, cur1, rfl, _, hg1, _⟩
    · exact .inr (by simp [Value.ownBlock])
    · refine .inr ?_
      intro e
      simp only [Value.ownBlock, Option.some.injEq] at e
      subst e
      rw [hg1] at hg2
      simp only [Option.some.injEq, Obj.cells.injEq] at hg2
      exact he hg2.2.1
/-- Two rows that the call owns. -/
structure Two (w0 w : World) (e1 e2 : TypeId) (v1 : Value) (n1 : Nat) (xs1 : List Value) (v2 : Value) (n2 : Nat) (xs2 : List Value) : Prop where
  one : w.ownsRow w0.heap.size e1 3 v1 n1 xs1
  two : w.ownsRow w0.heap.size e2 3 v2 n2 xs2
  bel : Below w0.heap.size w0 w
theorem Two.alloc {w0 w : World} {e1 e2 : TypeId} {v1 v2 : Value} {n1 n2 : Nat} {xs1 xs2 : List Value} (h : Two w0 w e1 e2 v1 n1 xs1 v2 n2 xs2) (o : Obj) : Two w0 (w.alloc o) e1 e2 v1 n1 xs1 v2 n2 xs2 :=
  ⟨h.one.alloc o, h.two.alloc o, h.bel.alloc h.bel.size o⟩
theorem Two.drew {w0 w : World} {e1 e2 : TypeId} {v1 v2 : Value} {n1 n2 : Nat} {xs1 xs2 : List Value} (h : Two w0 w e1 e2 v1 n1 xs1 v2 n2 xs2) : Two w0 w.drew e1 e2 v1 n1 xs1 v2 n2 xs2 :=
  ⟨h.one.drew, h.two.drew, h.bel.drew⟩
theorem Two.swap {w0 w : World} {e1 e2 : TypeId} {v1 v2 : Value} {n1 n2 : Nat} {xs1 xs2 : List Value} (h : Two w0 w e1 e2 v1 n1 xs1 v2 n2 xs2) : Two w0 w e2 e1 v2 n2 xs2 v1 n1 xs1 :=
  ⟨h.two, h.one, h.bel⟩
/-- An append to one of two rows, at a step of a region that draws its order. -/
theorem step_two {w0 w : World} {ops : Array Oper} {o : Oper} {a : Act} {K : Act → World → Prop} {Q : Exit → Act → World → Prop} {E : Prop} (hgd : o.guard = none) (s x : Operand) (t : TypeId)
    (ho : o.op = .call { callee := .builtin .append, args := #[s, x], argTypes := #[t, t] })
    (e1 e2 : TypeId) (hne : e1 ≠ e2) (i : TypeInfo) (z : Value) (ht : Tryd.prog.underlying t = some (.slice e1)) (hi : Tryd.prog.info? e1 = some i) (hz : i.zero = some z)
    (hsize : i.size = 3) (hby : i.bytes = 48) (hzs : z.cells.size = 3) (v1 : Value) (n1 : Nat) (xs1 : List Value) (v2 : Value) (n2 : Nat) (xs2 : List Value) (hs : a.eval s = v1)
    (T : Two w0 w e1 e2 v1 n1 xs1 v2 n2 xs2) (hn : n1 ≤ 1000) (B : Nat) (x0 y0 z0 : ByteArray) (fr : Nat × Nat) (hx : a.eval x = .slice (some ⟨B, 0, none⟩) 1 1) (hb : w.heap[B]? = some (.cells #[.string x0, .string y0, .string z0] e1 fr))
    (hK : ∀ v w', Two w0 w' e1 e2 v (n1 + 1) (xs1 ++ [.string x0, .string y0, .string z0]) v2 n2 xs2 → (∀ (g : Nat) (cs : Array Value) (fr : Nat × Nat), w.heap[g]? = some (Obj.cells cs e2 fr) → w'.heap[g]? = some (Obj.cells cs e2 fr)) →
      (∀ g, g < w.heap.size → v1.ownBlock ≠ some g → w'.heap[g]? = w.heap[g]?) → K (a.put o.dst v) w') :
    if Region.wanted o (yielded ops a.tmps) = true then Oper.wp Tryd.prog o a w K Q else E := by
  refine step_append_lies w hgd s x t ho w0.heap.size e1 i z 3 48 ht hi hz hsize hby hzs (by omega) v1 n1 xs1 hs T.one ⟨B, 0, none⟩ 1 1 [.string x0, .string y0, .string z0] hx rfl
    (World.news_of_block (cs := #[.string x0, .string y0, .string z0]) hb) (by simp [Value.oneCell']) (by omega) (by simp only [maxLen]; omega) (by omega) T.bel.size w.heap.size rfl ?_
  intro g cap w' hown hg hat hlt
  refine hK _ _ ⟨hown, T.two.kept hg ?_, T.bel.grown hg T.bel.size (fun k e => (T.one.lt k e).1)⟩ ?_ ?_
  · rcases own_apart T.one T.two hne with h | h
    · exact .inl h
    · exact .inr (fun e => h e.symm)
  · intro g cs fr hh
    rw [hg.block g (Array.getElem?_eq_some_iff.1 hh).1 ?_]
    · exact hh
    · intro e
      rcases T.one.2 with ⟨rfl, _⟩ | ⟨g1, c1, cur1, rfl, _, hg1, _⟩
      · simp [Value.ownBlock] at e
      · simp only [Value.ownBlock, Option.some.injEq] at e
        subst e
        rw [hg1] at hh
        simp only [Option.some.injEq, Obj.cells.injEq] at hh
        exact hne hh.2.1
  · intro g hl he
    exact hg.block g hl (fun e => he e.symm)
theorem heap_old {w : World} {o : Obj} {g : Nat} {x : Obj} (h : w.heap[g]? = some x) : (w.alloc o).heap[g]? = some x := by
  have hl := (Array.getElem?_eq_some_iff.1 h).1
  show (w.heap.push o)[g]? = _
  rw [Array.getElem?_push, if_neg (by omega), h]
theorem heap_new (w : World) (o : Obj) (g : Nat) (h : g = w.heap.size) : (w.alloc o).heap[g]? = some o := by subst h; exact heap_alloc_new w o
set_option maxRecDepth 100000 in
set_option maxHeartbeats 8000000 in
theorem both_any (A : Option Addr) (n cap : Nat) (l : List NUpd) (hd : ByteArray) (w : World) (hln : l.length = n) (hn : n ≤ 9223372036854775807) (hL : NUpds w A l) :
    Calls Tryd.prog 12 #[.agg #[.slice A n cap, .string hd]] w fun e w' => ∃ A1 c1 A2 c2 us, us = (l.take 12).map NUpd.upd ∧ e = .returned (.tuple #[.slice A1 us.length c1, .slice A2 us.length c2]) ∧
      w'.ownsRow w.heap.size 39 3 (.slice A1 us.length c1) us.length (ucells us) ∧ w'.ownsRow w.heap.size 66 3 (.slice A2 us.length c2) us.length (ucells us) ∧ Below w.heap.size w w' := by
  obtain ⟨ia, hia, ha0, ha1, ha2⟩ := info_parts info39
  obtain ⟨ib, hib, hb0, hb1, hb2⟩ := info_parts info66
  obtain ⟨idS, hidS⟩ : ∃ f : Int → ByteArray, f = fun n => mk (idB n) := ⟨_, rfl⟩
  have KI : ∀ (m : Int) (w : World), Calls Tryd.prog 19 #[.int .i64 m] w fun e w' => e = .returned (.string (idS m)) ∧ Below w.heap.size w w' := fun m w => by rw [hidS]; exact id_any m w
  have hW0 := below_alloc w (.cells #[.slice A n cap, .string hd] 27)
  have hnew := heap_alloc_new w (.cells #[.slice A n cap, .string hd] 27)
  have hlt := alloc_lt w (.cells #[.slice A n cap, .string hd] 27)
  obtain ⟨W, hW⟩ : ∃ u, w.alloc (.cells #[.slice A n cap, .string hd] 27) = u := ⟨_, rfl⟩
  rw [hW] at hW0 hnew hlt
  have hW' := Lib.hid hW
  have HC := Lib.hid (show ∀ w', Below W.heap.size W w' → w'.cell? ⟨w.heap.size, 0, none⟩ = some (.slice A n cap) ∧ NUpds w' A l from fun w' hb => by
    refine ⟨(hb.cell (p := ⟨w.heap.size, 0, none⟩) hlt).trans (by unfold World.cell?; rw [hnew]; simp), fun h0 => ?_⟩
    obtain ⟨g, o, hA, hg, hc⟩ := hL h0
    have hs := hW0.size
    refine ⟨g, o, hA, Nat.lt_of_lt_of_le (Nat.lt_of_lt_of_le hg hs) hb.size, fun j hj => ?_⟩
    have hgW : g < W.heap.size := Nat.lt_of_lt_of_le hg hs
    obtain ⟨a, b, c⟩ := hc j hj
    exact ⟨(hb.cell (p := ⟨g, o + j * 3, none⟩) hgW).trans ((hW0.cell (p := ⟨g, o + j * 3, none⟩) hg).trans a), (hb.cell (p := ⟨g, o + j * 3 + 1, none⟩) hgW).trans ((hW0.cell (p := ⟨g, o + j * 3 + 1, none⟩) hg).trans b),
      (hb.cell (p := ⟨g, o + j * 3 + 2, none⟩) hgW).trans ((hW0.cell (p := ⟨g, o + j * 3 + 2, none⟩) hg).trans c)⟩)
  clear hL hW hnew
  have hws := hW0.size
  go_enter Tryd.func12, Tryd.ntmps12
  go_wp2
  rw [hW'.out]
  go_loopw [4, 5, 6] (fun va vb i wr => ∃ k : Nat, k ≤ 12 ∧ k ≤ n ∧ i = .int .i64 k ∧ wr.ownsRow W.heap.size 39 3 va k (ucells ((l.take k).map NUpd.upd)) ∧ wr.ownsRow W.heap.size 66 3 vb k (ucells ((l.take k).map NUpd.upd)) ∧ Below W.heap.size W wr) (fun _ _ i _ => 12 - (intOf i).toNat)
  case atStart => exact ⟨0, by omega, by omega, rfl, World.ownsRow_nil _ _ _ _, World.ownsRow_nil _ _ _ _, Below.refl _ _⟩
  case round =>
    obtain ⟨k, hk, hkn, rfl, hA, hB, hbl⟩ := hrel
    obtain ⟨A1, cap1, rfl⟩ := row_form hA
    obtain ⟨A2, cap2, rfl⟩ := row_form hB
    obtain ⟨hbox, hN⟩ := HC.out _ hbl
    by_cases h : k < 12 ∧ k < n
    · obtain ⟨h12, hlk⟩ := h
      have hkl : k < l.length := by omega
      obtain ⟨g, off, rfl, hgl, hcs⟩ := hN (by omega)
      obtain ⟨g0, g1, g2⟩ := hcs k hkl
      have hsn : ucells ((l.take (k + 1)).map NUpd.upd) = ucells ((l.take k).map NUpd.upd) ++ [.string (mk l[k].name), .string (mk (idB l[k].old)), .string (mk (idB l[k].new))] := by
        rw [List.take_succ_eq_append_getElem hkl, List.map_append, ucells_app]; rfl
      have hids : ∀ m, mk (idB m) = idS m := fun m => by rw [hidS]
      rw [hids, hids] at hsn
      have GC := Lib.hid (show ∀ w', Below wr.heap.size wr w' → w'.cell? ⟨w.heap.size, 0, none⟩ = some (.slice (some ⟨g, off, none⟩) n cap) ∧ w'.cell? ⟨g, off + k * 3, none⟩ = some (.string (mk l[k].name)) ∧ w'.cell? ⟨g, off + k * 3 + 1, none⟩ = some (.int .i64 l[k].old) ∧ w'.cell? ⟨g, off + k * 3 + 2, none⟩ = some (.int .i64 l[k].new) from fun w' hb =>
        ⟨(hb.cell (p := ⟨w.heap.size, 0, none⟩) (cell_lt hbox)).trans hbox, (hb.cell (p := ⟨g, off + k * 3, none⟩) hgl).trans g0, (hb.cell (p := ⟨g, off + k * 3 + 1, none⟩) hgl).trans g1, (hb.cell (p := ⟨g, off + k * 3 + 2, none⟩) hgl).trans g2⟩)
      obtain ⟨nm, hnm⟩ : ∃ x, mk l[k].name = x := ⟨_, rfl⟩
      obtain ⟨no, hno⟩ : ∃ x, l[k].old = x := ⟨_, rfl⟩
      obtain ⟨nn, hnn⟩ : ∃ x, l[k].new = x := ⟨_, rfl⟩
      rw [hnm] at g0
      rw [hno] at g1
      rw [hnn] at g2
      rw [hnm, hno, hnn] at GC hsn
      obtain ⟨xs, hxs⟩ : ∃ x, ucells ((l.take k).map NUpd.upd) = x := ⟨_, rfl⟩
      rw [hxs] at hA hB hsn
      have hsn' := Lib.hid hsn
      have k0 : (0 : Int) ≤ (k : Int) := by omega
      have k1 : (k : Int) < (n : Int) := by omega
      have k2 : (k : Int) < 12 := by omega
      have hwr := hbl.size
      have T0 : Two W wr 39 66 _ k xs _ k xs := ⟨hA, hB, hbl⟩
      have hAlt : ∀ b, (Value.slice A1 k cap1).ownBlock = some b → b < wr.heap.size := fun b e => (hA.lt b e).2
      have hBlt : ∀ b, (Value.slice A2 k cap2).ownBlock = some b → b < wr.heap.size := fun b e => (hB.lt b e).2
      clear hsn hcs hN hxs hnm hno hnn hids hidS hA hB HC
      go_upto_region 6 with fail
      go_cut [7] from 19 to 39 (fun s7 wx => ∃ X, s7 = .pointer (some ⟨X, 0, none⟩) ∧ wr.heap.size ≤ X ∧ Blk wx X #[.string nm, .string (idS no), .string (idS nn)] 66 ∧ Below wr.heap.size wr wx)
      case first =>
        clear T0 hAlt hBlt hsn'
        have B1 := Below.refl wr.heap.size wr
        have X1 : True := trivial
        have hXle : True := trivial
        have F1 : True := trivial
        have F1a : True := trivial
        go_region_held3 (fun w' => w'.cell? ⟨w.heap.size, 0, none⟩ = some (.slice (some ⟨g, off, none⟩) n cap) ∧ w'.cell? ⟨g, off + k * 3, none⟩ = some (.string nm) ∧ w'.cell? ⟨g, off + k * 3 + 1, none⟩ = some (.int .i64 no) ∧ w'.cell? ⟨g, off + k * 3 + 2, none⟩ = some (.int .i64 nn))
          (first | (go_keep) | (exact F1) | (exact F1a _) | (exact GC.out _ ((Below.refl _ wr).alloc (Nat.le_refl _) _)) | (exact GC.out _ (((B1.setCell (p := ⟨_, 0, none⟩) hXle _).setCell (p := ⟨_, 1, none⟩) hXle _).setCell (p := ⟨_, 2, none⟩) hXle _)))
          (first
            | (go_at_call 19
               refine (KI _ _).mono ?_
               rintro e w1 ⟨rfl, h1⟩
               first
                 | (have X1 := Blk.below X1 h1)
                 | (have X1 := Blk.below X1.drew h1)
                 | (have X1 := Blk.below_new (e := 66) h1
                    have hXle := B1.size)
                 | (have X1 := Blk.below_new' (e := 66) h1
                    have hXle := B1.size)
                 | skip
               first
                 | (have B1 := below_step B1 h1)
                 | (have B1 := below_step B1.drew h1)
                 | (have B1 := below_step (B1.alloc B1.size _) h1)
                 | (have B1 := below_step (B1.alloc B1.size _).drew h1)
               first
                 | (have y0 := X1.cell 0
                    have y1 := X1.cell 1
                    have y2 := X1.cell 2
                    have f0 := X1.frozen 0
                    have f1 := X1.frozen 1
                    have f2 := X1.frozen 2
                    simp at y0 y1 y2 f0 f1 f2)
                 | skip
               have F1 := GC.out _ B1
               have F1a := fun o => GC.out _ (B1.alloc B1.size o))
            | (fail))
        all_goals clear F1 F1a
        all_goals go_wp2_with fail
        all_goals go_meet
        all_goals first
          | exact ⟨w1.heap.size, rfl, B1.size, Blk.new _ _ _, B1.alloc B1.size _⟩
          | exact ⟨_, rfl, hXle, ((X1.set 0 _).set 1 _).set 2 _, ((B1.setCell (p := ⟨_, 0, none⟩) hXle _).setCell (p := ⟨_, 1, none⟩) hXle _).setCell (p := ⟨_, 2, none⟩) hXle _⟩
      case rest =>
        rename World => wx
        obtain ⟨X, rfl, hXle, hX, hbx⟩ := hcut
        have hXlt := hX.lt
        have T1 : Two W wx 39 66 _ k xs _ k xs := ⟨own_below T0.one hbx, own_below T0.two hbx, below_step hbl hbx⟩
        have hXA : (Value.slice A1 k cap1).ownBlock ≠ some X := fun e => by have := hAlt X e; omega
        have hXB : (Value.slice A2 k cap2).ownBlock ≠ some X := fun e => by have := hBlt X e; omega
        obtain ⟨x, hx⟩ : ∃ x, idS no = x := ⟨_, rfl⟩
        obtain ⟨y, hy⟩ : ∃ x, idS nn = x := ⟨_, rfl⟩
        rw [hx, hy] at hX
        rw [hx, hy] at hsn'
        have c0 := hX.cell 0
        have c1 := hX.cell 1
        have c2 := hX.cell 2
        simp at c0 c1 c2
        have CX := Lib.hid (show ∀ w', Blk w' X #[.string nm, .string x, .string y] 66 → w'.cell? ⟨X, 0, none⟩ = some (.string nm) ∧ w'.cell? ⟨X, 1, none⟩ = some (.string x) ∧ w'.cell? ⟨X, 2, none⟩ = some (.string y) from fun w' h => ⟨h.cell 0, h.cell 1, h.cell 2⟩)
        clear T0 hAlt hBlt hx hy GC KI hbl hwr g0 g1 g2 hbox hgl hXle hbx
        have FA : True := trivial
        have FB : True := trivial
        have TA : True := trivial
        have TB : True := trivial
        have hkA : True := trivial
        have hkB : True := trivial
        have XA : True := trivial
        have XB : True := trivial
        go_wp2_with fail
        go_region_held3 (fun w' => w'.cell? ⟨X, 0, none⟩ = some (.string nm) ∧ w'.cell? ⟨X, 1, none⟩ = some (.string x) ∧ w'.cell? ⟨X, 2, none⟩ = some (.string y))
          (first | (go_keep) | (exact CX.out _ XA) | (exact CX.out _ XB) | (exact CX.out _ (XA.alloc _)) | (exact CX.out _ (XB.alloc _)) | (exact CX.out _ (hX.alloc _)))
          (first
            | (refine step_two (by rfl) (.tmp 40) (.tmp 42) _ (by rfl) 39 66 (by decide) ia _ Tryd.underlying29 hia ha0 ha1 ha2 (by rfl) (.slice A1 k cap1) k xs _ _ _ (by rfl)
                (by first | exact TB.swap | exact TB.swap.alloc _ | exact (TB.swap.alloc _).drew | exact (T1.alloc _).drew | exact T1.alloc _ | exact ((T1.alloc _).drew.alloc _) | exact ((T1.alloc _).drew.alloc _).drew | exact (T1.alloc _).alloc _ | exact ((T1.alloc _).alloc _).drew) (by omega) _ nm x y (0, 0) (by rfl)
                (by first | exact heap_new _ _ _ (by first | rfl | (simp; done)) | exact hkB _ _ _ (heap_new _ _ _ (by first | rfl | (simp; done))) | exact heap_old (heap_new _ _ _ (by first | rfl | (simp; done))) | exact hkB _ _ _ (heap_old (heap_new _ _ _ (by first | rfl | (simp; done))))) ?_
               intro va wa TA hkA hgA
               have XA : Blk wa X #[.string nm, .string x, .string y] 66 := by first
                 | exact (hgA X (Blk.lt XB) hXA).trans XB
                 | exact (hgA X (Blk.lt (Blk.alloc XB _)) hXA).trans (Blk.alloc XB _)
                 | exact (hgA X (Blk.lt (Blk.alloc hX _)) hXA).trans (Blk.alloc hX _)
                 | exact (hgA X (Blk.lt (Blk.alloc (Blk.alloc hX _) _)) hXA).trans (Blk.alloc (Blk.alloc hX _) _)
               clear hgA
               have FA := CX.out _ XA)
            | (refine step_two (by rfl) (.tmp 44) (.tmp 46) _ (by rfl) 66 39 (by decide) ib _ Tryd.underlying32 hib hb0 hb1 hb2 (by rfl) (.slice A2 k cap2) k xs _ _ _ (by rfl)
                (by first | exact TA.swap | exact TA.swap.alloc _ | exact (TA.swap.alloc _).drew | exact (T1.swap.alloc _).drew | exact T1.swap.alloc _ | exact ((T1.swap.alloc _).drew.alloc _) | exact ((T1.swap.alloc _).drew.alloc _).drew | exact (T1.swap.alloc _).alloc _ | exact ((T1.swap.alloc _).alloc _).drew) (by omega) _ nm x y (0, 0) (by rfl)
                (by first | exact heap_new _ _ _ (by first | rfl | (simp; done)) | exact hkA _ _ _ (heap_new _ _ _ (by first | rfl | (simp; done))) | exact heap_old (heap_new _ _ _ (by first | rfl | (simp; done))) | exact hkA _ _ _ (heap_old (heap_new _ _ _ (by first | rfl | (simp; done))))) ?_
               intro vb wb TB hkB hgB
               have XB : Blk wb X #[.string nm, .string x, .string y] 66 := by first
                 | exact (hgB X (Blk.lt XA) hXB).trans XA
                 | exact (hgB X (Blk.lt (Blk.alloc XA _)) hXB).trans (Blk.alloc XA _)
                 | exact (hgB X (Blk.lt (Blk.alloc hX _)) hXB).trans (Blk.alloc hX _)
                 | exact (hgB X (Blk.lt (Blk.alloc (Blk.alloc hX _) _)) hXB).trans (Blk.alloc (Blk.alloc hX _) _)
               clear hgB
               have FB := CX.out _ XB)
            | (fail))
        all_goals clear T1 hkA hkB hX XA XB FA FB c0 c1 c2 k0 k1 k2
        all_goals go_wp2
        all_goals go_roundw
        all_goals first
          | exact ⟨k + 1, by omega, by omega, by go_num, by rw [hsn'.out]; exact TA.one, by rw [hsn'.out]; exact TA.two, TA.bel⟩
          | exact ⟨k + 1, by omega, by omega, by go_num, by rw [hsn'.out]; exact TB.two, by rw [hsn'.out]; exact TB.one, TB.bel⟩
          | (simp [intOf]; omega)
    · have hend : l.take k = l.take 12 ∧ (l.take 12).length = k := by
        rcases Nat.lt_or_ge k 12 with h1 | h1
        · have hkl : k = l.length := by omega
          subst hkl
          rw [List.take_of_length_le (by omega), List.take_of_length_le (by omega)]
          exact ⟨rfl, rfl⟩
        · obtain rfl : k = 12 := by omega
          exact ⟨rfl, by rw [List.length_take]; omega⟩
      obtain ⟨us, hus⟩ : ∃ us, us = (l.take 12).map NUpd.upd := ⟨_, rfl⟩
      have hul : us.length = k := by rw [hus, List.length_map]; exact hend.2
      rw [hend.1, ← hus, ← hul] at hA hB
      have HA := Lib.hid (own_base hA hws)
      have HB := Lib.hid (own_base hB hws)
      have HU := Lib.hid hus
      have HL := Lib.hid hul
      have HW := Lib.hid (hW0.trans (hbl.mono hws))
      clear hend hus hul hA hB HC KI hN
      rcases Nat.lt_or_ge k n with h1 | h1
      · obtain rfl : k = 12 := by omega
        go_wp2
        go_ret2
        exact ⟨A1, cap1, A2, cap2, us, HU.out, by rw [HL.out]; rfl, HA.out, HB.out, HW.out⟩
      · obtain rfl : k = n := by omega
        go_wp2
        go_ret2
        exact ⟨A1, cap1, A2, cap2, us, HU.out, by rw [HL.out]; rfl, HA.out, HB.out, HW.out⟩
end Go.Proofs.YtlkfnhcnfjdgbaaDoor
