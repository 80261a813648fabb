/- container/heap over spots: the methods Push and Pop, walked. -/
import Derived.Test.YtejokbfejkkpmaaDoorHc
import Derived.Deep.RegionHeld3
import Derived.BigQuiet
import Derived.BigRegion
import Derived.IntWalk
import Derived.Deep.RegionLaw
import Derived.Deep.AppendLies
namespace Go.Proofs.YtejokbfejkkpmaaDoor
open Go.RowKit Go.Maps Go.WideMaps
theorem info130 : (Tryd.prog.info? 130).map (fun i => (i.zero, i.size, i.bytes)) = some (some (.agg #[.int .i64 0, .int .i64 0, .string ⟨#[]⟩, .string ⟨#[]⟩]), 4, 48) := by kernel_rfl
/-- All but block R, and one row, is as it was. -/
def Fr (w w' : World) (R : Nat) (row : Option Nat) : Prop := w'.os = w.os ∧ w'.tape = w.tape ∧ w'.output = w.output ∧ w.heap.size ≤ w'.heap.size ∧ ∀ k, k < w.heap.size → k ≠ R → some k ≠ row → w'.heap[k]? = w.heap[k]?
theorem Fr.of {w w' : World} {R : Nat} {row : Option Nat} (h : w.grownBy w' row) : Fr w w' R row := ⟨h.os, h.tape, h.output, h.size, fun k hk _ hr => h.block k hk hr⟩
theorem Fr.trans {a w w' : World} {R : Nat} {row : Option Nat} (h : Fr a w R row) (k : Fr w w' R row) : Fr a w' R row :=
  ⟨k.1.trans h.1, k.2.1.trans h.2.1, k.2.2.1.trans h.2.2.1, Nat.le_trans h.2.2.2.1 k.2.2.2.1, fun i hi h1 h2 => (k.2.2.2.2 i (Nat.lt_of_lt_of_le hi h.2.2.2.1) h1 h2).trans (h.2.2.2.2 i hi h1 h2)⟩
theorem Fr.set (w : World) (R i : Nat) (v : Value) (row : Option Nat) : Fr w (w.setCell ⟨R, i, none⟩ v) R row :=
  ⟨rfl, rfl, rfl, by simp, fun k _ hr _ => Below.heap_setCell w ⟨R, i, none⟩ v k hr⟩
/-- The row's own variable: five cells. -/
def RBlk (w : World) (R : Nat) (cs : Array Value) : Prop := w.heap[R]? = some (.cells cs 114 (0, 0))
theorem RBlk.cell {w : World} {R : Nat} {cs : Array Value} (h : RBlk w R cs) (j : Nat) : w.cell? ⟨R, j, none⟩ = cs[j]? := cell_of_row w R j cs 114 (0, 0) h
theorem RBlk.frozen {w : World} {R : Nat} {cs : Array Value} (h : RBlk w R cs) (j : Nat) : w.frozen? ⟨R, j, none⟩ = false := Lib.frozen_of_heap h j
theorem RBlk.lt {w : World} {R : Nat} {cs : Array Value} (h : RBlk w R cs) : R < w.heap.size := (Array.getElem?_eq_some_iff.1 h).1
theorem RBlk.set {w : World} {R : Nat} {cs : Array Value} (h : RBlk w R cs) (i : Nat) (v : Value) : RBlk (w.setCell ⟨R, i, none⟩ v) R (cs.setIfInBounds i v) := by
  unfold RBlk at *
  show (w.heap.modify R _)[R]? = _
  rw [Array.getElem?_modify, if_pos rfl, h]; simp
theorem RBlk.old {w : World} {R : Nat} {cs : Array Value} (h : RBlk w R cs) (o : Obj) : RBlk (w.alloc o) R cs := heap_old h
theorem RBlk.drew {w : World} {R : Nat} {cs : Array Value} (h : RBlk w R cs) : RBlk w.drew R cs := h
theorem RBlk.apart {w : World} {R : Nat} {cs : Array Value} (h : RBlk w R cs) {B e size n : Nat} {v : Value} {xs : List Value} (k : w.ownsRow B e size v n xs) (he : e ≠ 114) : v.ownBlock ≠ some R := by
  rcases k.2 with ⟨rfl, _⟩ | ⟨g, c, cur, rfl, _, hg, _⟩
  · simp [Value.ownBlock]
  · intro e'
    simp only [Value.ownBlock, Option.some.injEq] at e'
    subst e'
    unfold RBlk at h
    rw [h] at hg
    simp only [Option.some.injEq, Obj.cells.injEq] at hg
    exact he hg.2.1.symm
theorem RBlk.kept {w w' : World} {R : Nat} {cs : Array Value} {row : Option Nat} (h : RBlk w R cs) (hg : w.grownBy w' row) (hne : row ≠ some R) : RBlk w' R cs := (hg.block R h.lt (fun e => hne e.symm)).trans h
def spV (x : Sp) : Value := .agg #[.int .i64 x.rank, .int .i64 x.place, .string (mk x.a), .string (mk x.b)]
theorem scells_snoc (xs : List Sp) (x : Sp) : scells (xs ++ [x]) = scells xs ++ [.int .i64 x.rank, .int .i64 x.place, .string (mk x.a), .string (mk x.b)] := by simp [scells]
set_option maxRecDepth 100000 in
set_option maxHeartbeats 4000000 in
theorem pushm_any (R : Nat) (A : Option Addr) (cap n : Nat) (P N Q M : Value) (xs : List Sp) (x : Sp) (base : Nat) (w : World) (hL : xs.length = n) (hn : n ≤ 100000) (hb : RBlk w R #[P, N, Q, M, .slice A n cap])
    (h : w.ownsRow base 130 4 (.slice A n cap) n (scells xs)) (hB : base ≤ w.heap.size) :
    Calls Tryd.prog 143 #[.pointer (some ⟨R, 4, none⟩), .iface 130 (spV x)] w fun e w' => e = .returned (.tuple #[]) ∧
      ∃ g cap', RBlk w' R #[P, N, Q, M, .slice (some ⟨g, 0, none⟩) (n + 1) cap'] ∧ w'.ownsRow base 130 4 (.slice (some ⟨g, 0, none⟩) (n + 1) cap') (n + 1) (scells (xs ++ [x])) ∧ Fr w w' R (Value.slice A n cap).ownBlock ∧ ((Value.slice A n cap).ownBlock = some g ∨ w.heap.size ≤ g) := by
  obtain ⟨i0, hi, hz0, hz1, hz2⟩ := info_parts info130
  have hc := hb.cell 4
  simp at hc
  have hap := hb.apart h (by decide)
  have HS := Lib.hid (scells_snoc xs x)
  have hta : ∀ (V : Value) (w : World), (Instr.typeAssert (.iface 130 V) 20 130 false).run Tryd.prog w = .ok V w := fun _ _ => by kernel_rfl
  unfold spV
  go_enter Tryd.func143, Tryd.ntmps143
  go_wp2_with fail
  have hca : ∀ o : Obj, (w.alloc o).cell? ⟨R, 4, none⟩ = some (.slice A n cap) := fun o => by rw [(hb.old o).cell 4]; rfl
  have T0 : RBlk w R #[P, N, Q, M, .slice A n cap] ∧ w.ownsRow base 130 4 (.slice A n cap) n (scells xs) ∧ base ≤ w.heap.size := ⟨hb, h, hB⟩
  clear hb h hB
  go_region_law
    (first
      | (refine step_append_lies _ (by rfl) (.tmp 7) (.tmp 10) 112 (by rfl) base 130 i0 _ 4 48 Tryd.underlying112 hi hz0 hz1 hz2 (by rfl) (by omega) (.slice A n cap) n (scells xs) (by rfl)
          (by first | exact T0.2.1.alloc _ | exact (T0.2.1.alloc _).drew | exact T0.2.1.drew.alloc _ | exact (T0.2.1.drew.alloc _).drew) ⟨w.heap.size, 0, none⟩ 1 1 [.int .i64 x.rank, .int .i64 x.place, .string (mk x.a), .string (mk x.b)] (by rfl) rfl
          (World.news_of_block (cs := #[.int .i64 x.rank, .int .i64 x.place, .string (mk x.a), .string (mk x.b)]) (heap_new _ _ _ (by first | rfl | (simp; done)))) (by simp [Value.oneCell']) (by omega) (by simp only [maxLen]; omega) (by omega) (by have := T0.2.2; simp; omega) (w.heap.size + 1) (by simp) ?_
         intro g c1 w1 hown hg hat hlt
         have hb1 := (T0.1.old _).drew.kept hg hap
         have hc1 := hb1.cell 4
         have hf1 := hb1.frozen 4
         simp at hc1)
      | (fail))
  all_goals
    have hr1 := hown.kept (grown_set w1 R 4 (.slice (some ⟨g, 0, none⟩) (n + 1) c1)) (.inr (hb1.apart hown (by decide)))
    have hs1 := hb1.set 4 (.slice (some ⟨g, 0, none⟩) (n + 1) c1)
    have hfr := (Fr.of (R := R) hg).trans (Fr.set w1 R 4 (.slice (some ⟨g, 0, none⟩) (n + 1) c1) _)
    rw [← HS.out] at hr1
    have hfa := (Fr.of (R := R) (grown_trans (World.grownBy_alloc w (.cells #[.int .i64 x.rank, .int .i64 x.place, .string (mk x.a), .string (mk x.b)] 130) (Value.slice A n cap).ownBlock) (grown_drew _ _))).trans hfr
    have hat' : (Value.slice A n cap).ownBlock = some g ∨ w.heap.size ≤ g := by
      rcases hat with h | h
      · exact .inl h
      · exact .inr (by omega)
    clear hg hown hat hb1 hc1 hf1 hfr T0
    go_end0
    exact ⟨rfl, g, c1, by simpa using hs1, hr1, hfa, hat'⟩
theorem own_prefix {w : World} {b size : Nat} {e : TypeId} {A : Option Addr} {n cap c : Nat} {xs : List Value} (h : w.ownsRow b e size (.slice A n cap) n xs) (hc : c ≤ n) : w.ownsRow b e size (.slice A c cap) c (xs.take (c * size)) := by
  have hl : (xs.take (c * size)).length = c * size := by
    rw [List.length_take, h.1]
    exact Nat.min_eq_left (Nat.mul_le_mul_right _ hc)
  refine ⟨hl, ?_⟩
  rcases h.2 with ⟨hv, h0⟩ | ⟨g, cap', cur, hv, h1, h2, h3, h4, h5, h6⟩
  · injection hv with hA _ hcap
    subst hA; subst hcap
    have : c = 0 := by omega
    subst this
    exact .inl ⟨rfl, rfl⟩
  · injection hv with hA _ hcap
    subst hA; subst hcap
    refine .inr ⟨g, cap, cur, rfl, h1, h2, by omega, h4, h5, ?_⟩
    rw [← h6, List.take_take, Nat.min_eq_left (Nat.mul_le_mul_right _ hc)]
theorem scells_take (xs : List Sp) : ∀ n, (scells xs).take (n * 4) = scells (xs.take n) := by
  induction xs with
  | nil => intro n; simp [scells]
  | cons a l ih =>
    intro n
    cases n with
    | zero => simp [scells]
    | succ n =>
      have e1 : (n + 1) * 4 = n * 4 + 1 + 1 + 1 + 1 := by omega
      have := ih n
      rw [e1]
      simp only [scells, List.flatMap_cons, List.take_succ_cons, List.cons_append, List.nil_append] at this ⊢
      rw [this]
set_option maxRecDepth 100000 in
set_option maxHeartbeats 4000000 in
theorem popm_any (R : Nat) (A : Option Addr) (cap n : Nat) (P N Q M : Value) (xs : List Sp) (base : Nat) (w : World) (hL : xs.length = n + 1) (hn : n ≤ 100000) (hb : RBlk w R #[P, N, Q, M, .slice A (n + 1) cap])
    (h : w.ownsRow base 130 4 (.slice A (n + 1) cap) (n + 1) (scells xs)) :
    Calls Tryd.prog 142 #[.pointer (some ⟨R, 4, none⟩)] w fun e w' => e = .returned (.iface 130 (spV (xs.getD n Sp.nul))) ∧
      RBlk w' R #[P, N, Q, M, .slice A n cap] ∧ w'.ownsRow base 130 4 (.slice A n cap) n (scells (xs.take n)) ∧ Fr w w' R (Value.slice A (n + 1) cap).ownBlock := by
  have hap := hb.apart h (by decide)
  obtain ⟨g, c, hv, _, hcl⟩ := h.form (by omega)
  injection hv with hA _ hc
  subst hA
  subst hc
  have hc := hb.cell 4
  have hf := hb.frozen 4
  simp at hc
  obtain ⟨a0, a1, a2, a3⟩ := scells_at xs n (by omega)
  have x0 := h.cellAt (n * 4) (by omega)
  have x1 := h.cellAt (n * 4 + 1) (by omega)
  have x2 := h.cellAt (n * 4 + 2) (by omega)
  have x3 := h.cellAt (n * 4 + 3) (by omega)
  rw [a0] at x0
  rw [a1] at x1
  rw [a2] at x2
  rw [a3] at x3
  rw [getD_at xs n (by omega)]
  obtain ⟨x, hx⟩ : ∃ x, xs[n] = x := ⟨_, rfl⟩
  rw [hx] at x0 x1 x2 x3 ⊢
  have hrow := own_prefix h (Nat.le_succ n)
  rw [scells_take] at hrow
  have T0 : RBlk w R #[P, N, Q, M, .slice (some ⟨g, 0, none⟩) (n + 1) cap] ∧ w.ownsRow base 130 4 (.slice (some ⟨g, 0, none⟩) n cap) n (scells (xs.take n)) := ⟨hb, hrow⟩
  have hcap : n ≤ cap := by
    rcases h.2 with ⟨h1, _⟩ | ⟨g', cap', cur, h1, h2, h3, h4, h5, h6, h7⟩
    · cases h1
    · injection h1 with h8 _ h9
      omega
  have n0 : (0 : Int) ≤ (n : Int) := by omega
  have n1 : (n : Int) ≤ 100000 := by omega
  have hca : ∀ o : Obj, (w.alloc o).cell? ⟨R, 4, none⟩ = some (.slice (some ⟨g, 0, none⟩) (n + 1) cap) := fun o => by rw [(hb.old o).cell 4]; rfl
  have old : ∀ (j : Nat) (v : Value) (o : Obj), w.cell? ⟨g, j, none⟩ = some v → (w.alloc o).cell? ⟨g, j, none⟩ = some v := fun j v o hh => (World.cell?_of_block ((World.grownBy_alloc w o none).block g hcl (by simp))).trans hh
  have y0 := fun o => old _ _ o x0
  have y1 := fun o => old _ _ o x1
  have y2 := fun o => old _ _ o x2
  have y3 := fun o => old _ _ o x3
  have hw : IntKind.i64.wrap (n : Int) = n := IntWalk.i64_in _ (by omega)
  clear hb hrow h a0 old a1 a2 a3 hx hL
  unfold spV
  go_enter Tryd.func142, Tryd.ntmps142
  go_wp2_with fail
  go_region
  clear y0 y1 y2 y3 x0 x1 x2 x3
  obtain ⟨w1, hw1⟩ : ∃ w1, (w.alloc (Obj.cells #[Value.int IntKind.i64 x.rank, Value.int IntKind.i64 x.place, Value.string (mk x.a), Value.string (mk x.b)] 130)) = w1 := ⟨_, rfl⟩
  have T1 : RBlk w1 R #[P, N, Q, M, .slice (some ⟨g, 0, none⟩) (n + 1) cap] ∧ w1.ownsRow base 130 4 (.slice (some ⟨g, 0, none⟩) n cap) n (scells (xs.take n)) := by rw [← hw1]; exact ⟨T0.1.old _, T0.2.alloc _⟩
  have z0 := cell_of_row w1 w.heap.size 0 _ _ _ (by rw [← hw1]; exact heap_alloc_new w _)
  have z1 := cell_of_row w1 w.heap.size 1 _ _ _ (by rw [← hw1]; exact heap_alloc_new w _)
  have z2 := cell_of_row w1 w.heap.size 2 _ _ _ (by rw [← hw1]; exact heap_alloc_new w _)
  have z3 := cell_of_row w1 w.heap.size 3 _ _ _ (by rw [← hw1]; exact heap_alloc_new w _)
  have hfr1 := Fr.of (R := R) (World.grownBy_alloc w (Obj.cells #[Value.int IntKind.i64 x.rank, Value.int IntKind.i64 x.place, Value.string (mk x.a), Value.string (mk x.b)] 130) (some g))
  have hne : ¬ w.heap.size = R := fun e => by have := T0.1.lt; omega
  rw [hw1] at hfr1
  rw [hw1]
  have c1 := T1.1.cell 4
  have f1 := T1.1.frozen 4
  simp at c1 z0 z1 z2 z3
  clear hw1 hca T0 hc hf
  go_wp2_with fail
  go_region
  go_wp2
  go_ret
  have hr := own_drew (T1.2.kept (grown_set w1 R 4 (.slice (some ⟨g, 0, none⟩) n cap)) (.inr (T1.1.apart T1.2 (by decide))))
  have hs := T1.1.set 4 (.slice (some ⟨g, 0, none⟩) n cap)
  simp at hs
  exact ⟨rfl, hs, hr, hfr1.trans (Fr.set w1 R 4 _ _)⟩
end Go.Proofs.YtejokbfejkkpmaaDoor
