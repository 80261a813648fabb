/- space.Take, walked. -/
import Derived.Test.YtcmcdddnckcpcaaGreatDoorTp
import Derived.Test.YtcmcdddnckcpcaaGreatDoorOt
import Derived.Test.YtcmcdddnckcpcaaGreatDoorDw
namespace Go.Proofs.YtcmcdddnckcpcaaGreatDoor
open Go.RowKit Go.Shelf
attribute [local go_sem] Oper.semAt_some
theorem block_lt {w : World} {g : Nat} {o : Obj} (h : w.heap[g]? = some o) : g < w.heap.size := (Array.getElem?_eq_some_iff.1 h).1
theorem Blk.boxed {W : World} {b : Nat} {v : Value} {t : TypeId} (h : Boxed W b t v) : Blk W b #[v] t := h
/-- What Take's own variables hold between two rounds: the space, the result, out, left. -/
def TSt (w : World) (n : Int) (X : ByteArray) (v : Value) (k : Int) (m : Nat) (xs : List Value) (W : World) : Prop :=
  Blk W w.heap.size #[.int .i64 n, .string X] 76 ∧ Blk W (w.heap.size + 1) #[.int .i64 0, .string ⟨#[]⟩] 76 ∧ Blk W (w.heap.size + 1 + 1) #[v] 67 ∧ Blk W (w.heap.size + 1 + 1 + 1) #[.int .i64 k] 3 ∧ W.ownsRow w.heap.size 90 2 v m xs ∧ Below w.heap.size w W
theorem TSt.own {w : World} {n : Int} {X : ByteArray} {v : Value} {k : Int} {m : Nat} {xs : List Value} {W W' : World} {row : Option Nat} (h : TSt w n X v k m xs W) (hg : W.grownBy W' row) (hr : ∀ r, row = some r → w.heap.size ≤ r ∧ ∃ o : Obj, W.heap[r]? = some o ∧ o.isCells = false) : TSt w n X v k m xs W' := by
  obtain ⟨h1, h2, h3, h4, h5, h6⟩ := h
  have hr2 := fun r e => (hr r e).2
  refine ⟨(grownBy_keeps_cells hg hr2 h1 rfl).trans h1, (grownBy_keeps_cells hg hr2 h2 rfl).trans h2, (grownBy_keeps_cells hg hr2 h3 rfl).trans h3, (grownBy_keeps_cells hg hr2 h4 rfl).trans h4, h5.kept hg ?_, h6.grown hg h6.size (fun g e => (hr g e).1)⟩
  rcases h5.2 with ⟨rfl, _⟩ | ⟨g, cap, cur, rfl, _, hgb, _⟩
  · exact .inl rfl
  · refine .inr fun e' => ?_
    obtain ⟨o, ho, hc⟩ := hr2 g (by simpa [Value.ownBlock] using e'.symm)
    rw [hgb] at ho; cases ho; cases hc
theorem info90 : (Tryz.prog.info? 90).map (fun i => (i.zero, i.size, i.bytes)) = some (some (.agg #[.int .i64 0, .int .i64 0]), 2, 16) := by kernel_rfl
theorem TSt.new (w : World) (n k : Int) (X : ByteArray) : TSt w n X (.slice none 0 0) k 0 [] ((((w.alloc (.cells #[.int .i64 n, .string X] 76)).alloc (.cells #[.int .i64 0, .string ⟨#[]⟩] 76)).alloc (.cells #[.slice none 0 0] 67)).alloc (.cells #[.int .i64 k] 3)) := by
  refine ⟨?_, ?_, ?_, ?_, World.ownsRow_nil _ _ _ _, ((((Below.refl _ _).alloc (Nat.le_refl _) _).alloc (by simp) _).alloc (by simp <;> omega) _).alloc (by simp <;> omega) _⟩
  · exact (((Blk.new w _ _).alloc _).alloc _).alloc _
  · have := ((Blk.new (w.alloc (.cells #[.int .i64 n, .string X] 76)) #[.int .i64 0, .string ⟨#[]⟩] 76).alloc (.cells #[.slice none 0 0] 67)).alloc (.cells #[.int .i64 k] 3)
    rwa [World.size_alloc] at this
  · have := (Blk.new ((w.alloc (.cells #[.int .i64 n, .string X] 76)).alloc (.cells #[.int .i64 0, .string ⟨#[]⟩] 76)) #[.slice none 0 0] 67).alloc (.cells #[.int .i64 k] 3)
    simpa using this
  · have := Blk.new (((w.alloc (.cells #[.int .i64 n, .string X] 76)).alloc (.cells #[.int .i64 0, .string ⟨#[]⟩] 76)).alloc (.cells #[.slice none 0 0] 67)) #[.int .i64 k] 3
    simpa using this
theorem round_end {w W W2 w1 : World} {N : Int} {XX : ByteArray} {v v' : Value} {k k' : Int} {n m : Nat} {xs ys : List Value} {X : Nat} {cX : Array Value} {u : Value} {T : Obj} (hs : TSt w N XX v k n xs W2) (hk : KeepCells 76 (w.heap.size + 1 + 1 + 1 + 1) W W2)
    (hx : W2.heap[X]? = some (.cells cX 90)) (hX : w.heap.size + 1 + 1 + 1 < X) (hne : v.ownBlock ≠ some X) (hown1 : w1.ownsRow w.heap.size 90 2 v' m ys) (hgr1 : ((W2.setCell ⟨X, 1, none⟩ u).drew.alloc T).grownBy w1 v.ownBlock) :
    KeepsOthers W2 ((w1.setCell ⟨w.heap.size + 1 + 1, 0, none⟩ v').setCell ⟨w.heap.size + 1 + 1 + 1, 0, none⟩ (.int .i64 k')) ∧
    KeepCells 76 (w.heap.size + 1 + 1 + 1 + 1) W ((w1.setCell ⟨w.heap.size + 1 + 1, 0, none⟩ v').setCell ⟨w.heap.size + 1 + 1 + 1, 0, none⟩ (.int .i64 k')) ∧
    TSt w N XX v' k' m ys ((w1.setCell ⟨w.heap.size + 1 + 1, 0, none⟩ v').setCell ⟨w.heap.size + 1 + 1 + 1, 0, none⟩ (.int .i64 k')) := by
  obtain ⟨h1, h2, h3, h4, h5, h6⟩ := hs
  obtain ⟨W3, hW3⟩ : ∃ W3, W2.setCell ⟨X, 1, none⟩ u = W3 := ⟨_, rfl⟩
  rw [hW3] at hgr1
  have oth : ∀ j, j ≠ X → W3.heap[j]? = W2.heap[j]? := fun j hj => by rw [← hW3]; exact Below.heap_setCell _ _ _ _ hj
  have z3 : W3.heap.size = W2.heap.size := by rw [← hW3]; simp
  have o5 : W3.ownsRow w.heap.size 90 2 v n xs := by
    rw [← hW3]
    exact h5.kept (w' := W2.setCell ⟨X, 1, none⟩ u) (row := some X) ⟨rfl, rfl, rfl, by simp, fun j _ hj => Below.heap_setCell _ _ _ _ (fun e => hj (by rw [e]))⟩ (.inr hne)
  have row : ∀ g, v.ownBlock = some g → w.heap.size ≤ g ∧ ∃ cs fr, (W3.drew.alloc T).heap[g]? = some (.cells cs 90 fr) := fun g hg => by
    rcases o5.2 with ⟨rfl, _⟩ | ⟨g', cap, cur, rfl, hb, hh, _⟩
    · simp [Value.ownBlock] at hg
    · obtain rfl : g' = g := by simpa [Value.ownBlock] using hg
      exact ⟨hb, cur, _, (Below.heap_alloc W3.drew T g' (block_lt hh)).trans hh⟩
  have old : ∀ j, j < W3.heap.size → v.ownBlock ≠ some j → w1.heap[j]? = W3.heap[j]? := fun j hj hne' => (hgr1.block j (by simp; omega) (fun e => hne' e.symm)).trans (Below.heap_alloc _ _ _ hj)
  have nb : ∀ (j : Nat) (cs : Array Value) (t : TypeId), W3.heap[j]? = some (.cells cs t) → t ≠ 90 → v.ownBlock ≠ some j := fun j cs t hj ht e => by
    rcases o5.2 with ⟨rfl, _⟩ | ⟨g', cap, cur, rfl, hb, hh, _⟩
    · simp [Value.ownBlock] at e
    · obtain rfl : g' = j := by simpa [Value.ownBlock] using e
      rw [hj] at hh; cases hh; exact ht rfl
  have a1 := (oth _ (by omega)).trans h1
  have a2 := (oth _ (by omega)).trans h2
  have a3 : W3.heap[w.heap.size + 1 + 1]? = _ := (oth _ (by omega)).trans h3
  have a4 : W3.heap[w.heap.size + 1 + 1 + 1]? = _ := (oth _ (by omega)).trans h4
  have b1 := (old _ (block_lt a1) (nb _ _ _ a1 (by decide))).trans a1
  have b2 := (old _ (block_lt a2) (nb _ _ _ a2 (by decide))).trans a2
  have b3 := (old _ (block_lt a3) (nb _ _ _ a3 (by decide))).trans a3
  have b4 := (old _ (block_lt a4) (nb _ _ _ a4 (by decide))).trans a4
  have far : ∀ j, j ≠ w.heap.size + 1 + 1 → j ≠ w.heap.size + 1 + 1 + 1 → ((w1.setCell ⟨w.heap.size + 1 + 1, 0, none⟩ v').setCell ⟨w.heap.size + 1 + 1 + 1, 0, none⟩ (.int .i64 k')).heap[j]? = w1.heap[j]? := fun j h h' =>
    (Below.heap_setCell _ _ _ _ h').trans (Below.heap_setCell _ _ _ _ h)
  have bw1 : Below w.heap.size w w1 := ((((by rw [← hW3]; exact h6.setCell (p := ⟨X, 1, none⟩) (by simp; omega) _ : Below w.heap.size w W3).drew).alloc (by simp; have := h6.size; omega) T).grown hgr1 (by simp; have := h6.size; omega) (fun g e => (row g e).1))
  refine ⟨?_, ?_, ?_⟩
  · refine ((((KeepsOthers.setCell W2 ⟨X, 1, none⟩ u).trans ?_).trans (KeepsOthers.of_grownBy hgr1 (fun j o e ho => ?_))).trans (KeepsOthers.setCell _ _ _)).trans (KeepsOthers.setCell _ _ _)
    · rw [hW3]; exact (KeepsOthers.drew W3).trans (KeepsOthers.alloc _ _)
    · obtain ⟨_, cs, fr, hc⟩ := row j e
      rw [hc] at ho; cases ho; rfl
  · refine (((((by rw [← hW3]; exact hk.setCell (p := ⟨X, 1, none⟩) (.inr ⟨_, _, _, hx, by decide⟩) u : KeepCells 76 _ W W3).drew).alloc T).grown hgr1 (fun g e => ?_)).setCell (p := ⟨w.heap.size + 1 + 1, 0, none⟩) (.inl (by simp)) _).setCell (p := ⟨w.heap.size + 1 + 1 + 1, 0, none⟩) (.inl (by simp)) _
    obtain ⟨_, cs, fr, hc⟩ := row g e
    exact ⟨cs, 90, fr, hc, by decide⟩
  · refine ⟨(far _ (by omega) (by omega)).trans b1, (far _ (by omega) (by omega)).trans b2, ?_, ?_, ?_, (bw1.setCell (p := ⟨_, _, none⟩) (by simp; omega) _).setCell (p := ⟨_, _, none⟩) (by simp; omega) _⟩
    · refine (Below.heap_setCell _ _ _ _ (by simp)).trans ?_
      exact Boxed.set v' b3
    · exact Boxed.set (.int .i64 k') (v := .int .i64 k) ((Below.heap_setCell _ _ _ _ (by simp)).trans b4)
    · have e1 : Boxed w1 (w.heap.size + 1 + 1) 67 v := b3
      have e2 : Boxed w1 (w.heap.size + 1 + 1 + 1) 3 (.int .i64 k) := b4
      have r1 := hown1.kept (grownBy_setCell' w1 (w.heap.size + 1 + 1) v') (.inr (e1.not_row (by decide) hown1).symm)
      exact r1.kept (grownBy_setCell' _ (w.heap.size + 1 + 1 + 1) _) (.inr (Boxed.not_row (t := 3) (u := .int .i64 k) (B := w.heap.size + 1 + 1 + 1) ((Below.heap_setCell _ _ _ _ (by simp)).trans b4) (by decide) r1).symm)
set_option maxRecDepth 100000 in
set_option maxHeartbeats 4000000 in
theorem take_any (T : List Bool) (k most : Nat) (w : World) (hn : T.length ≤ 4096) (hk : k ≤ 2199023255552) (hk0 : 0 < k) (hm : most ≤ 2199023255552) : Calls Tryz.prog 39 #[spv T, .int .i64 k, .int .i64 most] w fun e w' =>
    (∀ l T', takeS T k most = some (l, T') → ∃ A c, e = .returned (.tuple #[.slice A l.length c, spv T', .int .i64 0]) ∧ w'.ownsRow w.heap.size 90 2 (.slice A l.length c) l.length (ecells l)) ∧
    (takeS T k most = none → e = .returned (.tuple #[.slice none 0 0, .agg #[.int .i64 0, .string ⟨#[]⟩], .int .i64 8])) ∧ Below w.heap.size w w' := by
  have HST := Lib.hid (fun w => free_stops T w hn)
  have HRG := Lib.hid (runs_all T)
  have HRL := Lib.hid (runs_length_sum T 0 0)
  have HTC := Lib.hid (take_claims T k)
  have HCL := Lib.hid (fun (l : List (Nat × Nat)) (A : Option Addr) (cap : Nat) (w : World) (hl : Lies w A (ecells l)) hb hll => claim_any T l A cap w hn hl hb hll)
  unfold spv at HST HCL ⊢
  obtain ⟨n, hn2⟩ : ∃ n, T.length = n := ⟨_, rfl⟩
  obtain ⟨X, hX⟩ : ∃ X, mk (packB T) = X := ⟨_, rfl⟩
  obtain ⟨RR, hRR⟩ : ∃ R, runs T 0 0 = R := ⟨_, rfl⟩
  rw [hX, hn2] at HST HCL
  rw [hn2, hX]
  rw [hn2, hRR] at HRG
  rw [hRR] at HST HRL HTC
  rw [hn2] at HRL HTC hn
  have HTS := Lib.hid (show takeS T k most = if 0 < (trimR RR k).2 ∨ most < (trimR RR k).1.length then none else (turnS true T (trimR RR k).1).map fun T' => ((trimR RR k).1, T') by unfold takeS; rw [hRR])
  clear hX hn2 hRR
  obtain ⟨TS, hTS⟩ : ∃ t, takeS T k most = t := ⟨_, rfl⟩
  rw [hTS] at HTS ⊢
  clear hTS
  have k0 : (0 : Int) ≤ (k : Int) := by omega
  have k1 : (0 : Int) < (k : Int) := by omega
  have m0 : (0 : Int) ≤ (most : Int) := by omega
  refine (callsIn_wide (n := 6)).1 ?_
  refine callsIn_of_wp_marks Tryz.func39 rfl trivial ?_ rfl
  simp only [Tryz.ntmps39, List.size_toArray, List.length_cons, List.length_nil, Nat.reduceAdd, Nat.reduceSub, Array.replicate_succ, Array.replicate_zero, List.push_toArray, List.append_toArray, List.nil_append, List.cons_append]
  refine wpIn_wide.2 ?_
  go_wp2
  have hT0 := TSt.new w n k X
  obtain ⟨W0, hW0⟩ : ∃ u, (((w.alloc (.cells #[.int .i64 n, .string X] 76)).alloc (.cells #[.int .i64 0, .string ⟨#[]⟩] 76)).alloc (.cells #[.slice none 0 0] 67)).alloc (.cells #[.int .i64 k] 3) = u := ⟨_, rfl⟩
  rw [hW0] at hT0 ⊢
  obtain ⟨H, hH⟩ : ∃ H, w.heap.size = H := ⟨_, rfl⟩
  have HH := Lib.hid hH
  simp only [hH]
  have hb0 := hT0.2.2.2.2.2
  have hsz0 := hT0.2.2.2.1.lt
  rw [hH] at hb0 hsz0
  clear hW0
  refine (wpIn_wide (n := 6)).1 ?_
  refine wpIn_range_first rfl (by decide) (gf := 77) (first := #[.agg #[.int .i64 n, .string X]]) (lb := #[]) rfl trivial (enters_of Tryz.func77 (by kernel_rfl) rfl) (encs := encX) (HST.out W0)
    KeepCells.trans (fun W l o o' _ h ho _ => KeepCells.putObj W l o o' (KeepCells.refl _ _ _) h ho) (Below.refl _ _) (fun _ => rfl)
    (fun pre W => sumN pre < k ∧ pre <+: RR ∧ ∃ v, TSt w n X v ((k - sumN pre : Nat) : Int) pre.length (ecells pre) W)
    (fun c pre W => c = .exit 0 ∧ ∃ v pre0 x0, pre = pre0 ++ [x0] ∧ sumN pre0 < k ∧ k ≤ sumN pre0 + x0.2 ∧ TSt w n X v 0 pre.length (ecells (pre0 ++ [(x0.1, k - sumN pre0)])) W)
    ?hI ?hIx ⟨by simpa [sumN] using hk0, List.nil_prefix, _, hT0⟩ ?hround ?hdone ?hstop
  case hI =>
    exact fun s W W' row ⟨h1, h2, v, h⟩ hg hr => ⟨h1, h2, v, h.own hg (fun r e => ⟨by have := (hr r e).1; rw [hH]; omega, (hr r e).2⟩)⟩
  case hIx =>
    exact fun c s W W' row ⟨h0, v, p0, x0, h1, h2, h3, h⟩ hg hr => ⟨h0, v, p0, x0, h1, h2, h3, h.own hg (fun r e => ⟨by have := (hr r e).1; rw [hH]; omega, (hr r e).2⟩)⟩
  case hround =>
    rintro l pre x W ⟨hlt, hpf, v, hs⟩ hR
    have hxin := HRG.out.2 x (hR.subset (by simp))
    obtain ⟨hx1, hx2, _⟩ := hxin
    obtain ⟨L, hL⟩ : ∃ L, k - sumN pre = L := ⟨_, rfl⟩
    rw [hL] at hs
    obtain ⟨m, hmm⟩ : ∃ m, min x.2 L = m := ⟨_, rfl⟩
    have hL0 : 0 < L := by omega
    have hm1 : 1 ≤ m := by omega
    have hmin : min (x.2 : Int) (L : Int) = (m : Int) := by omega
    have hsub : (L : Int) - (m : Int) = ((L - m : Nat) : Int) := by omega
    obtain ⟨a, b⟩ := x
    simp only at hx1 hx2 hmm hmin
    have hpl : pre.length ≤ 5000 := by
      have h1 := hpf.length_le
      have h2 := HRL.out.1
      omega
    have HINF := Lib.hid (And.intro hlt (And.intro hR (And.intro hL (And.intro hmm (And.intro hL0 (And.intro hm1 (And.intro hx1 hx2)))))))
    have L0 : (0 : Int) ≤ (L : Int) := by omega
    have L1 : (L : Int) ≤ 2199023255552 := by omega
    have m0 : (0 : Int) ≤ (m : Int) := by omega
    have mL : (m : Int) ≤ (L : Int) := by omega
    have b0 : (0 : Int) ≤ (b : Int) := by omega
    have b1 : (b : Int) ≤ 4096 := by omega
    have a1 : (a : Int) ≤ 4096 := by omega
    clear hlt hpf hR hL hmm hL0 hm1 hx1 hx2 HST HRL HTC HCL HTS HRG hT0
    gi_wp2
    refine ⟨KeepsOthers.alloc _ _, ?_⟩
    rintro l' o' hl' ⟨o, ho, hc, hw⟩
    have hl2 : w.heap.size ≤ l' := by
      rw [hH]
      omega
    have hx : ((W.alloc (.cells #[.int .i64 a, .int .i64 b] 90)).putObj l' o').heap[W.heap.size]? = some (.cells #[.int .i64 a, .int .i64 b] 90) := by
      have hne : l' ≠ W.heap.size := by rintro rfl; rw [heap_alloc_new] at ho; cases ho; cases hc
      exact (World.putObj_heap_other (by omega)).trans (heap_alloc_new _ _)
    have hs2 := (hs.own (World.grownBy_alloc W (.cells #[.int .i64 a, .int .i64 b] 90) none) (fun r e => by cases e)).own (grownBy_putObj' _ l' o') (fun r e => by cases e; exact ⟨hl2, o, ho, hc⟩)
    have hk2 : KeepCells 76 (H + 1 + 1 + 1 + 1) W ((W.alloc (.cells #[.int .i64 a, .int .i64 b] 90)).putObj l' o') := KeepCells.putObj _ _ _ _ ((KeepCells.refl _ _ _).alloc _) ho hc
    have hXl : w.heap.size + 1 + 1 + 1 < W.heap.size := hs.2.2.2.1.lt
    have hne2 : v.ownBlock ≠ some W.heap.size := fun e => by
      obtain ⟨c, fz, h⟩ := row_kind hs.2.2.2.2.1 _ e
      have := (Array.getElem?_eq_some_iff.1 h).1
      omega
    obtain ⟨W2, hW2⟩ : ∃ W2, (W.alloc (.cells #[.int .i64 a, .int .i64 b] 90)).putObj l' o' = W2 := ⟨_, rfl⟩
    obtain ⟨Y, hY⟩ : ∃ Y, W.heap.size = Y := ⟨_, rfl⟩
    rw [hW2] at hx hs2 hk2 ⊢
    rw [hY] at hx hXl hne2
    simp only [hY]
    have HS2 := Lib.hid hs2
    have HK2 := Lib.hid hk2
    have HX := Lib.hid hx
    have HNE := Lib.hid hne2
    obtain ⟨A, cp, rfl⟩ := row_form hs2.2.2.2.2.1
    have HSO := Lib.hid hs
    rw [hH] at hXl
    have c0 := Blk.cell (show Blk W2 Y _ _ from hx) 0
    have c1 := Blk.cell (show Blk W2 Y _ _ from hx) 1
    have f1 := Blk.frozen (show Blk W2 Y _ _ from hx) 1
    have d3 := hs2.2.2.1.cell 0
    have e3 := hs2.2.2.1.frozen 0
    have d4 := hs2.2.2.2.1.cell 0
    have e4 := hs2.2.2.2.1.frozen 0
    have z3 := hs2.2.2.1.lt
    have z4 := hs2.2.2.2.1.lt
    have zy := Blk.lt (show Blk W2 Y _ _ from hx)
    rw [hH] at d3 e3 d4 e4 z3 z4
    simp at c0 c1 d3 d4
    clear hs hs2 hk2 hx hne2 ho hc hw hl' hW2 hl2
    have mixed : Tryz.prog.follows Departure.mixedOrders = true := by kernel_rfl
    gi_wp2_with fail
    have hY0 : (W2.setCell ⟨Y, 1, none⟩ (.int .i64 (m : Int))).drew.cell? ⟨Y, 0, none⟩ = some (.int .i64 (a : Int)) := by
      have := Blk.cell (Blk.set (show Blk W2 Y _ _ from HX.out) 1 (.int .i64 (m : Int))) 0
      simpa using this
    have hY1 : (W2.setCell ⟨Y, 1, none⟩ (.int .i64 (m : Int))).drew.cell? ⟨Y, 1, none⟩ = some (.int .i64 (m : Int)) := by
      have := Blk.cell (Blk.set (show Blk W2 Y _ _ from HX.out) 1 (.int .i64 (m : Int))) 1
      simpa using this
    have hfar : ∀ (j i : Nat), j ≠ Y → (W2.setCell ⟨Y, 1, none⟩ (.int .i64 (m : Int))).drew.cell? ⟨j, i, none⟩ = W2.cell? ⟨j, i, none⟩ := fun j i hj => World.cell?_of_block (Below.heap_setCell _ _ _ _ hj)
    have hH3 := (hfar (H + 1 + 1) 0 (by omega)).trans d3
    have hH4 := (hfar (H + 1 + 1 + 1) 0 (by omega)).trans d4
    have hown : (W2.setCell ⟨Y, 1, none⟩ (.int .i64 (m : Int))).drew.ownsRow w.heap.size 90 2 (.slice A pre.length cp) pre.length (ecells pre) :=
      HS2.out.2.2.2.2.1.kept (w' := (W2.setCell ⟨Y, 1, none⟩ (.int .i64 (m : Int))).drew) (row := some Y) ⟨rfl, rfl, rfl, by simp, fun j _ hj => Below.heap_setCell _ _ _ _ (fun e => hj (by rw [e]))⟩ (.inr HNE.out)
    have hsz5 : w.heap.size ≤ (W2.setCell ⟨Y, 1, none⟩ (.int .i64 (m : Int))).drew.heap.size := by rw [hH]; simp; omega
    have hlY : Y < (W2.setCell ⟨Y, 1, none⟩ (.int .i64 (m : Int))).drew.heap.size := by simpa using zy
    have hl3 : H + 1 + 1 < (W2.setCell ⟨Y, 1, none⟩ (.int .i64 (m : Int))).drew.heap.size := by simpa using z3
    have hl4 : H + 1 + 1 + 1 < (W2.setCell ⟨Y, 1, none⟩ (.int .i64 (m : Int))).drew.heap.size := by simpa using z4
    have hfr3 : (W2.setCell ⟨Y, 1, none⟩ (.int .i64 (m : Int))).drew.heap[H + 1 + 1]? = some (.cells #[.slice A pre.length cp] 67 (0, 0)) := (Below.heap_setCell _ _ _ _ (by simp; omega)).trans (by have := HS2.out.2.2.1; rw [hH] at this; exact this)
    have hfr4 : (W2.setCell ⟨Y, 1, none⟩ (.int .i64 (m : Int))).drew.heap[H + 1 + 1 + 1]? = some (.cells #[.int .i64 (L : Int)] 3 (0, 0)) := (Below.heap_setCell _ _ _ _ (by simp; omega)).trans (by have := HS2.out.2.2.2.1; rw [hH] at this; exact this)
    have hfrY := Blk.set (show Blk W2 Y _ _ from HX.out) 1 (.int .i64 (m : Int))
    have hfrY : Blk (W2.setCell ⟨Y, 1, none⟩ (.int .i64 (m : Int))).drew Y #[.int .i64 a, .int .i64 m] 90 := by simp at hfrY; exact hfrY
    obtain ⟨d, hd⟩ : ∃ d, L - m = d := ⟨_, rfl⟩
    have HDD := Lib.hid hd
    have wd : IntKind.i64.wrap (d : Int) = (d : Int) := by rw [Go.IntWalk.i64_left, Go.IntWalk.wrap64_in _ (by omega)]
    rw [hd] at hsub
    clear hd
    refine wpIn_region_TR 8 9 (fun w' => w'.cell? ⟨Y, 0, none⟩ = some (.int .i64 (a : Int)) ∧ w'.cell? ⟨Y, 1, none⟩ = some (.int .i64 (m : Int))) (fun w' => w'.cell? ⟨H + 1 + 1, 0, none⟩ = some (.slice A pre.length cp)) (fun w' => w'.cell? ⟨H + 1 + 1 + 1, 0, none⟩ = some (.int .i64 (L : Int))) mixed (by kernel_rfl) (fun ⟨_, _, h⟩ => h) ?_
    change wpAnyT _ _ _ _ _ _ _ _ _ _ _ _ (W2.setCell ⟨Y, 1, none⟩ (.int .i64 (m : Int))).drew
    obtain ⟨W5, hW5⟩ : ∃ u, (W2.setCell ⟨Y, 1, none⟩ (.int .i64 (m : Int))).drew = u := ⟨_, rfl⟩
    have HW5 := Lib.hid hW5
    rw [hW5] at hY0 hY1 hH3 hH4 hown hsz5 hlY hl3 hl4 hfr3 hfr4 hfrY ⊢
    clear hfar hW5 c0 c1 f1 d3 e3 d4 e4 z3 z4 zy
    have HE0 : ∀ L' : Array Bool, HeldT 8 9 (fun w' => w'.cell? ⟨Y, 0, none⟩ = some (.int .i64 (a : Int)) ∧ w'.cell? ⟨Y, 1, none⟩ = some (.int .i64 (m : Int))) (fun w' => w'.cell? ⟨H + 1 + 1, 0, none⟩ = some (.slice A pre.length cp)) (fun w' => w'.cell? ⟨H + 1 + 1 + 1, 0, none⟩ = some (.int .i64 (L : Int))) L' W5 := fun L' => ⟨⟨hY0, hY1⟩, fun _ => hH3, fun _ => hH4⟩
    refine wpAnyT_take2 (i := 0) (v := .slice A pre.length cp) rfl (by decide) (by decide) rfl (by kernel_rfl) (by kernel_rfl) (by kernel_rfl) (by kernel_rfl) (by kernel_rfl) (fun c a w h => h) (.inl ⟨(by kernel_rfl), fun w' hS => ?_⟩) (HE0 _) ?_
    · have hS0 := hS.2; go_simp
    try go_simp
    refine wpAnyT_take (i := 1) (v := .agg #[.int .i64 a, .int .i64 m]) rfl (by decide) (by decide) (by kernel_rfl) (by kernel_rfl) (by kernel_rfl) (fun c a w h => h) (.inl ⟨(by kernel_rfl), fun w' hS => ?_⟩) (HE0 _) ?_
    · have hS0 := hS.1; have hS1 := hS.2; go_simp
    try go_simp
    refine wpAnyT_take (i := 5) (v := .pointer (some ⟨Y, 1, none⟩)) rfl (by decide) (by decide) (by kernel_rfl) (by kernel_rfl) (by kernel_rfl) (fun c a w h => h) (.inl ⟨(by kernel_rfl), fun w' hS => ?_⟩) (HE0 _) ?_
    · clear hS; go_simp
    try go_simp
    refine wpAnyT_take (i := 6) (v := .int .i64 m) rfl (by decide) (by decide) (by kernel_rfl) (by kernel_rfl) (by kernel_rfl) (fun c a w h => h) (.inl ⟨(by kernel_rfl), fun w' hS => ?_⟩) (HE0 _) ?_
    · have hS0 := hS.1; have hS1 := hS.2; go_simp
    try go_simp
    refine wpAnyT_take3 (i := 4) (v := .int .i64 L) rfl (by decide) (by decide) rfl (by kernel_rfl) (by kernel_rfl) (by kernel_rfl) (by kernel_rfl) (by kernel_rfl) (fun c a w h => h) (.inl ⟨(by kernel_rfl), fun w' hS => ?_⟩) (HE0 _) ?_
    · have hS0 := hS.2; go_simp
    try go_simp
    refine wpAnyT_take (i := 7) (v := .int .i64 (d : Int)) rfl (by decide) (by decide) (by kernel_rfl) (by kernel_rfl) (by kernel_rfl) (fun c a w h => h) (.inl ⟨(by kernel_rfl), fun w' hS => ?_⟩) (HE0 _) ?_
    · clear hS; go_simp
    try go_simp
    refine wpAnyT_all (rs := [2]) (by kernel_rfl) (by simp) ?_
    intro ix hix
    simp only [List.mem_cons, List.not_mem_nil, or_false] at hix
    subst hix
    unfold wpOp
    go_simp
    have hN := World.news_of_block (cs := #[.int .i64 a, .int .i64 m]) (heap_alloc_new W5 (.cells #[.int .i64 a, .int .i64 m] 90))
    have hown2 := World.ownsRow.alloc hown (.cells #[.int .i64 a, .int .i64 m] 90)
    have hB3 : Blk (W5.alloc (.cells #[.int .i64 a, .int .i64 m] 90)) (H + 1 + 1) #[.slice A pre.length cp] 67 := Blk.alloc hfr3 _
    have hB4 : Blk (W5.alloc (.cells #[.int .i64 a, .int .i64 m] 90)) (H + 1 + 1 + 1) #[.int .i64 L] 3 := Blk.alloc hfr4 _
    have hBY := Blk.alloc hfrY (.cells #[.int .i64 a, .int .i64 m] 90)
    have hsz6 : w.heap.size ≤ (W5.alloc (.cells #[.int .i64 a, .int .i64 m] 90)).heap.size := by simp; omega
    obtain ⟨Z, hZ⟩ : ∃ Z, W5.heap.size = Z := ⟨_, rfl⟩
    obtain ⟨W6, hW6⟩ : ∃ u, W5.alloc (.cells #[.int .i64 a, .int .i64 m] 90) = u := ⟨_, rfl⟩
    have HW6 := Lib.hid hW6
    rw [hZ] at hN
    rw [hW6] at hN hown2 hB3 hB4 hBY hsz6
    try rw [hZ]
    rw [hW6]
    clear hW6
    have x3 := hB3.cell 0
    have x4 := hB4.cell 0
    have y0 := hBY.cell 0
    have y1 := hBY.cell 1
    simp at x3 x4 y0 y1
    have HE1 : ∀ L' : Array Bool, HeldT 8 9 (fun w' => w'.cell? ⟨Y, 0, none⟩ = some (.int .i64 (a : Int)) ∧ w'.cell? ⟨Y, 1, none⟩ = some (.int .i64 (m : Int))) (fun w' => w'.cell? ⟨H + 1 + 1, 0, none⟩ = some (.slice A pre.length cp)) (fun w' => w'.cell? ⟨H + 1 + 1 + 1, 0, none⟩ = some (.int .i64 (L : Int))) L' W6 := fun L' => ⟨⟨y0, y1⟩, fun _ => x3, fun _ => x4⟩
    first | refine .inl ⟨HE1 _, ?_⟩ | refine ⟨HE1 _, ?_⟩
    refine wpAnyT_all (rs := [3]) (by kernel_rfl) (by simp) ?_
    intro ix hix
    simp only [List.mem_cons, List.not_mem_nil, or_false] at hix
    subst hix
    obtain ⟨i90, hi0, hi1, hi2, hi3⟩ := info_parts info90
    refine wpOp_of rfl rfl (wp_append_lies (P := Tryz.prog) W6 (.tmp 32) (.tmp 34) 67 rfl w.heap.size 90 i90 _ 2 16 Tryz.underlying67 hi0 hi1 hi2 hi3 (by rfl) (by decide) (.slice A pre.length cp) pre.length (ecells pre) (by rfl) hown2 ⟨Z, 0, none⟩ 1 1 [.int .i64 a, .int .i64 m] (by rfl) (by rfl) hN (by simp [Value.oneCell']) (by omega) (by unfold maxLen; omega) (by omega) hsz6 W6.heap.size rfl ?_)
    intro g3 c3 W7 hown3 hg3 hat3 _
    have hne3 := own_ne_blk hown2 hB3 (by decide)
    have hne4 := own_ne_blk hown2 hB4 (by decide)
    have hneY : (Value.slice A pre.length cp).ownBlock ≠ some Y := HNE.out
    have hB3' := hB3.grown hg3 hne3
    have hB4' := hB4.grown hg3 hne4
    have hBY' := hBY.grown hg3 hneY
    have x3' := hB3'.cell 0
    have x4' := hB4'.cell 0
    have y0' := hBY'.cell 0
    have y1' := hBY'.cell 1
    have f3 := hB3'.frozen 0
    have f4 := hB4'.frozen 0
    simp at x3' x4' y0' y1'
    
    have HE2 : ∀ L' : Array Bool, HeldT 8 9 (fun w' => w'.cell? ⟨Y, 0, none⟩ = some (.int .i64 (a : Int)) ∧ w'.cell? ⟨Y, 1, none⟩ = some (.int .i64 (m : Int))) (fun w' => w'.cell? ⟨H + 1 + 1, 0, none⟩ = some (.slice A pre.length cp)) (fun w' => w'.cell? ⟨H + 1 + 1 + 1, 0, none⟩ = some (.int .i64 (L : Int))) L' W7 := fun L' => ⟨⟨y0', y1'⟩, fun _ => x3', fun _ => x4'⟩
    refine ⟨HE2 _, ?_⟩
    try go_simp
    refine wpAnyT_all (rs := [8]) (by kernel_rfl) (by simp) ?_
    intro ix hix
    simp only [List.mem_cons, List.not_mem_nil, or_false] at hix
    subst hix
    unfold wpOp
    go_simp
    have hs8 : ∀ (j i : Nat), j ≠ H + 1 + 1 → (W7.setCell ⟨H + 1 + 1, 0, none⟩ (.slice (some ⟨g3, 0, none⟩) (pre.length + 1) c3)).cell? ⟨j, i, none⟩ = W7.cell? ⟨j, i, none⟩ := fun j i hj => World.cell?_of_block (Below.heap_setCell _ _ _ _ hj)
    have y0'' := (hs8 Y 0 (by omega)).trans y0'
    have y1'' := (hs8 Y 1 (by omega)).trans y1'
    have x4'' := (hs8 (H + 1 + 1 + 1) 0 (by omega)).trans x4'
    have f4' : (W7.setCell ⟨H + 1 + 1, 0, none⟩ (.slice (some ⟨g3, 0, none⟩) (pre.length + 1) c3)).frozen? ⟨H + 1 + 1 + 1, 0, none⟩ = false := Blk.frozen (show Blk (W7.setCell ⟨H + 1 + 1, 0, none⟩ (.slice (some ⟨g3, 0, none⟩) (pre.length + 1) c3)) (H + 1 + 1 + 1) _ _ from (Below.heap_setCell _ _ _ _ (by simp)).trans hB4') 0
    have HE3 : ∀ L' : Array Bool, L'.getD 8 false = true → HeldT 8 9 (fun w' => w'.cell? ⟨Y, 0, none⟩ = some (.int .i64 (a : Int)) ∧ w'.cell? ⟨Y, 1, none⟩ = some (.int .i64 (m : Int))) (fun w' => w'.cell? ⟨H + 1 + 1, 0, none⟩ = some (.slice A pre.length cp)) (fun w' => w'.cell? ⟨H + 1 + 1 + 1, 0, none⟩ = some (.int .i64 (L : Int))) L' (W7.setCell ⟨H + 1 + 1, 0, none⟩ (.slice (some ⟨g3, 0, none⟩) (pre.length + 1) c3)) := fun L' h8 => ⟨⟨y0'', y1''⟩, (fun e => by rw [h8] at e; cases e), fun _ => x4''⟩
    first | refine .inl ⟨HE3 _ (by kernel_rfl), ?_⟩ | refine ⟨HE3 _ (by kernel_rfl), ?_⟩
    refine wpAnyT_all (rs := [9]) (by kernel_rfl) (by simp) ?_
    intro ix hix
    simp only [List.mem_cons, List.not_mem_nil, or_false] at hix
    subst hix
    unfold wpOp
    go_simp
    have y0x : ((W7.setCell ⟨H + 1 + 1, 0, none⟩ (.slice (some ⟨g3, 0, none⟩) (pre.length + 1) c3)).setCell ⟨H + 1 + 1 + 1, 0, none⟩ (.int .i64 (d : Int))).cell? ⟨Y, 0, none⟩ = some (.int .i64 (a : Int)) := (World.cell?_of_block (Below.heap_setCell _ _ _ _ (by simp only; omega))).trans y0''
    have y1x : ((W7.setCell ⟨H + 1 + 1, 0, none⟩ (.slice (some ⟨g3, 0, none⟩) (pre.length + 1) c3)).setCell ⟨H + 1 + 1 + 1, 0, none⟩ (.int .i64 (d : Int))).cell? ⟨Y, 1, none⟩ = some (.int .i64 (m : Int)) := (World.cell?_of_block (Below.heap_setCell _ _ _ _ (by simp only; omega))).trans y1''
    
    have HE4 : ∀ L' : Array Bool, L'.getD 8 false = true → L'.getD 9 false = true → HeldT 8 9 (fun w' => w'.cell? ⟨Y, 0, none⟩ = some (.int .i64 (a : Int)) ∧ w'.cell? ⟨Y, 1, none⟩ = some (.int .i64 (m : Int))) (fun w' => w'.cell? ⟨H + 1 + 1, 0, none⟩ = some (.slice A pre.length cp)) (fun w' => w'.cell? ⟨H + 1 + 1 + 1, 0, none⟩ = some (.int .i64 (L : Int))) L' ((W7.setCell ⟨H + 1 + 1, 0, none⟩ (.slice (some ⟨g3, 0, none⟩) (pre.length + 1) c3)).setCell ⟨H + 1 + 1 + 1, 0, none⟩ (.int .i64 (d : Int))) := fun L' h8 h9 => ⟨⟨y0x, y1x⟩, (fun e => by rw [h8] at e; cases e), (fun e => by rw [h9] at e; cases e)⟩
    first | refine .inl ⟨HE4 _ (by kernel_rfl) (by kernel_rfl), ?_⟩ | refine ⟨HE4 _ (by kernel_rfl) (by kernel_rfl), ?_⟩
    refine wpAnyT_done (by kernel_rfl) ?_ _
    have hfin := round_end (w := w) (W := W) (W2 := W2) (w1 := W7) (N := n) (XX := X) (v := .slice A pre.length cp) (v' := .slice (some ⟨g3, 0, none⟩) (pre.length + 1) c3) (k := L) (k' := d) (X := Y) (u := .int .i64 (m : Int)) (T := .cells #[.int .i64 a, .int .i64 m] 90) HS2.out (by rw [hH]; exact HK2.out) HX.out (by rw [hH]; exact hXl) HNE.out hown3 (by rw [HW5.out, HW6.out]; exact hg3)
    rw [hH] at hfin
    have HFIN := Lib.hid hfin
    have q4 := hfin.2.2.2.2.2.1.cell 0
    have q5 := hfin.2.2.2.2.2.1.lt
    rw [hH] at q4 q5
    simp only [List.getElem?_toArray, List.getElem?_cons_zero] at q4
    
    have hec : ecells pre ++ [.int .i64 (a : Int), .int .i64 (m : Int)] = ecells (pre ++ [(a, m)]) := by simp [ecells]
    rw [hec] at HFIN
    obtain ⟨W9, hW9⟩ : ∃ u, (W7.setCell ⟨H + 1 + 1, 0, none⟩ (.slice (some ⟨g3, 0, none⟩) (pre.length + 1) c3)).setCell ⟨H + 1 + 1 + 1, 0, none⟩ (.int .i64 (d : Int)) = u := ⟨_, rfl⟩
    rw [hW9] at HFIN q4 q5 ⊢
    have HKC := Lib.hid (show KeepCells 76 W0.heap.size W W9 from ⟨HFIN.out.2.1.1, fun j cs fr hj ho => HFIN.out.2.1.2 j cs fr (by omega) ho⟩)
    clear hW9 hec hfin HE0 HE1 HE2 HE3 HE4 y0x y1x f4' x4'' y1'' y0'' hs8 x3' x4' y0' y1' f3 f4 hB3' hB4' hBY' hne3 hne4 hneY hat3 hg3 hown3 x3 x4 y0 y1 hsz6 hBY hB4 hB3 hown2 hN wd hfrY hfr4 hfr3 hl4 hl3 hlY hsz5 hown hH4 hH3 hY1 hY0 hi0 hi1 hi2 hi3 hZ
    by_cases hd0 : d = 0
    · subst hd0
      have HQ := Lib.hid (show ∃ v pre0 x0, pre ++ [(a, b)] = pre0 ++ [x0] ∧ sumN pre0 < k ∧ k ≤ sumN pre0 + x0.2 ∧ TSt w n X v 0 (pre ++ [(a, b)]).length (ecells (pre0 ++ [(x0.1, k - sumN pre0)])) W9 by
        obtain ⟨j1, j2, j3, j4, j5, j6, j7, j8⟩ := HINF.out
        have jd := HDD.out
        refine ⟨.slice (some ⟨g3, 0, none⟩) (pre.length + 1) c3, pre, (a, b), rfl, j1, by show k ≤ sumN pre + b; omega, ?_⟩
        have := HFIN.out.2.2
        rw [show m = k - sumN pre by omega] at this
        rw [List.length_append]
        exact this)
      have HKO := Lib.hid HFIN.out.1
      clear HFIN HKC
      gi_wp2
      obtain ⟨v1, p0, x0, i1, i2, i3, i4⟩ := HQ.out
      exact ⟨HKO.out, rfl, v1, p0, x0.1, x0.2, i1, i2, i3, i4⟩
    · have hd1 : ((d : Int) == 0) = false := beq_eq_false_iff_ne.2 (by omega)
      have hd2 : ¬ ((d : Int) = 0) := by omega
      have HQ := Lib.hid (show sumN (pre ++ [(a, b)]) < k ∧ pre ++ [(a, b)] <+: RR ∧ ∃ v, TSt w n X v ((k - sumN (pre ++ [(a, b)]) : Nat) : Int) (pre ++ [(a, b)]).length (ecells (pre ++ [(a, b)])) W9 by
        obtain ⟨j1, j2, j3, j4, j5, j6, j7, j8⟩ := HINF.out
        have jd := HDD.out
        rw [sumN_snoc]
        refine ⟨by show sumN pre + b < k; omega, j2, .slice (some ⟨g3, 0, none⟩) (pre.length + 1) c3, ?_⟩
        have := HFIN.out.2.2
        rw [show m = b by omega, show d = k - (sumN pre + b) by omega] at this
        simp only
        rw [List.length_append]
        exact this)
      have HKO := Lib.hid HFIN.out.1
      clear HFIN
      gi_wp2
      exact ⟨HKO.out, HKC.out, HQ.out⟩
  case hdone =>
    rintro D xs W hD rfl ⟨hlt, hpf, v, hs⟩ hK
    obtain ⟨A, cp, rfl⟩ := row_form hs.2.2.2.2.1
    obtain ⟨L, hL⟩ : ∃ L, k - sumN xs = L := ⟨_, rfl⟩
    rw [hL] at hs
    have L0 : (0 : Int) < (L : Int) := by omega
    have HNONE := Lib.hid (show TS = none by rw [HTS.out, trimR_all _ _ hlt]; simp only; rw [if_pos (.inl (by omega))])
    have HS := Lib.hid hs
    have d4 := hs.2.2.2.1.cell 0
    have d1 := hs.2.1.cell 0
    have d2 := hs.2.1.cell 1
    have e1 := hs.2.1.frozen 0
    have e2 := hs.2.1.frozen 1
    have z1 := hs.2.1.lt
    have z4 := hs.2.2.2.1.lt
    have HK := Lib.hid hK
    rw [hH] at d4 d1 d2 e1 e2 z1 z4
    simp at d4 d1 d2
    clear hs hK HST HRL HTC HCL HTS HRG hT0 hlt hpf
    go_wp2
    have hset : ∀ j, j ≠ H + 1 → ((W.setCell ⟨H + 1, 0, none⟩ (.int .i64 0)).setCell ⟨H + 1, 1, none⟩ (.string ⟨#[]⟩)).heap[j]? = W.heap[j]? := fun j hj => (Below.heap_setCell _ _ _ _ (by simpa using hj)).trans (Below.heap_setCell _ _ _ _ (by simpa using hj))
    have hK1 := (hset D (by omega)).trans HK.out
    refine ⟨by simp, .inl ⟨_, _, rfl, run_takeDeferred hK1, ?_⟩⟩
    have hR1 := ((by have := HS.out.2.1; rw [hH] at this; exact this : Blk W (H + 1) _ 76).set 0 (.int .i64 0)).set 1 (.string ⟨#[]⟩)
    have hR2 : Blk (((W.setCell ⟨H + 1, 0, none⟩ (.int .i64 0)).setCell ⟨H + 1, 1, none⟩ (.string ⟨#[]⟩)).putObj D (.deferred none)) (H + 1) _ 76 := (World.putObj_heap_other (by omega)).trans hR1
    have q0 := hR2.cell 0
    have q1 := hR2.cell 1
    simp at q0 q1
    refine ⟨.tuple #[.slice none 0 0, .agg #[.int .i64 0, .string ⟨#[]⟩], .int .i64 8], ?_, fun l T' h => (by rw [HNONE.out] at h; cases h), fun _ => rfl, ?_⟩
    · simp [results, Tryz.f39, go_sem, q0, q1]
    · have hb := HS.out.2.2.2.2.2
      have hb2 := below_set (below_set hb (H + 1) 0 (.int .i64 0) (by omega)) (H + 1) 1 (.string ⟨#[]⟩) (by omega)
      exact hb2.grown (grownBy_putObj' _ _ _) hb2.size (fun g e => by cases e; omega)
  case hstop =>
    rintro D c pre W hD hpre ⟨rfl, v, p0, x0, rfl, hlt, hle, hs⟩ hK
    obtain ⟨A, cp, rfl⟩ := row_form hs.2.2.2.2.1
    obtain ⟨rest, hrest⟩ := hpre
    have htr : trimR RR k = (p0 ++ [(x0.1, k - sumN p0)], 0) := by
      rw [← hrest, List.append_assoc]
      exact trimR_stop p0 rest x0 k hlt hle
    obtain ⟨T', hT1, hT2, _⟩ := HTC.out
    have hts := HTS.out
    rw [htr] at hT1 hts
    simp only at hT1 hts
    have hlen : (p0 ++ [x0]).length = (p0 ++ [(x0.1, k - sumN p0)]).length := by simp
    have hll : (p0 ++ [(x0.1, k - sumN p0)]).length ≤ 5000 := by
      have h1 := congrArg List.length hrest
      have h2 := HRL.out.1
      rw [List.length_append] at h1
      omega
    have hbb : ∀ x ∈ p0 ++ [(x0.1, k - sumN p0)], x.1 ≤ 2199023255552 ∧ x.2 ≤ 2199023255552 := fun x hx => by
      rcases List.mem_append.1 hx with hx | hx
      · have := HRG.out.2 x (by rw [← hrest]; simp [hx])
        omega
      · simp only [List.mem_singleton] at hx
        have := HRG.out.2 x0 (by rw [← hrest]; simp)
        subst hx
        exact ⟨by show x0.1 ≤ _; omega, by show k - sumN p0 ≤ _; omega⟩
    rw [hlen] at hs
    obtain ⟨l, hl⟩ : ∃ l, p0 ++ [(x0.1, k - sumN p0)] = l := ⟨_, rfl⟩
    rw [hl] at hs
    rw [hl] at hT1 hts hll hbb
    rw [hT1, Option.map_some] at hts
    have HCK := Lib.hid (fun (W : World) (hW : Lies W A (ecells l)) => HCL.out l A cp W hW hbb (by omega))
    rw [hT1] at HCK
    rw [show turnV (some T') = .tuple #[spv T', .int .i64 0] from rfl] at HCK
    unfold spv at HCK
    rw [hT2] at HCK
    obtain ⟨X2, hX2⟩ : ∃ X2, mk (packB T') = X2 := ⟨_, rfl⟩
    obtain ⟨q, hq⟩ : ∃ q, l.length = q := ⟨_, rfl⟩
    have HX2 := Lib.hid hX2
    have HQ := Lib.hid hq
    have HT2 := Lib.hid hT2
    have HTSL := Lib.hid hts
    rw [hX2, hq] at HCK
    rw [hq] at hs hll hts
    have HS := Lib.hid hs
    have d3 := hs.2.2.1.cell 0
    have d4 := hs.2.2.2.1.cell 0
    have d1 := hs.2.1.cell 0
    have d2 := hs.2.1.cell 1
    have e1 := hs.2.1.frozen 0
    have e2 := hs.2.1.frozen 1
    have z1 := hs.2.1.lt
    have z3 := hs.2.2.1.lt
    have z4 := hs.2.2.2.1.lt
    have s0 := hs.1.cell 0
    have s1 := hs.1.cell 1
    have HK := Lib.hid hK
    have hKl := (Array.getElem?_eq_some_iff.1 hK).1
    rw [hH] at d3 d4 d1 d2 e1 e2 z1 z3 z4 s0 s1
    simp at d3 d4 d1 d2 s0 s1
    clear hs hK HST HRL HTC HCL HTS HRG hT0 hlt hle hrest htr hT1 hT2 hlen hl hbb hX2 hq
    refine wpIn_wide.2 ?_
    by_cases hmq : most < q
    · have hm1 : (most : Int) < (q : Int) := by omega
      have HNONE := Lib.hid (show TS = none by rw [hts, if_pos (.inr hmq)])
      clear hts HCK
      go_wp2
      have hset : ∀ j, j ≠ H + 1 → ((W.setCell ⟨H + 1, 0, none⟩ (.int .i64 0)).setCell ⟨H + 1, 1, none⟩ (.string ⟨#[]⟩)).heap[j]? = W.heap[j]? := fun j hj => (Below.heap_setCell _ _ _ _ (by simpa using hj)).trans (Below.heap_setCell _ _ _ _ (by simpa using hj))
      have hK1 := (hset D (by omega)).trans HK.out
      refine ⟨by simp, .inl ⟨_, _, rfl, run_takeDeferred hK1, ?_⟩⟩
      have hR1 := ((by have := HS.out.2.1; rw [hH] at this; exact this : Blk W (H + 1) _ 76).set 0 (.int .i64 0)).set 1 (.string ⟨#[]⟩)
      have hR2 : Blk (((W.setCell ⟨H + 1, 0, none⟩ (.int .i64 0)).setCell ⟨H + 1, 1, none⟩ (.string ⟨#[]⟩)).putObj D (.deferred none)) (H + 1) _ 76 := (World.putObj_heap_other (by omega)).trans hR1
      have q0 := hR2.cell 0
      have q1 := hR2.cell 1
      simp at q0 q1
      refine ⟨.tuple #[.slice none 0 0, .agg #[.int .i64 0, .string ⟨#[]⟩], .int .i64 8], ?_, fun l T' h => (by rw [HNONE.out] at h; cases h), fun _ => rfl, ?_⟩
      · simp [results, Tryz.f39, go_sem, q0, q1]
      · have hb := HS.out.2.2.2.2.2
        have hb2 := below_set (below_set hb (H + 1) 0 (.int .i64 0) (by omega)) (H + 1) 1 (.string ⟨#[]⟩) (by omega)
        exact hb2.grown (grownBy_putObj' _ _ _) hb2.size (fun g e => by cases e; omega)
    · have hm1 : ¬ ((most : Int) < (q : Int)) := by omega
      have HSOME := Lib.hid (show TS = some (l, T') by rw [hts, if_neg (by omega)])
      clear hts
      have HLI := Lib.hid (Lies.of_row HS.out.2.2.2.2.1)
      go_upto_region 14 with (go_at_call 78; refine (HCK.out _ HLI.out).mono ?_; rintro e w2 ⟨rfl, hb2⟩; have HB2 := Lib.hid hb2; have hw2 := hb2.size; clear hb2)
      have hb2 := HB2.out
      have d3 := (hb2.cell (p := ⟨H + 1 + 1, 0, none⟩) z3).trans d3
      have d1 := (hb2.cell (p := ⟨H + 1, 0, none⟩) z1).trans d1
      have d2 := (hb2.cell (p := ⟨H + 1, 1, none⟩) z1).trans d2
      have hRB := ((by have := HS.out.2.1; rw [hH] at this; exact this : Blk W (H + 1) _ 76)).below hb2
      have e1 := hRB.frozen 0
      have e2 := hRB.frozen 1
      have HRB := Lib.hid hRB
      clear hRB hb2
      have z1' : H + 1 < w2.heap.size := by omega
      have z3' : H + 1 + 1 < w2.heap.size := by omega
      go_region
      all_goals go_wp2
      have hset : ∀ j, j ≠ H + 1 → j < w2.heap.size → (((w2.setCell ⟨H + 1, 0, none⟩ (.int .i64 n)).setCell ⟨H + 1, 1, none⟩ (.string X2)).alloc (.cells #[.int .i64 n, .string X2] 76)).drew.heap[j]? = w2.heap[j]? := fun j hj hlt => (Below.heap_alloc _ _ _ (by simpa using hlt)).trans ((Below.heap_setCell _ _ _ _ (by simpa using hj)).trans (Below.heap_setCell _ _ _ _ (by simpa using hj)))
      have hK1 := (hset D (by omega) (by omega)).trans ((HB2.out.block D hKl).trans HK.out)
      have hR1 := (((HRB.out.set 0 (.int .i64 n)).set 1 (.string X2)).alloc (.cells #[.int .i64 n, .string X2] 76)).drew
      have hO1 := (own_set (own_set (own_below HS.out.2.2.2.2.1 HB2.out) HRB.out (by decide) 0 (.int .i64 n)) (HRB.out.set 0 (.int .i64 n)) (by decide) 1 (.string X2)).alloc (.cells #[.int .i64 n, .string X2] 76)
      have hb1 := ((below_set (below_set (HS.out.2.2.2.2.2.trans (HB2.out.mono (by rw [hH]; omega))) (H + 1) 0 (.int .i64 n) (by omega)) (H + 1) 1 (.string X2) (by omega)).alloc (by simp; omega) (.cells #[.int .i64 n, .string X2] 76)).drew
      obtain ⟨W8, hW8⟩ : ∃ u, (((w2.setCell ⟨H + 1, 0, none⟩ (.int .i64 n)).setCell ⟨H + 1, 1, none⟩ (.string X2)).alloc (.cells #[.int .i64 n, .string X2] 76)) = u := ⟨_, rfl⟩
      rw [hW8] at hK1 hR1 hO1 hb1 ⊢
      refine ⟨by simp, .inl ⟨_, _, rfl, run_takeDeferred hK1, ?_⟩⟩
      have hR2 : Blk (W8.drew.putObj D (.deferred none)) (H + 1) _ 76 := (World.putObj_heap_other (by omega)).trans hR1
      have hO2 : (W8.drew.putObj D (.deferred none)).ownsRow w.heap.size 90 2 (.slice A q cp) q (ecells l) := by
        refine World.ownsRow.kept (w := W8.drew) hO1 (grownBy_putObj' _ _ _) (.inr fun e => ?_)
        obtain ⟨c, fz, h⟩ := row_kind hO1 _ e
        have : W8.heap[D]? = some (.deferred (some [])) := hK1
        rw [this] at h
        cases h
      have q0 := hR2.cell 0
      have q1 := hR2.cell 1
      simp at q0 q1
      refine ⟨.tuple #[.slice A q cp, .agg #[.int .i64 n, .string X2], .int .i64 0], ?_, fun l1 T1 h => ?_, fun h => (by rw [HSOME.out] at h; cases h), ?_⟩
      · simp [results, Tryz.f39, go_sem, q0, q1]
      · rw [HSOME.out] at h
        cases h
        refine ⟨A, cp, ?_, by rw [HQ.out]; exact hO2⟩
        rw [HQ.out, HT2.out, HX2.out]
      · exact hb1.grown (grownBy_putObj' _ _ _) hb1.size (fun g e => by cases e; omega)
theorem take_zeroS (T : List Bool) (most : Nat) : takeS T 0 most = some ([], T) := by
  unfold takeS
  rw [trimR_zero, if_neg (by simp)]
  rfl
set_option maxRecDepth 100000 in
theorem take_zero (T : List Bool) (most : Nat) (w : World) (hn : T.length ≤ 4096) (hm : most ≤ 2199023255552) : Calls Tryz.prog 39 #[spv T, .int .i64 0, .int .i64 most] w fun e w' =>
    e = .returned (.tuple #[.slice none 0 0, spv T, .int .i64 0]) ∧ Below w.heap.size w w' := by
  have K := fun w => claim_any T [] none 0 w hn (fun h => by simp [ecells] at h) (fun x hx => by simp at hx) (by simp)
  rw [show turnV (turnS true T []) = .tuple #[spv T, .int .i64 0] from rfl] at K
  unfold spv at K ⊢
  obtain ⟨n, hn2⟩ : ∃ n, T.length = n := ⟨_, rfl⟩
  obtain ⟨X, hX⟩ : ∃ X, mk (packB T) = X := ⟨_, rfl⟩
  rw [hn2, hX] at K ⊢
  rw [List.length_nil] at K
  have m0 : ¬ ((most : Int) < 0) := by omega
  clear hn2 hX hn
  go_enter Tryz.func39, Tryz.ntmps39
  go_upto_region 5 with fail
  have hT0 := TSt.new w n 0 X
  obtain ⟨W0, hW0⟩ : ∃ u, (((w.alloc (.cells #[.int .i64 n, .string X] 76)).alloc (.cells #[.int .i64 0, .string ⟨#[]⟩] 76)).alloc (.cells #[.slice none 0 0] 67)).alloc (.cells #[.int .i64 0] 3) = u := ⟨_, rfl⟩
  rw [hW0] at hT0 ⊢
  obtain ⟨H, hH⟩ : ∃ H, w.heap.size = H := ⟨_, rfl⟩
  have HH := Lib.hid hH
  simp only [hH]
  have hs := hT0
  have d3 := hs.2.2.1.cell 0
  have d4 := hs.2.2.2.1.cell 0
  have d1 := hs.2.1.cell 0
  have d2 := hs.2.1.cell 1
  have e1 := hs.2.1.frozen 0
  have e2 := hs.2.1.frozen 1
  have z1 := hs.2.1.lt
  have z3 := hs.2.2.1.lt
  have z4 := hs.2.2.2.1.lt
  have s0 := hs.1.cell 0
  have s1 := hs.1.cell 1
  rw [hH] at d3 d4 d1 d2 e1 e2 z1 z3 z4 s0 s1
  simp at d3 d4 d1 d2 s0 s1
  have HS := Lib.hid hs
  clear hs hT0 hW0 hH
  go_upto_region 14 with (go_at_call 78; refine (K _).mono ?_; rintro e w2 ⟨rfl, hb2⟩; have HB2 := Lib.hid hb2; have hw2 := hb2.size; clear hb2)
  have hb2 := HB2.out
  have d3 := (hb2.cell (p := ⟨H + 1 + 1, 0, none⟩) z3).trans d3
  have d1 := (hb2.cell (p := ⟨H + 1, 0, none⟩) z1).trans d1
  have d2 := (hb2.cell (p := ⟨H + 1, 1, none⟩) z1).trans d2
  have hRB := ((by have := HS.out.2.1; rw [HH.out] at this; exact this : Blk W0 (H + 1) _ 76)).below hb2
  have e1 := hRB.frozen 0
  have e2 := hRB.frozen 1
  have HRB := Lib.hid hRB
  clear hRB hb2
  have z1' : H + 1 < w2.heap.size := by omega
  have z3' : H + 1 + 1 < w2.heap.size := by omega
  go_region
  all_goals go_wp2
  have hR1 := (((HRB.out.set 0 (.int .i64 n)).set 1 (.string X)).alloc (.cells #[.int .i64 n, .string X] 76)).drew
  have hsb := HS.out.2.2.2.2.2
  rw [HH.out] at hsb
  have hb1 := ((below_set (below_set (hsb.trans (HB2.out.mono (by omega))) (H + 1) 0 (.int .i64 n) (by omega)) (H + 1) 1 (.string X) (by omega)).alloc (by simp; omega) (.cells #[.int .i64 n, .string X] 76)).drew
  obtain ⟨W8, hW8⟩ : ∃ u, (((w2.setCell ⟨H + 1, 0, none⟩ (.int .i64 n)).setCell ⟨H + 1, 1, none⟩ (.string X)).alloc (.cells #[.int .i64 n, .string X] 76)).drew = u := ⟨_, rfl⟩
  rw [hW8] at hR1 hb1 ⊢
  have q0 := hR1.cell 0
  have q1 := hR1.cell 1
  simp at q0 q1
  refine bodyPost_ret (v := .tuple #[.slice none 0 0, .agg #[.int .i64 n, .string X], .int .i64 0]) ?_ rfl ?_
  · simp [results, Tryz.f39, go_sem, q0, q1]
  · rw [HH.out]; exact ⟨rfl, hb1⟩
end Go.Proofs.YtcmcdddnckcpcaaGreatDoor
