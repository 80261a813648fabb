/- merges.(*row).round, walked. -/
import Derived.Test.YtejokbfejkkpmaaDoorMe
import Derived.Test.YtejokbfejkkpmaaDoorMg
import Derived.Deep.LoopGhost
import Derived.Deep.CutBlock
import Derived.Outline
namespace Go.Proofs.YtejokbfejkkpmaaDoor
open Go.RowKit Go.Maps Go.WideMaps
/-- No cells, or cells of type 109. -/
def Safe9 (o : Obj) : Prop := o.isCells = false ∨ ∃ cs fr, o = .cells cs 109 fr
/-- What is no cells, and cells of type 109, lie as they lay. -/
def K9 (w w' : World) : Prop := ∀ (g : Nat) (o : Obj), w.heap[g]? = some o → Safe9 o → w'.heap[g]? = some o
theorem K9.refl (w : World) : K9 w w := fun _ _ h _ => h
theorem K9.trans {a b c : World} (h : K9 a b) (k : K9 b c) : K9 a c := fun g o e s => k g o (h g o e s) s
theorem own_not9 {w : World} {B e size n g : Nat} {v : Value} {xs : List Value} {o : Obj} (hv : w.ownsRow B e size v n xs) (he : e ≠ 109) (h : w.heap[g]? = some o) (hs : Safe9 o) : v.ownBlock ≠ some g := by
  rcases hv.2 with ⟨rfl, _⟩ | ⟨g', c, cur, rfl, _, hg', _⟩
  · simp [Value.ownBlock]
  · intro e'
    simp only [Value.ownBlock, Option.some.injEq] at e'
    subst e'
    rw [h] at hg'
    simp only [Option.some.injEq] at hg'
    subst hg'
    rcases hs with hs | ⟨cs, fr, hs⟩
    · cases hs
    · simp only [Obj.cells.injEq] at hs
      exact he hs.2.1
theorem k9_grown {w w' : World} {B e size n : Nat} {v : Value} {xs : List Value} (hv : w.ownsRow B e size v n xs) (he : e ≠ 109) (hg : w.grownBy w' v.ownBlock) : K9 w w' := fun g _ h hs =>
  (hg.block g (Array.getElem?_eq_some_iff.1 h).1 (fun e' => own_not9 hv he h hs e'.symm)).trans h
theorem k9_none {w w' : World} (hg : w.grownBy w' none) : K9 w w' := fun g _ h _ => (hg.block g (Array.getElem?_eq_some_iff.1 h).1 (by simp)).trans h
theorem k9_alloc (w : World) (o : Obj) : K9 w (w.alloc o) := k9_none (World.grownBy_alloc w o none)
theorem k9_drewN (w : World) (m : Nat) : K9 w (w.drewN m) := fun _ _ h _ => h
theorem rblk_not9 {w : World} {R g : Nat} {cs : Array Value} {o : Obj} (hb : RBlk w R cs) (h : w.heap[g]? = some o) (hs : Safe9 o) : g ≠ R := by
  rintro rfl
  unfold RBlk at hb
  rw [h] at hb
  simp only [Option.some.injEq] at hb
  subst hb
  rcases hs with hs | ⟨cs, fr, hs⟩
  · cases hs
  · simp at hs
theorem k9_set {w : World} {R : Nat} {cs : Array Value} (hb : RBlk w R cs) (i : Nat) (v : Value) : K9 w (w.setCell ⟨R, i, none⟩ v) := fun g _ h hs =>
  (Below.heap_setCell w ⟨R, i, none⟩ v g (rblk_not9 hb h hs)).trans h
theorem k9_fr {B : Nat} {w w' : World} {R : Nat} {f : Pr → Option Nat} {cnt : Nat} {P N Q Z : Value} {mb : Nat} {ps : List Tx} {nx pv : List Int} {S : List Sp} (h : RS B w R f cnt P N Q Z mb ps nx pv S) (hf : Fr w w' R Z.ownBlock) : K9 w w' := fun g _ e hs =>
  (hf.2.2.2.2 g (Array.getElem?_eq_some_iff.1 e).1 (rblk_not9 h.hb e hs) (fun e' => own_not9 h.hZ (by decide) e hs e'.symm)).trans e
theorem k9_fr3 {B : Nat} {w w' : World} {R : Nat} {f : Pr → Option Nat} {cnt : Nat} {P N Q Z : Value} {mb : Nat} {ps : List Tx} {nx pv : List Int} {S : List Sp} (h : RS B w R f cnt P N Q Z mb ps nx pv S) (hf : Fr3 w w' P N Q) : K9 w w' := fun g _ e hs =>
  (hf.2.2.2.2 g (Array.getElem?_eq_some_iff.1 e).1 (own_not9 h.hP (by decide) e hs) (own_not9 h.hN (by decide) e hs) (own_not9 h.hQ (by decide) e hs)).trans e
/-- The loop of a round that pops: what holds at its head. -/
structure Pop (B : Nat) (w wr : World) (R : Nat) (f : Pr → Option Nat) (cnt : Nat) (Pv N Q : Value) (mb : Nat) (P0 : List Tx) (rank : Nat) (A C : Tx) (c : Nat) (v : Value) (Z : Value) (ps : List Tx) (nx pv : List Int) (P : List Tx) (S : List Sp) (M : List Nat) (d : Nat) : Prop where
  rs : RS B wr R f cnt Pv N Q Z mb ps nx pv S
  rep : RepP ps nx pv P
  hp : HeapTo S S.length
  ri : RI f ps.length P0 P S M d rank A C
  own : wr.ownsRow w.heap.size 3 1 v M.length (icells (M.map fun (m : Nat) => (m : Int)))
  cnt_le : S.length + 3 * P.length + 2 * M.length < c ∨ (S.length + 3 * P.length + 2 * M.length = c ∧ 0 < S.length ∧ (S.getD 0 Sp.nul).rank = rank)
  bel : Below B w wr
  hN : ∀ g, N.ownBlock = some g → g < w.heap.size
  hQ : ∀ g, Q.ownBlock = some g → g < w.heap.size
  len : ps.length ≤ 4096
  k9 : K9 w wr
/-- What the popping leaves. -/
def PopOut (B : Nat) (w wr : World) (R : Nat) (f : Pr → Option Nat) (cnt : Nat) (Pv N Q : Value) (mb : Nat) (P0 : List Tx) (rank : Nat) (A C : Tx) (c ln : Nat) (v : Value) : Prop :=
  ∃ Z ps nx pv P S M d, Pop B w wr R f cnt Pv N Q mb P0 rank A C c v Z ps nx pv P S M d ∧ (∀ s ∈ S, s.rank ≠ rank) ∧ ps.length = ln
def PopHead (B : Nat) (w wr : World) (R : Nat) (f : Pr → Option Nat) (cnt : Nat) (Pv N Q : Value) (mb : Nat) (P0 : List Tx) (rank : Nat) (A C : Tx) (c ln : Nat) (k : Nat) (v : Value) : Prop :=
  ∃ Z ps nx pv P S M d, Pop B w wr R f cnt Pv N Q mb P0 rank A C c v Z ps nx pv P S M d ∧ S.length = k ∧ ps.length = ln
/-- The loop of a round that meets the merged places again: what holds at its head. -/
structure MeetH (B : Nat) (w wr : World) (R : Nat) (f : Pr → Option Nat) (cnt : Nat) (Pv N Q : Value) (mb : Nat) (c : Nat) (v : Value) (ps : List Tx) (nx pv : List Int) (P : List Tx) (M : List Nat) (j : Nat) (Z : Value) (S : List Sp) : Prop where
  rs : RS B wr R f cnt Pv N Q Z mb ps nx pv S
  hp : HeapTo S S.length
  mi : MI f ps.length P S (M.drop j)
  own : wr.ownsRow w.heap.size 3 1 v M.length (icells (M.map fun (m : Nat) => (m : Int)))
  cl : S.length + 3 * P.length + 2 * (M.length - j) < c
  bel : Below B w wr
  k9 : K9 w wr
def MeetHead (B : Nat) (w wr : World) (R : Nat) (f : Pr → Option Nat) (cnt : Nat) (Pv N Q : Value) (mb : Nat) (c : Nat) (v : Value) (ps : List Tx) (nx pv : List Int) (P : List Tx) (M : List Nat) (k : Nat) (i : Value) : Prop :=
  ∃ j Z S, MeetH B w wr R f cnt Pv N Q mb c v ps nx pv P M j Z S ∧ j ≤ M.length ∧ i = .int .i64 j ∧ k = M.length - j
def RoundOut (B R cnt mb : Nat) (f : Pr → Option Nat) (Pv N Q : Value) (n : Nat) (P : List Tx) (c : Nat) (w : World) (e : Ending) (w' : World) : Prop :=
  e = .returned (.tuple #[]) ∧ ∃ Z' ps' nx' pv' P' S', RS B w' R f cnt Pv N Q Z' mb ps' nx' pv' S' ∧ RepP ps' nx' pv' P' ∧ HeapTo S' S'.length ∧ MI f ps'.length P' S' [] ∧ ps'.length = n ∧ (∀ T, Fin2 f P' T → Fin2 f P T) ∧ S'.length + 3 * P'.length < c ∧ Below B w w' ∧ K9 w w'
section
variable {B : Nat} {w wr w3 : World} {R : Nat} {f : Pr → Option Nat} {cnt : Nat} {Pv N Q : Value} {mb : Nat} {P0 : List Tx} {rank : Nat} {A C : Tx} {c : Nat} {v v' Z Z2 : Value} {ps : List Tx} {nx pv : List Int} {P : List Tx} {S S2 : List Sp} {M : List Nat} {d : Nat} {s : Sp}
theorem own_fr {row : Option Nat} {e n b : Nat} {xs : List Value} (hf : Fr w w3 R row) (hv : w.ownsRow b e 1 v n xs) (h1 : v.ownBlock ≠ some R) (h2 : ∀ g, v.ownBlock = some g → row ≠ some g) : w3.ownsRow b e 1 v n xs :=
  own_same hv fun g hg => hf.2.2.2.2 g (hv.lt g hg).2 (fun e => h1 (by rw [hg, e])) (fun e => h2 g hg e.symm)
theorem own_fr3 {e n b : Nat} {xs : List Value} (hf : Fr3 w w3 Pv N Q) (hv : w.ownsRow b e 1 v n xs) (h1 : ∀ g, v.ownBlock = some g → Pv.ownBlock ≠ some g ∧ N.ownBlock ≠ some g ∧ Q.ownBlock ≠ some g) : w3.ownsRow b e 1 v n xs :=
  own_same hv fun g hg => hf.2.2.2.2 g (hv.lt g hg).2 (h1 g hg).1 (h1 g hg).2.1 (h1 g hg).2.2
theorem RS.below3 (h : RS B w R f cnt Pv N Q Z mb ps nx pv S) (hf : Fr3 w w3 Pv N Q) : Below B w w3 :=
  ⟨hf.1, hf.2.1, hf.2.2.1, hf.2.2.2.1, fun k hk => hf.2.2.2.2 k (by have := h.hb.lt; have := h.hR; omega) (fun e => by have := (h.hP.lt k e).1; omega) (fun e => by have := (h.hN.lt k e).1; omega) (fun e => by have := (h.hQ.lt k e).1; omega)⟩
theorem Pop.row_apart (h : Pop B w wr R f cnt Pv N Q mb P0 rank A C c v Z ps nx pv P S M d) : v.ownBlock ≠ some R ∧ (∀ g, v.ownBlock = some g → Z.ownBlock ≠ some g) ∧ ∀ g, v.ownBlock = some g → Pv.ownBlock ≠ some g ∧ N.ownBlock ≠ some g ∧ Q.ownBlock ≠ some g :=
  ⟨h.rs.hb.apart h.own (by decide), fun _ hg => own_two h.own h.rs.hZ (by decide) hg, fun g hg => ⟨own_two h.own h.rs.hP (by decide) hg, fun e => by have := (h.own.lt g hg).1; have := h.hN g e; omega, fun e => by have := (h.own.lt g hg).1; have := h.hQ g e; omega⟩⟩
theorem Pop.stale (h : Pop B w wr R f cnt Pv N Q mb P0 rank A C c v Z ps nx pv P S M d) (hperm : S.Perm (s :: S2)) (hrs : RS B w3 R f cnt Pv N Q Z2 mb ps nx pv S2) (hh2 : HeapTo S2 S2.length) (hown : w3.ownsRow w.heap.size 3 1 v M.length (icells (M.map fun (m : Nat) => (m : Int))))
    (hbel : Below B w w3) (hk9 : K9 w w3) (hst : ∀ i, P[i]? = some s.a → P[i + 1]? = some s.b → off P i ≠ s.place) : Pop B w w3 R f cnt Pv N Q mb P0 rank A C c v Z2 ps nx pv P S2 M d := by
  have hl := hperm.length_eq
  simp only [List.length_cons] at hl
  exact ⟨hrs, h.rep, hh2, h.ri.stale hperm hst, hown, .inl (by rcases h.cnt_le with h1 | h1 <;> omega), hbel, h.hN, h.hQ, h.len, hk9⟩
theorem Pop.fresh (inj : ∀ p q r, f p = some r → f q = some r → p = q) (h : Pop B w wr R f cnt Pv N Q mb P0 rank A C c v Z ps nx pv P S M d) (hperm : S.Perm (s :: S2)) (hr : s.rank = rank) (hm : ∀ t ∈ S, leS s t) {j : Nat} (hx : P[j]? = some s.a) (hy : P[j + 1]? = some s.b) (ho : off P j = s.place)
    (hrs : RS B w3 R f cnt Pv N Q Z2 mb ((ps.set (off P j) (s.a ++ s.b)).set (off P (j + 1)) []) (nx.set (off P j) ((off P (j + 2) : Nat) : Int)) (if off P (j + 2) < ps.length then pv.set (off P (j + 2)) ((off P j : Nat) : Int) else pv) S2) (hh2 : HeapTo S2 S2.length)
    (hown : w3.ownsRow w.heap.size 3 1 v' (M ++ [s.place]).length (icells ((M ++ [s.place]).map fun (m : Nat) => (m : Int)))) (hbel : Below B w w3) (hk9 : K9 w w3) :
    Pop B w w3 R f cnt Pv N Q mb P0 rank A C c v' Z2 ((ps.set (off P j) (s.a ++ s.b)).set (off P (j + 1)) []) (nx.set (off P j) ((off P (j + 2) : Nat) : Int)) (if off P (j + 2) < ps.length then pv.set (off P (j + 2)) ((off P j : Nat) : Int) else pv) (mergeAt P j) S2 (M ++ [s.place]) (j + 1) := by
  have hl := hperm.length_eq
  have hml := mergeAt_length P j _ hy
  simp only [List.length_cons] at hl
  have hlen : ((ps.set (off P j) (s.a ++ s.b)).set (off P (j + 1)) []).length = ps.length := by simp
  refine ⟨hrs, h.rep.merge hx hy, hh2, by rw [hlen]; exact (h.ri.fresh inj hperm hr hm hx hy ho).1, hown, .inl ?_, hbel, h.hN, h.hQ, by rw [hlen]; exact h.len, hk9⟩
  rw [List.length_append, List.length_singleton]
  rcases h.cnt_le with h1 | h1 <;> omega
end
theorem own_ne_cells {w : World} {B e n g : Nat} {v : Value} {cs : Array Value} {t : TypeId} {fr : Nat × Nat} {ys : List Value} (k : w.ownsRow B e 1 v n ys) (hg : w.heap[g]? = some (.cells cs t fr)) (he : e ≠ t) : v.ownBlock ≠ some g := by
  rcases k.2 with ⟨rfl, _⟩ | ⟨g', c, cur, rfl, _, hg', _⟩
  · simp [Value.ownBlock]
  · intro e'
    simp only [Value.ownBlock, Option.some.injEq] at e'
    subst e'
    rw [hg] at hg'
    simp only [Option.some.injEq, Obj.cells.injEq] at hg'
    exact he hg'.2.1.symm
theorem own_drewN {w : World} {b size : Nat} {e : TypeId} {v : Value} {n : Nat} {xs : List Value} (h : w.ownsRow b e size v n xs) (m : Nat) : (w.drewN m).ownsRow b e size v n xs := h
theorem info3r : (Tryd.prog.info? 3).map (fun i => (i.zero, i.size, i.bytes)) = some (some (.int .i64 0), 1, 8) := by kernel_rfl
/-- Behind an append to a row beside. -/
theorem rs_beside {B : Nat} {w w' : World} {R : Nat} {f : Pr → Option Nat} {cnt : Nat} {Pv N Q Z : Value} {mb : Nat} {ps : List Tx} {nx pv : List Int} {S : List Sp} {b n : Nat} {v : Value} {xs : List Value} (h : RS B w R f cnt Pv N Q Z mb ps nx pv S) (hg : w.grownBy w' v.ownBlock)
    (hap : ∀ g, v.ownBlock = some g → Pv.ownBlock ≠ some g ∧ N.ownBlock ≠ some g ∧ Q.ownBlock ≠ some g) (hv : w.ownsRow b 3 1 v n xs) : RS B w' R f cnt Pv N Q Z mb ps nx pv S := by
  have key : ∀ {u : Value}, (∀ g, v.ownBlock = some g → u.ownBlock ≠ some g) → u.ownBlock = none ∨ u.ownBlock ≠ v.ownBlock := fun {u} hu => by
    cases e : v.ownBlock with
    | none => cases hu' : u.ownBlock <;> simp
    | some g => exact .inr (hu g e)
  exact ⟨h.hb.kept hg (h.hb.apart hv (by decide)), h.hP.kept hg (key fun g e => (hap g e).1), h.hN.kept hg (key fun g e => (hap g e).2.1), h.hQ.kept hg (key fun g e => (hap g e).2.2), h.hZ.kept hg (key fun g e => own_two hv h.hZ (by decide) e), h.hM.kept hg (fun e => h.hM.not_row hv e.symm), h.hNQ, h.hR, h.hmb⟩
theorem tl_ne {a b : Tx} (h : a ≠ b) : ((mk a).toList == (mk b).toList) = false := by rw [ByteArray.toList_eq, ByteArray.toList_eq, mk_data, mk_data, beq_eq_false_iff_ne]; exact h
theorem tl_eq (a : Tx) : ((mk a).toList == (mk a).toList) = true := by simp
theorem tl_nonempty {a : Tx} (h : a ≠ []) : (mk a).toList.isEmpty = false := by
  rw [ByteArray.toList_eq, mk_data]; cases a <;> simp_all
set_option maxRecDepth 100000 in
set_option maxHeartbeats 8000000 in
theorem round_any (f : Pr → Option Nat) (inj : ∀ p q r, f p = some r → f q = some r → p = q) (B R cnt mb : Nat) (Pv N Q Z : Value) (ps : List Tx) (nx pv : List Int) (P : List Tx) (S : List Sp) (w : World) (h : RS B w R f cnt Pv N Q Z mb ps nx pv S) (hrep : RepP ps nx pv P) (hh : HeapTo S S.length)
    (hmi : MI f ps.length P S []) (hS0 : 0 < S.length) (hSb : S.length + 3 * P.length ≤ 90000) (hlen : ps.length ≤ 4096) :
    Calls Tryd.prog 46 #[.pointer (some ⟨R, 0, none⟩)] w (RoundOut B R cnt mb f Pv N Q ps.length P (S.length + 3 * P.length) w) := by
  obtain ⟨i0, hi0, hz0, hz1, hz2⟩ := info_parts info3r
  obtain ⟨s0, hs0⟩ : ∃ s, S.getD 0 Sp.nul = s := ⟨_, rfl⟩
  have hmem : s0 ∈ S := by rw [← hs0, getD_at S 0 hS0]; exact List.getElem_mem _
  have hmin : ∀ t ∈ S, leS s0 t := fun t ht => by
    obtain ⟨i, hi, rfl⟩ := List.getElem_of_mem ht
    rw [← hs0, ← getD_at S i hi]; exact heap_min hh i hi
  have HRI := Lib.hid (hmi.start hmem hmin)
  have HFIN := Lib.hid (fun (T : List Tx) => hmi.fin hmem hmin (Q := T))
  obtain ⟨gz, cz, rfl, _, hgz⟩ := h.hZ.form (by omega)
  have x0 := h.hZ.cellAt 0 (by omega)
  have a0 := (scells_at S 0 hS0).1
  rw [Nat.zero_mul] at a0
  rw [a0, ← getD_at S 0 hS0, hs0] at x0
  have c4 := h.hb.cell 4
  simp at c4
  have z1 : (0 : Int) < (S.length : Int) := by omega
  obtain ⟨ns, hns⟩ : ∃ n, S.length = n := ⟨_, rfl⟩
  have H0 : Hid (PopHead B w w R f cnt Pv N Q mb P s0.rank s0.a s0.b (S.length + 3 * P.length) ps.length S.length (.slice none 0 0)) :=
    Lib.hid ⟨_, ps, nx, pv, P, S, [], 0, ⟨h, hrep, hh, hmi.start hmem hmin, World.ownsRow_nil _ _ _ _, .inr ⟨rfl, hS0, by rw [hs0]⟩, Below.refl _ _, fun g hg => (h.hN.lt g hg).2, fun g hg => (h.hQ.lt g hg).2, hlen, K9.refl _⟩, rfl, rfl⟩
  rw [hns] at c4 z1 H0
  have HSB := Lib.hid hSb
  have HB0 : Hid (B ≤ w.heap.size) := Lib.hid (by have := h.hb.lt; have := h.hR; omega)
  clear h hrep hh hmi hS0 hSb hmem hmin a0 hs0 hgz
  obtain ⟨ln, hln⟩ : ∃ n, ps.length = n := ⟨_, rfl⟩
  rw [hln] at H0 HRI ⊢
  have HLN := Lib.hid hln
  clear hln
  obtain ⟨cc, hcc⟩ : ∃ c, ns + 3 * P.length = c := ⟨_, rfl⟩
  rw [hcc] at H0
  have HCC : Hid (S.length + 3 * P.length = cc) := Lib.hid (hns ▸ hcc)
  rw [HCC.out]
  clear hcc hns
  go_enter Tryd.func46, Tryd.ntmps46
  go_upto_block 0 with fail
  go_cut [3] from 14 to 96 (fun v wx => PopOut B w wx R f cnt Pv N Q mb P s0.rank s0.a s0.b cc ln v)
  case first =>
    clear c4 x0 z1
    go_wp2_with fail
    go_loopg [3] ns (fun k v wr => PopHead B w wr R f cnt Pv N Q mb P s0.rank s0.a s0.b cc ln k v)
    case atStart => exact H0.out
    case round =>
      obtain ⟨Z1, ps1, nx1, pv1, P1, S1, M, d, hp1, hk1, hln⟩ := hrel
      have HLN1 := Lib.hid hln
      clear hln
      rcases Nat.eq_zero_or_pos S1.length with h0 | h0
      · obtain rfl : S1 = [] := List.eq_nil_of_length_eq_zero h0
        obtain ⟨A1, c1, rfl⟩ := own_form hp1.rs.hZ
        have c4 := hp1.rs.hb.cell 4
        simp at c4
        have HP := Lib.hid hp1
        clear hp1 h0 hk1
        go_wp2_with fail
        go_meet
        case rel => exact ⟨_, _, _, _, _, _, _, _, HP.out, (fun s hs => by cases hs), HLN1.out⟩
      · obtain ⟨m, hm⟩ : ∃ m, S1.length = m + 1 := ⟨S1.length - 1, by omega⟩
        obtain ⟨g1, c1, rfl, _, _⟩ := hp1.rs.hZ.form (by omega)
        have x0 := hp1.rs.hZ.cellAt 0 (by omega)
        have a0 := (scells_at S1 0 h0).1
        rw [Nat.zero_mul] at a0
        obtain ⟨s, hs⟩ : ∃ s, S1.getD 0 Sp.nul = s := ⟨_, rfl⟩
        rw [a0, ← getD_at S1 0 h0, hs] at x0
        have c4 := hp1.rs.hb.cell 4
        simp at c4
        rw [hm] at c4
        have z1 : (0 : Int) < ((m + 1 : Nat) : Int) := by omega
        have hsm : s ∈ S1 := by rw [← hs, getD_at S1 0 h0]; exact List.getElem_mem _
        have hmn : ∀ t ∈ S1, leS s t := fun t ht => by
          obtain ⟨i, hi, rfl⟩ := List.getElem_of_mem ht
          rw [← hs, ← getD_at S1 i hi]; exact heap_min hp1.hp i hi
        have HP := Lib.hid hp1
        by_cases hr : s.rank = s0.rank
        · have hS9 : m < 100000 := by rcases hp1.cnt_le with h1 | h1 <;> (have := HCC.out; have := HSB.out; omega)
          have KP := hpop_any R (some ⟨g1, 0, none⟩) c1 m _ _ _ _ S1 B wr hm hS9 (by have := hp1.rs.hb; rw [hm] at this; exact this) (by have := hp1.rs.hZ; rw [hm] at this; exact this) (by have := hp1.hp; rw [hm] at this; exact this)
          rw [hs] at KP
          unfold spV at KP
          have HMN := Lib.hid hmn
          have HSM := Lib.hid hsm
          have HK := Lib.hid hk1
          have HM := Lib.hid hm
          have HR := Lib.hid hr
          have hta : ∀ (V : Value) (w : World), (Instr.typeAssert (.iface 130 V) 20 130 false).run Tryd.prog w = .ok V w := fun _ _ => by kernel_rfl
          rw [hr] at x0
          clear hp1 hk1 hm hs a0 hmn hsm hr h0 hS9
          go_wp2_with (go_at_call 60; (with_reducible refine KP.mono ?_))
          rintro e w1 ⟨rfl, S2, hperm, hl2, hh2, hb2, hz2, hf2⟩
          clear KP x0 c4 z1
          go_upto_region 4 with fail
          have hrs2 : RS B w1 R f cnt Pv N Q (.slice (some ⟨g1, 0, none⟩) m c1) mb ps1 nx1 pv1 S2 := HP.out.rs.spots (by rw [HM.out]; exact hf2) hb2 (by rw [hl2]; exact hz2)
          have hown2 := own_fr hf2 HP.out.own HP.out.row_apart.1 (by have := HP.out.row_apart.2.1; rw [HM.out] at this; exact this)
          have hk2 : K9 w w1 := HP.out.k9.trans (k9_fr HP.out.rs (by rw [HM.out]; exact hf2))
          have hbel2 : Below B w w1 := HP.out.bel.trans (HP.out.rs.below (by rw [HM.out]; exact hf2))
          obtain ⟨w2, hw2⟩ : ∃ w2, w1.alloc (.cells #[.int .i64 s.rank, .int .i64 s.place, .string (mk s.a), .string (mk s.b)] 130) = w2 := ⟨_, rfl⟩
          have hrs3 := hrs2.kept (World.grownBy_alloc w1 (.cells #[.int .i64 s.rank, .int .i64 s.place, .string (mk s.a), .string (mk s.b)] 130) none)
          have hown3 := hown2.alloc (.cells #[.int .i64 s.rank, .int .i64 s.place, .string (mk s.a), .string (mk s.b)] 130)
          have hbel3 := hbel2.alloc (Nat.le_trans (Nat.le_trans (by have := HP.out.rs.hb.lt; have := HP.out.rs.hR; omega) hf2.2.2.2.1) (Nat.le_refl _)) (.cells #[.int .i64 s.rank, .int .i64 s.place, .string (mk s.a), .string (mk s.b)] 130)
          have hk3 := hk2.trans (k9_alloc w1 (.cells #[.int .i64 s.rank, .int .i64 s.place, .string (mk s.a), .string (mk s.b)] 130))
          obtain ⟨H, hH⟩ : ∃ H, w1.heap.size = H := ⟨_, rfl⟩
          have hbk : w2.heap[H]? = some (.cells #[.int .i64 s.rank, .int .i64 s.place, .string (mk s.a), .string (mk s.b)] 130 (0, 0)) := by rw [← hw2, ← hH]; exact heap_alloc_new w1 _
          rw [hw2] at hrs3 hown3 hbel3 hk3 ⊢
          rw [hH]
          clear hw2 hH hrs2 hown2 hbel2 hf2 hb2 hz2 hk2
          have hlt2 := hbel3.size
          have y1 := cell_of_row w2 H 1 _ _ _ hbk
          have y2 := cell_of_row w2 H 2 _ _ _ hbk
          have y3 := cell_of_row w2 H 3 _ _ _ hbk
          simp at y1 y2 y3
          have HBK := Lib.hid hbk
          obtain ⟨⟨han, hbn, hfs, hpl⟩, _⟩ := HP.out.ri.okS s HSM.out
          obtain ⟨p0, hp0⟩ : ∃ p, ps1[s.place]? = some p := ⟨ps1[s.place], by simp [hpl]⟩
          obtain ⟨gp, cp, rfl, hcx, _, hkp⟩ := row_at' hrs3.hP (tcells_at ps1 _ _ hp0)
          have c0 := hrs3.hb.cell 0
          have c1' := hrs3.hb.cell 1
          simp at c0 c1'
          have k0 : (0 : Int) ≤ (s.place : Int) := by omega
          have k1 : (s.place : Int) < (ps1.length : Int) := by omega
          have HRS := Lib.hid hrs3
          have hean := tl_nonempty han
          by_cases hpa : p0 = s.a
          · subst hpa
            have he1 := tl_eq s.a
            obtain ⟨i, hi, ho⟩ := partsOf_live HP.out.rep.ne s.place s.a (by rw [← HP.out.rep.ps_eq]; exact hp0) han
            have hil : i < P1.length := by
              rcases Nat.lt_or_ge i P1.length with h4 | h4
              · exact h4
              · rw [List.getElem?_eq_none h4] at hi; cases hi
            have hnx := HP.out.rep.nx_at i hil
            rw [ho] at hnx
            obtain ⟨gn, cn, rfl, hcn, _, hkn⟩ := row_at' hrs3.hN (icells_at nx1 _ _ hnx)
            have k2 : (s.place : Int) < (nx1.length : Int) := by omega
            obtain ⟨q, hq⟩ : ∃ q, off P1 (i + 1) = q := ⟨_, rfl⟩
            rw [hq] at hcn hnx
            have q0 : (0 : Int) ≤ (q : Int) := by omega
            by_cases hlast : i + 1 < P1.length
            · have hql : q < ps1.length := by rw [← hq]; exact (HP.out.rep.next hil).2 hlast
              obtain ⟨y, hy⟩ : ∃ y, P1[i + 1]? = some y := ⟨P1[i + 1], by simp [hlast]⟩
              have hpy : ps1[q]? = some y := by rw [← hq, HP.out.rep.ps_eq]; exact partsOf_at HP.out.rep.ne _ _ hy
              obtain ⟨hcy, -, -⟩ := row_cell hrs3.hP (tcells_at ps1 _ _ hpy)
              have d1 : decide (q < ps1.length) = true := by simpa using hql
              have q1 : (q : Int) < (ps1.length : Int) := by omega
              by_cases hyb : y = s.b
              · subst hyb
                have he2 := tl_eq s.b
                obtain ⟨q2, hq2⟩ : ∃ q2, off P1 (i + 2) = q2 := ⟨_, rfl⟩
                have hnx2 := HP.out.rep.nx_at (i + 1) hlast
                rw [hq, hq2] at hnx2
                have hkq : s.place < q := by rw [← ho, ← hq]; exact off_lt HP.out.rep.ne hil
                have hab : s.a.length + s.b.length ≤ maxLen := by
                  have e1 := off_succ P1 i _ hi
                  have e2 : off P1 (i + 2) = off P1 (i + 1) + s.b.length := off_succ P1 (i + 1) _ hy
                  have e3 := off_le HP.out.rep.ne (show i + 2 ≤ P1.length by omega) (Nat.le_refl _)
                  have e4 := HP.out.rep.tot
                  have e5 := HP.out.len
                  unfold maxLen
                  omega
                have KM := fun m => merge_any B R s.place q q2 cnt mb f _ _ _ _ ps1 nx1 pv1 S2 (w2.drewN m) s.a s.b (hrs3.drewN m) hnx hnx2 hp0 hpy HP.out.rep.pl hkq hab
                obtain ⟨pv2, hpv2⟩ : ∃ l, (if q2 < ps1.length then pv1.set q2 (s.place : Int) else pv1) = l := ⟨_, rfl⟩
                rw [hpv2] at KM
                have HPV := Lib.hid hpv2
                have hPne := own_ne_cells hrs3.hP hbk (by decide)
                have hNne := own_ne_cells hrs3.hN hbk (by decide)
                have hQne := own_ne_cells hrs3.hQ hbk (by decide)
                have HNE := Lib.hid (And.intro hPne (And.intro hNne hQne))
                have HPS := Lib.hid hperm
                have HD := Lib.hid (show P1[i]? = some s.a ∧ P1[i + 1]? = some s.b ∧ off P1 i = s.place ∧ off P1 (i + 1) = q ∧ off P1 (i + 2) = q2 from ⟨hi, hy, ho, hq, hq2⟩)
                clear hbk hp0 han hbn hfs hpl hkp hrs3 hperm hta hi ho hnx hq hpy hy hql hlast hil hkn hq2 hnx2 hkq hab hPne hNne hQne hpv2
                go_wp2_with fail
                go_quiet (fail)
                have y1' : (w2.drewN nq).cell? ⟨H, 1, none⟩ = some (.int .i64 (s.place : Int)) := y1
                clear y1 y2 y3 hcx hcn hcy c0 c1' hean he1 he2 d1
                go_wp2_with (go_at_call 61; (with_reducible refine (KM _).mono ?_))
                rintro e w5 ⟨rfl, hr5, hf5⟩
                have hown5 := own_fr3 hf5 (own_drewN hown3 nq) HP.out.row_apart.2.2
                have hbel5 := (hbel3.trans (below_drewN _ _ _)).trans ((HRS.out.drewN nq).below3 hf5)
                have hk5 := (hk3.trans (k9_drewN _ _)).trans (k9_fr3 (HRS.out.drewN nq) hf5)
                have z1' : w5.cell? ⟨H, 1, none⟩ = some (.int .i64 (s.place : Int)) := by
                  have hH : H < (w2.drewN nq).heap.size := (Array.getElem?_eq_some_iff.1 HBK.out).1
                  exact (World.cell?_of_block (hf5.2.2.2.2 H hH HNE.out.1 HNE.out.2.1 HNE.out.2.2)).trans y1'
                clear KM y1'
                go_wp2_with (at_builtin; refine wpList_append_own _ rfl _ _ 34 rfl w.heap.size 3 i0 _ 1 8 Tryd.underlying34 hi0 hz0 hz1 hz2 rfl (by decide) _ _ _ rfl (hown5.alloc _) ⟨w5.heap.size, 0, none⟩ 1 1 [.int .i64 (s.place : Int)] rfl rfl ?c1 ?c2 ?c3 ?c4 ?c5 ?_)
                case c1 => exact World.news_of_block (cs := #[.int .i64 (s.place : Int)]) (heap_alloc_new w5 _)
                case c2 => intro u hu; simp at hu; subst hu; rfl
                case c3 => have := HP.out.cnt_le; have := HCC.out; have := HSB.out; unfold maxLen; omega
                case c4 => have := HP.out.cnt_le; have := HCC.out; have := HSB.out; omega
                case c5 => have := hbel5.size; simp; omega
                intro v2 w6 hown6 hg6 _
                have hr6 : RS B w6 R f cnt _ _ Q _ mb _ _ pv2 S2 := rs_beside (hr5.kept (World.grownBy_alloc w5 (.cells #[.int .i64 (s.place : Int)] 3) none)) hg6 (fun g hg => ⟨(HP.out.row_apart.2.2 g hg).1, (HP.out.row_apart.2.2 g hg).2.1, (HP.out.row_apart.2.2 g hg).2.2⟩) (hown5.alloc _)
                have hbel6 : Below B w w6 := (hbel5.alloc (Nat.le_trans HB0.out hbel5.size) (.cells #[.int .i64 (s.place : Int)] 3)).grown hg6 (by have := hbel5.size; have := HB0.out; simp; omega) (fun k hk => Nat.le_trans HB0.out (hown5.lt k hk).1)
                have hk6 : K9 w w6 := (hk5.trans (k9_alloc w5 (.cells #[.int .i64 (s.place : Int)] 3))).trans (k9_grown (hown5.alloc _) (by decide) hg6)
                have hown7 : w6.ownsRow w.heap.size 3 1 v2 (M ++ [s.place]).length (icells ((M ++ [s.place]).map fun (m : Nat) => (m : Int))) := by simpa [icells] using hown6
                clear hown5 hg6 hr5 z1' hown6 hbel5
                go_wp2_with fail
                go_roundg m
                case rel =>
                  obtain ⟨d1, d2, d3, d4, d5⟩ := HD.out
                  refine ⟨_, _, _, _, _, _, _, _, Pop.fresh (Z2 := .slice (some ⟨g1, 0, none⟩) m c1) inj HP.out HPS.out HR.out HMN.out d1 d2 d3 ?_ (by rw [hl2]; exact hh2) hown7 hbel6 hk6, hl2, by rw [List.length_set, List.length_set]; exact HLN1.out⟩
                  rw [d3, d4, d5, HPV.out]; exact hr6
                case measure => have := HK.out; have := HM.out; omega
              · have he2 := tl_ne hyb
                have hst : Hid (∀ j, P1[j]? = some s.a → P1[j + 1]? = some s.b → off P1 j ≠ s.place) := Lib.hid fun j hj hj1 hjo => hyb (by
                  have hjl : j < P1.length := by
                    rcases Nat.lt_or_ge j P1.length with h4 | h4
                    · exact h4
                    · rw [List.getElem?_eq_none h4] at hj; cases hj
                  have := off_inj HP.out.rep.ne (by omega) (by omega) (hjo.trans ho.symm)
                  subst this
                  rw [hy] at hj1
                  exact Option.some.inj hj1)
                have HPS := Lib.hid hperm
                clear hbk hp0 han hbn hfs hpl hkp hrs3 hperm hta hi ho hnx hq hpy hy hyb hql hlast hil hkn
                go_wp2_with fail
                go_quiet (fail)
                go_wp2_with fail
                go_roundg m
                case rel => exact ⟨_, _, _, _, _, _, _, _, HP.out.stale HPS.out (HRS.out.drewN _) (by rw [hl2]; exact hh2) hown3 (hbel3.trans (below_drewN _ _ _)) (hk3.trans (k9_drewN _ _)) hst.out, hl2, HLN1.out⟩
                case measure => have := HK.out; have := HM.out; omega
            · have hql : ¬ q < ps1.length := by rw [← hq]; exact fun h => hlast ((HP.out.rep.next hil).1 h)
              have d1 : decide (q < ps1.length) = false := by simpa using hql
              have hst : Hid (∀ j, P1[j]? = some s.a → P1[j + 1]? = some s.b → off P1 j ≠ s.place) := Lib.hid fun j hj hj1 hjo => by
                have hjl : j + 1 < P1.length := by
                  rcases Nat.lt_or_ge (j + 1) P1.length with h4 | h4
                  · exact h4
                  · rw [List.getElem?_eq_none h4] at hj1; cases hj1
                have := off_inj HP.out.rep.ne (by omega) (by omega) (hjo.trans ho.symm)
                omega
              have HPS := Lib.hid hperm
              clear hbk hp0 han hbn hfs hpl hkp hrs3 hperm hta hi ho hnx hq hql hlast hil hkn
              go_wp2_with fail
              go_quiet (fail)
              go_wp2_with fail
              go_roundg m
              case rel => exact ⟨_, _, _, _, _, _, _, _, HP.out.stale HPS.out (HRS.out.drewN _) (by rw [hl2]; exact hh2) hown3 (hbel3.trans (below_drewN _ _ _)) (hk3.trans (k9_drewN _ _)) hst.out, hl2, HLN1.out⟩
              case measure => have := HK.out; have := HM.out; omega
          · have he1 := tl_ne hpa
            have hst : Hid (∀ i, P1[i]? = some s.a → P1[i + 1]? = some s.b → off P1 i ≠ s.place) := Lib.hid fun i hi _ ho => hpa (by
              have := partsOf_at HP.out.rep.ne i s.a hi
              rw [← HP.out.rep.ps_eq, ho, hp0] at this
              exact Option.some.inj this)
            have HPS := Lib.hid hperm
            clear hbk hp0 hpa han hbn hfs hpl hkp hrs3 hperm hta
            go_wp2_with fail
            go_quiet (fail)
            go_wp2_with fail
            go_roundg m
            case rel => exact ⟨_, _, _, _, _, _, _, _, HP.out.stale HPS.out (HRS.out.drewN _) (by rw [hl2]; exact hh2) hown3 (hbel3.trans (below_drewN _ _ _)) (hk3.trans (k9_drewN _ _)) hst.out, hl2, HLN1.out⟩
            case measure => have := HK.out; have := HM.out; omega
        · have hrn : ((s.rank : Int) == (s0.rank : Int)) = false := by rw [beq_eq_false_iff_ne]; omega
          have hall : Hid (∀ t ∈ S1, t.rank ≠ s0.rank) := Lib.hid fun t ht => by
            have h1 := hmn t ht
            have h2 := (hp1.ri.okS s hsm).2
            unfold leS at h1; omega
          clear hp1 hk1 hm hs a0 hmn hsm hr h0
          go_wp2_with fail
          go_meet
          case rel => exact ⟨_, _, _, _, _, _, _, _, HP.out, hall.out, HLN1.out⟩
  case rest =>
    obtain ⟨Z1, ps1, nx1, pv1, P1, S1, M, d, hp1, hno, hln1⟩ := hcut
    obtain ⟨hsc, hmi1⟩ := hp1.ri.stop hno
    have hcl : S1.length + 3 * P1.length + 2 * M.length < cc := by
      rcases hp1.cnt_le with h1 | ⟨_, h1, h2⟩
      · exact h1
      · exact absurd h2 (hno _ (by rw [getD_at S1 0 h1]; exact List.getElem_mem _))
    have H1 : Hid (MeetHead B w wc R f cnt Pv N Q mb cc u3 ps1 nx1 pv1 P1 M M.length (.int .i64 0)) := Lib.hid ⟨0, Z1, S1, ⟨hp1.rs, hp1.hp, by rw [List.drop_zero]; exact hmi1, hp1.own, by omega, hp1.bel, hp1.k9⟩, Nat.zero_le _, rfl, rfl⟩
    have HP := Lib.hid hp1
    have HFI : Hid (∀ T, Fin2 f P1 T → Fin2 f P T) := Lib.hid fun T k => HFIN.out T (hsc ▸ k)
    have HLN1 := Lib.hid hln1
    obtain ⟨A1, c1, rfl⟩ := own_form hp1.own
    obtain ⟨ML, hML⟩ : ∃ n, M.length = n := ⟨_, rfl⟩
    have HML := Lib.hid hML
    have hMl : ML ≤ 90000 := by have := HCC.out; have := HSB.out; omega
    rw [hML] at H1 ⊢
    clear hp1 hno hln1 hsc hmi1 hcl hML c4 x0 z1
    go_wp2_with fail
    go_loopg [99] ML (fun k i wr => MeetHead B w wr R f cnt Pv N Q mb cc (.slice A1 ML c1) ps1 nx1 pv1 P1 M k i)
    case atStart => exact H1.out
    case round =>
      obtain ⟨j, Z2, S2, hm2, hj, rfl, hk⟩ := hrel
      have HK := Lib.hid hk
      have HM2 := Lib.hid hm2
      rcases Nat.lt_or_ge j ML with hlt | hge
      · have hjm : M[j]? = some M[j]! := by
          rw [List.getElem!_eq_getElem?_getD]
          have : j < M.length := by rw [HML.out]; exact hlt
          simp [this]
        obtain ⟨m, hm⟩ : ∃ m, M[j]! = m := ⟨_, rfl⟩
        rw [hm] at hjm
        have hdrop : M.drop j = m :: M.drop (j + 1) := by
          have hjl : j < M.length := by rw [HML.out]; exact hlt
          rw [List.drop_eq_getElem_cons hjl]
          have : M[j] = m := by rw [List.getElem?_eq_getElem hjl] at hjm; exact Option.some.inj hjm
          rw [this]
        have hmi2 := hm2.mi
        rw [hdrop] at hmi2
        obtain ⟨i, hil, hio⟩ := hmi2.liv m List.mem_cons_self
        have hcm : (icells (M.map fun (m : Nat) => (m : Int)))[j]? = some (.int .i64 (m : Int)) := icells_at _ _ _ (by rw [List.getElem?_map, hjm]; rfl)
        obtain ⟨gv, cv, hv, hcv, -, -⟩ := row_at' hm2.own hcm
        rw [HML.out] at hv
        injection hv with hA _ hc2
        subst hA
        subst hc2
        have hpv := HP.out.rep.pv_at i hil
        rw [hio] at hpv
        obtain ⟨pvv, hpvv⟩ : ∃ x, (if i = 0 then (-1 : Int) else ((off P1 (i - 1) : Nat) : Int)) = x := ⟨_, rfl⟩
        rw [hpvv] at hpv
        obtain ⟨gq, cq, rfl, hcq, -, hmq⟩ := row_at' hm2.rs.hQ (icells_at pv1 _ _ hpv)
        have c2 := hm2.rs.hb.cell 2
        simp at c2
        obtain ⟨X, hX⟩ : ∃ X, (if i = 0 then [] else spotAt f P1 (i - 1)) = X := ⟨_, rfl⟩
        have hXl : X.length ≤ 1 := by
          rw [← hX]; split
          · simp
          · exact spotAt_length _ _ _
        have hS2 : S2.length < 90000 := by have := hm2.cl; have := HCC.out; have := HSB.out; omega
        have KP : Calls Tryd.prog 45 #[.pointer (some ⟨R, 0, none⟩), .int .i64 pvv] wr fun e w' => e = .returned (.tuple #[]) ∧ ∃ Z' S', S'.Perm (S2 ++ X) ∧ HeapTo S' S'.length ∧ RS B w' R f cnt Pv N (.slice (some ⟨gq, 0, none⟩) pv1.length cq) Z' mb ps1 nx1 pv1 S' ∧ Fr wr w' R Z2.ownBlock := by
          rw [← hpvv, ← hX]
          by_cases h0 : i = 0
          · rw [if_pos h0, if_pos h0]
            refine (meet_neg R wr).mono ?_
            rintro e w' ⟨he, q, rfl⟩
            exact ⟨he, Z2, S2, by rw [List.append_nil], hm2.hp, hm2.rs.drewN q, Fr.of (gdrewN wr q _)⟩
          · rw [if_neg h0, if_neg h0]
            exact meet_at B R cnt mb f _ _ _ _ ps1 nx1 pv1 P1 S2 wr hm2.rs HP.out.rep hm2.hp (by omega) HP.out.len (i - 1) (by omega)
        have HX := Lib.hid hX
        have HI := Lib.hid (And.intro hil hio)
        have HMI := Lib.hid hmi2
        have HS2 := Lib.hid hS2
        have HXL := Lib.hid hXl
        have HLT := Lib.hid hlt
        have m0 : (0 : Int) ≤ (m : Int) := by omega
        have m1 : (m : Int) < (pv1.length : Int) := by omega
        have j0 : (0 : Int) ≤ (j : Int) := by omega
        have j1 : (j : Int) < (ML : Int) := by omega
        clear hm2 hk hjm hm hdrop hmi2 hil hio hcm hpv hpvv hmq hX hXl hS2
        go_wp2_with (go_at_call 45; (with_reducible refine KP.mono ?_); rintro e w4 ⟨rfl, Z4, S4, hp4, hh4, hr4, hf4⟩)
        clear KP c2 hcq hcv
        have hl4 := hp4.length_eq
        rw [List.length_append] at hl4
        have KQ := meet_at B R cnt mb f _ _ _ _ ps1 nx1 pv1 P1 S4 w4 hr4 HP.out.rep hh4 (by have := HS2.out; have := HXL.out; omega) HP.out.len i HI.out.1
        rw [HI.out.2] at KQ
        have HL4 := Lib.hid hl4
        clear hl4
        go_wp2_with (go_at_call 45; (with_reducible refine KQ.mono ?_); rintro e w5 ⟨rfl, Z5, S5, hp5, hh5, hr5, hf5⟩)
        clear KQ
        go_wp2_with fail
        go_roundg (ML - (j + 1))
        case rel =>
          have ha := HM2.out.rs.hb.apart HM2.out.own (by decide)
          have hown4 := own_fr hf4 HM2.out.own ha (fun g hg => own_two HM2.out.own HM2.out.rs.hZ (by decide) hg)
          have hown5 := own_fr hf5 hown4 ha (fun g hg => own_two hown4 hr4.hZ (by decide) hg)
          have hl5 := hp5.length_eq
          rw [List.length_append] at hl5
          have hsl := spotAt_length f P1 i
          have hl4 := HL4.out
          have hxl := HXL.out
          have hlt := HLT.out
          have hml := HML.out
          have hcl := HM2.out.cl
          refine ⟨j + 1, Z5, S5, ⟨hr5, hh5, HMI.out.meet HI.out.1 HI.out.2 ?_, hown5, by omega, (HM2.out.bel.trans (HM2.out.rs.below hf4)).trans (hr4.below hf5), (HM2.out.k9.trans (k9_fr HM2.out.rs hf4)).trans (k9_fr hr4 hf5)⟩, by omega, by go_num, by omega⟩
          rw [HX.out, ← List.append_assoc]
          exact hp5.trans (hp4.append_right _)
        case measure => have := HK.out; have := HML.out; have := HLT.out; omega
      · obtain rfl : j = ML := by have := HML.out; omega
        clear hm2 hk
        go_wp2
        go_end0
        refine ⟨rfl, Z2, ps1, nx1, pv1, P1, S2, HM2.out.rs, HP.out.rep, HM2.out.hp, ?_, HLN1.out, HFI.out, ?_, HM2.out.bel, HM2.out.k9⟩
        · have := HM2.out.mi
          rw [List.drop_eq_nil_of_le (by rw [HML.out]; exact Nat.le_refl _)] at this; exact this
        · have := HM2.out.cl; omega
end Go.Proofs.YtejokbfejkkpmaaDoor
