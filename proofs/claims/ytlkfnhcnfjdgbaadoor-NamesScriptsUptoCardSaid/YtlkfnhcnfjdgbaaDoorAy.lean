/- What Table.Apply's walk needs: tables, rows and blocks in a region that draws its order. -/
import Derived.Test.YtlkfnhcnfjdgbaaDoorBo
import Derived.Test.YtlkfnhcnfjdgbaaDoorPz
import Derived.Test.YtlkfnhcnfjdgbaaDoorDe
namespace Go.Proofs.YtlkfnhcnfjdgbaaDoor
open Go.RowKit Go.Maps Go.WideMaps
/-- A table. -/
structure Tbl where
  refs : Refs
  head : Bs
  log : List Upd
def Tbl.put (t : Tbl) (us : List Upd) (h : Bs) : Tbl := ⟨foldR t.refs us, if h = [] then t.head else h, (t.log ++ us).drop ((t.log ++ us).length - 256)⟩
/-- The block of A is of elements of this type. -/
def Typed (w : World) (A : Option Addr) (e : TypeId) : Prop := ∀ a, A = some a → ∃ cs fr, w.heap[a.block]? = some (.cells cs e fr)
theorem Typed.below {w w' : World} {A : Option Addr} {e : TypeId} (h : Typed w A e) (hb : Below w.heap.size w w') : Typed w' A e := by
  intro a ha
  obtain ⟨cs, fr, hc⟩ := h a ha
  exact ⟨cs, fr, (hb.block _ (Array.getElem?_eq_some_iff.1 hc).1).trans hc⟩
theorem Typed.of_row {w : World} {B e s n c : Nat} {A : Option Addr} {xs : List Value} (h : w.ownsRow B e s (.slice A n c) n xs) : Typed w A e := by
  intro a ha
  rcases h.2 with ⟨hv, _⟩ | ⟨g, cap, cur, hv, _, hg, _⟩
  · simp [ha] at hv
  · simp only [Value.slice.injEq] at hv
    rw [ha] at hv
    rw [Option.some.inj hv.1]
    exact ⟨cur, _, hg⟩
theorem Typed.cut {w : World} {A : Option Addr} {e : TypeId} (h : Typed w A e) (c lo k : Nat) : Typed w (if c = lo then A else A.map (·.add k)) e := by
  split
  · exact h
  · intro a ha
    cases A with
    | none => simp at ha
    | some b =>
      have e1 : b.add k = a := by simpa using ha
      rw [← e1, show (b.add k).block = b.block by unfold Addr.add; split <;> rfl]
      exact h b rfl
/-- The value v is table t's in world w. -/
def TblAt (w : World) (t : Tbl) (v : Value) : Prop :=
  ∃ A c B cb, v = .agg #[.slice A t.refs.length c, .string (mk t.head), .slice B t.log.length cb] ∧ (A = none → t.refs.length = 0) ∧ (B = none → t.log.length = 0) ∧ RefsAt w A t.refs ∧ Lies w B (ucells t.log) ∧ Typed w A 41 ∧ Typed w B 39
theorem TblAt.below {w w' : World} {t : Tbl} {v : Value} (h : TblAt w t v) (hb : Below w.heap.size w w') : TblAt w' t v := by
  obtain ⟨A, c, B, cb, rfl, h1, h2, h3, h4, h5, h6⟩ := h
  exact ⟨A, c, B, cb, rfl, h1, h2, h3.below (Nat.le_refl _) hb, h4.below (Nat.le_refl _) hb, h5.below hb, h6.below hb⟩
/-- An append of what lies anywhere to a row of the call's own, at a step of a region that draws its order. -/
theorem step_app_any {w : World} {ops : Array Oper} {o : Oper} {a : Act} {K : Act → World → Prop} {Q : Exit → Act → World → Prop} {E : Prop} (hgd : o.guard = none) (s x : Operand) (t : TypeId)
    (ho : o.op = .call { callee := .builtin .append, args := #[s, x], argTypes := #[t, t] })
    (base : Nat) (e : TypeId) (i : TypeInfo) (z : Value) (size bytes : Nat) (ht : Tryd.prog.underlying t = some (.slice e)) (hi : Tryd.prog.info? e = some i) (hz : i.zero = some z)
    (hsize : i.size = size) (hby : i.bytes = bytes) (hzs : z.cells.size = size) (hsz : 0 < size)
    (v : Value) (n : Nat) (xs : List Value) (hs : a.eval s = v) (hown : w.ownsRow base e size v n xs)
    (A : Option Addr) (m c : Nat) (news : List Value) (hx : a.eval x = .slice A m c) (hA : A = none → m = 0 ∧ c = 0) (hl : news.length = m * size) (hnews : Lies w A news) (h1 : ∀ u ∈ news, u.oneCell' = true)
    (h63 : n + m ≤ maxLen) (hbytes : (n + m) * bytes ≤ 140737488355328) (hbase : base ≤ w.heap.size)
    (h : ∀ A' c' w', w'.ownsRow base e size (.slice A' (n + m) c') (n + m) (xs ++ news) → w.grownBy w' v.ownBlock → K (a.put o.dst (.slice A' (n + m) c')) w') :
    if Region.wanted o (yielded ops a.tmps) = true then Oper.wp Tryd.prog o a w K Q else E := by
  have hw : Region.wanted o (yielded ops a.tmps) = true := by simp [Region.wanted, hgd]
  rw [if_pos hw]
  cases A with
  | none =>
    obtain ⟨rfl, rfl⟩ := hA rfl
    obtain rfl : news = [] := List.eq_nil_of_length_eq_zero (by omega)
    have hr := run_append_owned_none (P := Tryd.prog) (w := w) base t o.type e i size ht hi v n xs hown
    unfold Oper.wp execOp
    simp only [ho, resolve, invoke, builtin, Sem.run_bind, Sem.run_pure, Result.andThen_ok, List.map_toArray, List.map_cons, List.map_nil, hs, hx, hr]
    obtain ⟨A', c', rfl⟩ := row_form hown
    rw [List.append_nil] at h
    exact h A' c' w hown (grown_refl w _)
  | some ad =>
    have hnews' : ∀ j u, news[j]? = some u → w.cell? (ad.add j) = some u := fun j u hu => by
      obtain ⟨g, off, eq, hl, hc⟩ := hnews (by have := (List.getElem?_eq_some_iff.1 hu).1; omega)
      rw [Option.some.inj eq, add_lit']
      exact hc j u hu
    obtain ⟨v', w', hr, h2, h3, _⟩ := run_append_own (P := Tryd.prog) (w := w) base t o.type e i z size bytes ht hi hz hsize hby hzs hsz v n xs hown ad m c news hl hnews' h1 h63 hbytes hbase
    unfold Oper.wp execOp
    simp only [ho, resolve, invoke, builtin, Sem.run_bind, Sem.run_pure, Result.andThen_ok, List.map_toArray, List.map_cons, List.map_nil, hs, hx, hr]
    obtain ⟨A', c', rfl⟩ := row_form h2
    exact h A' c' w' h2 h3
theorem own_ne_blk {w : World} {B s n X : Nat} {e e' : TypeId} {v : Value} {xs : List Value} {cs : Array Value} (h : w.ownsRow B e s v n xs) (hX : Blk w X cs e') (he : e ≠ e') : v.ownBlock ≠ some X := by
  intro hv
  rcases h.2 with ⟨rfl, _⟩ | ⟨g, c, cur, rfl, _, hg, _⟩
  · simp [Value.ownBlock] at hv
  · simp only [Value.ownBlock, Option.some.injEq] at hv
    subst hv
    unfold Blk at hX
    rw [hg] at hX
    simp only [Option.some.injEq, Obj.cells.injEq] at hX
    exact he hX.2.1
theorem Blk.grown {w w' : World} {X : Nat} {cs : Array Value} {e : TypeId} {r : Option Nat} (h : Blk w X cs e) (hg : w.grownBy w' r) (hr : r ≠ some X) : Blk w' X cs e := (hg.block X h.lt (fun e => hr e.symm)).trans h
theorem own_set {w : World} {B s n X : Nat} {e e' : TypeId} {v : Value} {xs : List Value} {cs : Array Value} (h : w.ownsRow B e s v n xs) (hX : Blk w X cs e') (he : e ≠ e') (i : Nat) (u : Value) : (w.setCell ⟨X, i, none⟩ u).ownsRow B e s v n xs :=
  h.kept (grown_set w X i u) (.inr (own_ne_blk h hX he))
theorem TblAt.set {w : World} {t : Tbl} {v : Value} (h : TblAt w t v) {Y : Nat} {cs : Array Value} (hY : Blk w Y cs 31) (i : Nat) (u : Value) : TblAt (w.setCell ⟨Y, i, none⟩ u) t v := by
  obtain ⟨A, c, B, cb, rfl, h1, h2, h3, h4, h5, h6⟩ := h
  have hb : ∀ g (e : TypeId), (∃ cs fr, w.heap[g]? = some (.cells cs e fr)) → e ≠ 31 → g ≠ Y := by
    rintro g e ⟨c1, fr, hc⟩ he rfl
    unfold Blk at hY
    rw [hY] at hc
    simp only [Option.some.injEq, Obj.cells.injEq] at hc
    exact he hc.2.1.symm
  have hk : ∀ g j, g ≠ Y → (w.setCell ⟨Y, i, none⟩ u).cell? ⟨g, j, none⟩ = w.cell? ⟨g, j, none⟩ := fun g j hg =>
    World.cell?_setCell_other _ _ _ _ (fun e => hg (congrArg Addr.block e).symm)
  have hty : ∀ A e, Typed w A e → e ≠ 31 → Typed (w.setCell ⟨Y, i, none⟩ u) A e := by
    intro A e h he a ha
    obtain ⟨c1, fr, hc⟩ := h a ha
    refine ⟨c1, fr, ?_⟩
    show (w.heap.modify Y _)[a.block]? = _
    rw [Array.getElem?_modify, if_neg (fun e' => hb _ _ ⟨c1, fr, hc⟩ he e'.symm), hc]
  have hsz : (w.setCell ⟨Y, i, none⟩ u).heap.size = w.heap.size := by simp [World.setCell]
  refine ⟨A, c, B, cb, rfl, h1, h2, fun h0 => ?_, fun h0 => ?_, hty _ _ h5 (by decide), hty _ _ h6 (by decide)⟩
  · obtain ⟨g, hA, hl, hc⟩ := h3 h0
    have hg := hb g 41 (h5 _ hA) (by decide)
    refine ⟨g, hA, by rw [hsz]; exact hl, fun j hj => ?_⟩
    rw [hk _ _ hg, hk _ _ hg]
    exact hc j hj
  · obtain ⟨g, o, hA, hl, hc⟩ := h4 h0
    have hg := hb g 39 (h6 _ hA) (by decide)
    refine ⟨g, o, hA, by rw [hsz]; exact hl, fun j v hj => ?_⟩
    rw [hk _ _ hg]
    exact hc j v hj
/-- What is there on the way through Apply's copies: r, l: the rows of references and log; x: the new table's block. -/
structure Mid (W w : World) (r l : Option (Value × Nat × List Value)) (x : Option Nat) : Prop where
  bel : Below W.heap.size W w
  refs : ∀ p, r = some p → w.ownsRow W.heap.size 41 2 p.1 p.2.1 p.2.2
  log : ∀ p, l = some p → w.ownsRow W.heap.size 39 3 p.1 p.2.1 p.2.2
  tab : ∀ b, x = some b → Blk w b #[.slice none 0 0, .string ⟨#[]⟩, .slice none 0 0] 31 ∧ W.heap.size ≤ b
theorem Mid.drew {W w : World} {r l : Option (Value × Nat × List Value)} {x : Option Nat} (h : Mid W w r l x) : Mid W w.drew r l x :=
  ⟨h.bel.drew, fun p e => (h.refs p e).drew, fun p e => (h.log p e).drew, fun b e => h.tab b e⟩
theorem Mid.new {W w : World} {r l : Option (Value × Nat × List Value)} {x : Option Nat} (h : Mid W w r l x) : Mid W (w.alloc (.cells #[.slice none 0 0, .string ⟨#[]⟩, .slice none 0 0] 31)) r l (some w.heap.size) :=
  ⟨h.bel.alloc h.bel.size _, fun p e => (h.refs p e).alloc _, fun p e => (h.log p e).alloc _, fun b e => by cases e; exact ⟨Blk.new _ _ _, h.bel.size⟩⟩
theorem Mid.step {W w w1 : World} {r l : Option (Value × Nat × List Value)} {x : Option Nat} (h : Mid W w r l x) (hb : Below w.heap.size w w1) : Mid W w1 r l x :=
  ⟨below_step h.bel hb, fun p e => own_below (h.refs p e) hb, fun p e => own_below (h.log p e) hb, fun b e => ⟨(h.tab b e).1.below hb, (h.tab b e).2⟩⟩
theorem Mid.callRefs {W w w1 : World} {r l : Option (Value × Nat × List Value)} {x : Option Nat} {v : Value} {n : Nat} {xs : List Value} (h : Mid W w r l x) (ho : w1.ownsRow w.heap.size 41 2 v n xs) (hb : Below w.heap.size w w1) : Mid W w1 (some (v, n, xs)) l x :=
  ⟨below_step h.bel hb, fun p e => by cases e; exact own_base ho h.bel.size, fun p e => own_below (h.log p e) hb, fun b e => ⟨(h.tab b e).1.below hb, (h.tab b e).2⟩⟩
theorem Mid.callLog {W w w1 : World} {r l : Option (Value × Nat × List Value)} {x : Option Nat} {v : Value} {n : Nat} {xs : List Value} (h : Mid W w r l x) (ho : w1.ownsRow w.heap.size 39 3 v n xs) (hb : Below w.heap.size w w1) : Mid W w1 r (some (v, n, xs)) x :=
  ⟨below_step h.bel hb, fun p e => own_below (h.refs p e) hb, fun p e => by cases e; exact own_base ho h.bel.size, fun b e => ⟨(h.tab b e).1.below hb, (h.tab b e).2⟩⟩
theorem Mid.app {W w w1 : World} {r : Option (Value × Nat × List Value)} {x : Option Nat} {v v' : Value} {n n' : Nat} {xs xs' : List Value} (h : Mid W w r (some (v, n, xs)) x) (ho : w1.ownsRow W.heap.size 39 3 v' n' xs') (hg : w.grownBy w1 v.ownBlock) : Mid W w1 r (some (v', n', xs')) x := by
  have hl := h.log _ rfl
  refine ⟨h.bel.grown hg h.bel.size (fun k e => (hl.lt k e).1), fun p e => (h.refs p e).kept hg ?_, fun p e => by cases e; exact ho, fun b e => ⟨(h.tab b e).1.grown hg (own_ne_blk hl (h.tab b e).1 (by decide)), (h.tab b e).2⟩⟩
  rcases own_apart hl (h.refs p e) (by decide) with h' | h'
  · exact .inl h'
  · exact .inr (fun e => h' e.symm)
/-- What region 4 leaves. -/
def Fin (W w : World) (X : Nat) (cs : Array Value) (v1 : Value) (n1 : Nat) (xs1 : List Value) (v2 : Value) (n2 : Nat) (xs2 : List Value) : Prop :=
  Blk w X cs 31 ∧ w.ownsRow W.heap.size 41 2 v1 n1 xs1 ∧ w.ownsRow W.heap.size 39 3 v2 n2 xs2 ∧ W.heap.size ≤ X ∧ Below W.heap.size W w
theorem Fin.set {W w : World} {X : Nat} {cs : Array Value} {v1 : Value} {n1 : Nat} {xs1 : List Value} {v2 : Value} {n2 : Nat} {xs2 : List Value} (h : Fin W w X cs v1 n1 xs1 v2 n2 xs2) (i : Nat) (u : Value) : Fin W (w.setCell ⟨X, i, none⟩ u) X (cs.setIfInBounds i u) v1 n1 xs1 v2 n2 xs2 :=
  ⟨h.1.set i u, own_set h.2.1 h.1 (by decide) i u, own_set h.2.2.1 h.1 (by decide) i u, h.2.2.2.1, h.2.2.2.2.setCell (p := ⟨X, i, none⟩) h.2.2.2.1 u⟩
theorem Mid.fin1 {W w : World} {x : Option Nat} {v1 : Value} {n1 : Nat} {xs1 : List Value} {v2 : Value} {n2 : Nat} {xs2 : List Value} (h : Mid W w (some (v1, n1, xs1)) (some (v2, n2, xs2)) x) (cs : Array Value) : Fin W (w.alloc (.cells cs 31)) w.heap.size cs v1 n1 xs1 v2 n2 xs2 :=
  ⟨Blk.new _ _ _, (h.refs _ rfl).alloc _, (h.log _ rfl).alloc _, h.bel.size, h.bel.alloc h.bel.size _⟩
theorem Mid.fin2 {W w : World} {X : Nat} {v1 : Value} {n1 : Nat} {xs1 : List Value} {v2 : Value} {n2 : Nat} {xs2 : List Value} (h : Mid W w (some (v1, n1, xs1)) (some (v2, n2, xs2)) (some X)) (a b c : Value) : Fin W (((w.setCell ⟨X, 0, none⟩ a).setCell ⟨X, 1, none⟩ b).setCell ⟨X, 2, none⟩ c) X #[a, b, c] v1 n1 xs1 v2 n2 xs2 := by
  have h0 : Fin W w X #[.slice none 0 0, .string ⟨#[]⟩, .slice none 0 0] v1 n1 xs1 v2 n2 xs2 := ⟨(h.tab _ rfl).1, h.refs _ rfl, h.log _ rfl, (h.tab _ rfl).2, h.bel⟩
  simpa using ((h0.set 0 a).set 1 b).set 2 c
/-- A change of the references' row. -/
theorem Fin.refs {W w w' : World} {X : Nat} {cs : Array Value} {v1 v1' : Value} {n1 n1' : Nat} {xs1 xs1' : List Value} {v2 : Value} {n2 : Nat} {xs2 : List Value} (h : Fin W w X cs v1 n1 xs1 v2 n2 xs2) (hg : w.grownBy w' v1.ownBlock) (ho : w'.ownsRow W.heap.size 41 2 v1' n1' xs1') : Fin W w' X cs v1' n1' xs1' v2 n2 xs2 := by
  refine ⟨h.1.grown hg (own_ne_blk h.2.1 h.1 (by decide)), ho, h.2.2.1.kept hg ?_, h.2.2.2.1, h.2.2.2.2.grown hg h.2.2.2.2.size (fun k e => (h.2.1.lt k e).1)⟩
  rcases own_apart h.2.1 h.2.2.1 (by decide) with h' | h'
  · exact .inl h'
  · exact .inr (fun e => h' e.symm)
theorem Fin.step {W w w' : World} {X : Nat} {cs : Array Value} {v1 : Value} {n1 : Nat} {xs1 : List Value} {v2 : Value} {n2 : Nat} {xs2 : List Value} (h : Fin W w X cs v1 n1 xs1 v2 n2 xs2) (hb : Below w.heap.size w w') : Fin W w' X cs v1 n1 xs1 v2 n2 xs2 :=
  ⟨h.1.below hb, own_below h.2.1 hb, own_below h.2.2.1 hb, h.2.2.2.1, below_step h.2.2.2.2 hb⟩
theorem Fin.alloc {W w : World} {X : Nat} {cs : Array Value} {v1 : Value} {n1 : Nat} {xs1 : List Value} {v2 : Value} {n2 : Nat} {xs2 : List Value} (h : Fin W w X cs v1 n1 xs1 v2 n2 xs2) (o : Obj) : Fin W (w.alloc o) X cs v1 n1 xs1 v2 n2 xs2 := h.step (below_alloc w o)
theorem cut_log (A : Option Addr) (N c lo : Nat) (w : World) (h : lo ≤ N) : (Instr.slice 29 (.slice A N c) (some (.int .i64 (lo : Int))) none none).run Tryd.prog w = .ok (.slice (if c = lo then A else A.map (·.add (lo * 3))) (N - lo) (c - lo)) w := by
  obtain ⟨i0, hi, _, h1, _⟩ := info_parts info39
  rw [run_slice_l (P := Tryd.prog) w 29 A N c (by kernel_rfl) .i64 lo (by omega) (by omega)]
  have hs : (sizeOf (Tryd.prog.elem 29)).run Tryd.prog w = .ok 3 w := by
    rw [show Tryd.prog.elem 29 = 39 by kernel_rfl]
    simp [sizeOf, typeInfo, hi, h1]
  rw [hs]
  simp [Result.andThen, sliced]
theorem ucells_drop (us : List Upd) (k : Nat) : ucells (us.drop k) = (ucells us).drop (k * 3) := by
  induction k generalizing us with
  | zero => simp
  | succ k ih =>
    cases us with
    | nil => simp [ucells]
    | cons u us =>
      rw [List.drop_succ_cons, ih, ucells_cons, show (k + 1) * 3 = k * 3 + 1 + 1 + 1 by omega]
      rfl
/-- A row's end lies there, too. -/
theorem Lies.cut {w : World} {A : Option Addr} {us : List Upd} {c lo : Nat} (h : Lies w A (ucells us)) (hc : us.length ≤ c) (hl : lo ≤ us.length) : Lies w (if c = lo then A else A.map (·.add (lo * 3))) (ucells (us.drop lo)) := by
  intro h0
  rw [ucells_length, List.length_drop] at h0
  rw [if_neg (by omega)]
  obtain ⟨g, o, rfl, hg, hx⟩ := h (by rw [ucells_length]; omega)
  refine ⟨g, o + lo * 3, by rw [Option.map_some, add_lit'], hg, fun j u hu => ?_⟩
  rw [ucells_drop, List.getElem?_drop] at hu
  rw [Nat.add_assoc]
  exact hx _ u hu
theorem set_len (R : Refs) (n v : Bs) : (setR R n v).length ≤ R.length + 1 := by
  induction R with
  | nil => rw [setR]; split <;> simp
  | cons r R ih =>
    rw [setR]
    split
    · split <;> simp <;> omega
    · split
      · simp only [List.length_cons]; omega
      · split <;> simp
theorem fold_len (us : List Upd) : ∀ R : Refs, (foldR R us).length ≤ R.length + us.length := by
  induction us with
  | nil => intro R; exact Nat.le_refl _
  | cons a us ih =>
    intro R
    have := ih (setR R a.name a.new)
    have := set_len R a.name a.new
    rw [show foldR R (a :: us) = foldR (setR R a.name a.new) us from rfl, List.length_cons]
    omega
/-- An element of a row of references is set. -/
theorem row_set {w : World} {B c n p : Nat} {g : Nat} {xs : List Value} (h : w.ownsRow B 41 2 (.slice (some ⟨g, 0, none⟩) n c) n xs) (u : Value) :
    (w.setCell ⟨g, p, none⟩ u).ownsRow B 41 2 (.slice (some ⟨g, 0, none⟩) n c) n (xs.set p u) := by
  rcases h.2 with ⟨hv, _⟩ | ⟨g', cap, cur, hv, hB, hg, hc, hm, hs, ht⟩
  · simp at hv
  · simp only [Value.slice.injEq, Option.some.injEq, Addr.mk.injEq, and_true, true_and] at hv
    obtain ⟨rfl, rfl⟩ := hv
    refine ⟨by rw [List.length_set]; exact h.1, .inr ⟨g, c, cur.setIfInBounds p u, rfl, hB, ?_, hc, hm, by simpa using hs, ?_⟩⟩
    · show (w.heap.modify g _)[g]? = _
      rw [Array.getElem?_modify, if_pos rfl, hg]; simp
    · rw [← ht, Array.toList_setIfInBounds, List.take_set]
theorem row_none {w : World} {B e s n c : Nat} {A : Option Addr} {xs : List Value} (h : w.ownsRow B e s (.slice A n c) n xs) : A = none → n = 0 := by
  rintro rfl
  rcases h.2 with ⟨_, h0⟩ | ⟨g, _, _, hv, _⟩
  · exact h0
  · simp at hv
theorem row_none' {w : World} {B e s n c : Nat} {A : Option Addr} {xs : List Value} (h : w.ownsRow B e s (.slice A n c) n xs) : A = none → n = 0 ∧ c = 0 := by
  rintro rfl
  rcases h.2 with ⟨hv, h0⟩ | ⟨g, _, _, hv, _⟩
  · simp at hv; exact ⟨h0, hv.2⟩
  · simp at hv
end Go.Proofs.YtlkfnhcnfjdgbaaDoor
