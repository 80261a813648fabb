/- What all texts of this seat use: texts as bytes, blocks, rows, frames. -/
import Derived.Test.YtcmcdddnckcpcaaGreatDoorRows
import Derived.Test.YtcmcdddnckcpcaaGreatDoorShelf
import Derived.WalkKit
import Derived.Lib.Hide
import Derived.Laws.NewBlocks
import Derived.BigRegion
import Derived.Laws.IdiomStrings
import Derived.Laws.MakeOwn
import Derived.Deep.QuietTactic
import Derived.BigQuiet
import Derived.Deep.RegionHeld3
import Derived.Deep.CutRange
import Derived.IntWalk
import Derived.Laws.Cover1
import Derived.Deep.AppendLies
import Derived.OrdersHeld
import Derived.Below
import Derived.OwnWalk
import Derived.Laws.AppendOwn
import Derived.Laws.OwnMore
import Derived.KernelRfl
import Derived.Laws.Strings
namespace Go.Proofs.YtcmcdddnckcpcaaGreatDoor
open Go.RowKit
abbrev Bs := List UInt8
/-- The text of a list of bytes. -/
def mk (l : Bs) : ByteArray := ⟨l.toArray⟩
theorem mk_list (s : ByteArray) : mk s.data.toList = s := rfl
theorem mk_data (l : Bs) : (mk l).data.toList = l := by simp [mk]
theorem mk_size (l : Bs) : (mk l).size = l.length := by simp [mk, ByteArray.size]
theorem mk_toList' (a : Bs) : (mk a).toList = a := by rw [ByteArray.toList_eq, mk_data]
theorem below_alloc (w : World) (o : Obj) : Below w.heap.size w (w.alloc o) := (Below.refl _ w).alloc (Nat.le_refl _) o
theorem cell_lt {w : World} {a : Addr} {v : Value} (h : w.cell? a = some v) : a.block < w.heap.size := by
  rcases Nat.lt_or_ge a.block w.heap.size with h' | h'
  · exact h'
  · simp [World.cell?, Array.getElem?_eq_none h'] at h
/-- These cells lie from A on. -/
def Lies (w : World) (A : Option Addr) (xs : List Value) : Prop := 0 < xs.length → ∃ g o, A = some ⟨g, o, none⟩ ∧ g < w.heap.size ∧ ∀ j u, xs[j]? = some u → w.cell? ⟨g, o + j, none⟩ = some u
theorem Lies.below {w w' : World} {A : Option Addr} {xs : List Value} (h : Lies w A xs) {B : Nat} (hB : w.heap.size ≤ B) (hb : Below B w w') : Lies w' A xs := by
  intro h0
  obtain ⟨g, o, rfl, hl, hc⟩ := h h0
  have hl' := Nat.lt_of_lt_of_le hl hB
  exact ⟨g, o, rfl, Nat.lt_of_lt_of_le hl hb.size, fun j u hu => (hb.cell (p := ⟨g, o + j, none⟩) hl').trans (hc j u hu)⟩
theorem add_lit' (g o j : Nat) : (⟨g, o, none⟩ : Addr).add j = ⟨g, o + j, none⟩ := by unfold Addr.add; split <;> simp_all
theorem Lies.of_row {w : World} {B c n size : Nat} {e : TypeId} {A : Option Addr} {xs : List Value} (h : w.ownsRow B e size (.slice A n c) n xs) : Lies w A xs := by
  intro h0
  rcases h.2 with ⟨_, e0⟩ | ⟨g, c', cur, hv, hg, hh, hc, _, hs, ht⟩
  · have := h.1
    subst e0
    omega
  · injection hv with hA
    refine ⟨g, 0, hA, (Array.getElem?_eq_some_iff.1 hh).1, fun j u hj => ?_⟩
    have hk : j < n * size := by
      have := (List.getElem?_eq_some_iff.1 hj).1
      rw [h.1] at this; exact this
    rw [← ht, List.getElem?_take, if_pos hk] at hj
    unfold World.cell?; rw [hh]; simpa using hj
/-- Block b of w is these cells. -/
def Blk (w : World) (b : Nat) (cs : Array Value) (e : TypeId) : Prop := w.heap[b]? = some (.cells cs e (0, 0))
theorem Blk.cell {w : World} {b : Nat} {cs : Array Value} {e : TypeId} (h : Blk w b cs e) (i : Nat) : w.cell? ⟨b, i, none⟩ = cs[i]? := by
  unfold Blk at h
  unfold World.cell?; rw [h]; simp
theorem Blk.frozen {w : World} {b : Nat} {cs : Array Value} {e : TypeId} (h : Blk w b cs e) (i : Nat) : w.frozen? ⟨b, i, none⟩ = false := by
  unfold Blk at h
  unfold World.frozen?; rw [h]; simp
theorem Blk.set {w : World} {b : Nat} {cs : Array Value} {e : TypeId} (h : Blk w b cs e) (i : Nat) (v : Value) : Blk (w.setCell ⟨b, i, none⟩ v) b (cs.setIfInBounds i v) e := by
  unfold Blk at h ⊢
  show (w.heap.modify b _)[b]? = _
  rw [Array.getElem?_modify, if_pos rfl, h]; simp
theorem Blk.lt {w : World} {b : Nat} {cs : Array Value} {e : TypeId} (h : Blk w b cs e) : b < w.heap.size := (Array.getElem?_eq_some_iff.1 h).1
theorem Blk.below {w w' : World} {b : Nat} {cs : Array Value} {e : TypeId} (h : Blk w b cs e) (hb : Below w.heap.size w w') : Blk w' b cs e := (hb.block b h.lt).trans h
theorem Blk.new (w : World) (cs : Array Value) (e : TypeId) : Blk (w.alloc (.cells cs e)) w.heap.size cs e := heap_alloc_new w _
theorem Blk.alloc {w : World} {b : Nat} {cs : Array Value} {e : TypeId} (h : Blk w b cs e) (o : Obj) : Blk (w.alloc o) b cs e := (Below.heap_alloc w o b h.lt).trans h
theorem Blk.drew {w : World} {b : Nat} {cs : Array Value} {e : TypeId} (h : Blk w b cs e) : Blk w.drew b cs e := h
theorem below_step {w0 w w1 : World} (hb : Below w0.heap.size w0 w) (h : Below w.heap.size w w1) : Below w0.heap.size w0 w1 := hb.trans (h.mono hb.size)
theorem own_below {w w' : World} {b size : Nat} {e : TypeId} {v : Value} {n : Nat} {xs : List Value} (h : w.ownsRow b e size v n xs) (hb : Below w.heap.size w w') : w'.ownsRow b e size v n xs := by
  refine ⟨h.1, h.2.imp id ?_⟩
  rintro ⟨g, cap, cur, h1, h2, h3, h4⟩
  exact ⟨g, cap, cur, h1, h2, (hb.block g (Array.getElem?_eq_some_iff.1 h3).1).trans h3, h4⟩
theorem grown_refl (w : World) (r : Option Nat) : w.grownBy w r := ⟨rfl, rfl, rfl, Nat.le_refl _, fun _ _ _ => rfl⟩
theorem grown_drew {w w' : World} {r : Option Nat} (h : w.grownBy w' r) : w.grownBy w'.drew r := ⟨h.os, h.tape, h.output, h.size, fun k hk hne => h.block k hk hne⟩
theorem grown_trans {w a b : World} {r : Option Nat} (h : w.grownBy a r) (h2 : a.grownBy b r) : w.grownBy b r :=
  ⟨h2.os.trans h.os, h2.tape.trans h.tape, h2.output.trans h.output, Nat.le_trans h.size h2.size, fun k hk hne => (h2.block k (Nat.lt_of_lt_of_le hk h.size) hne).trans (h.block k hk hne)⟩
theorem grown_set (w : World) (b i : Nat) (v : Value) : w.grownBy (w.setCell ⟨b, i, none⟩ v) (some b) := by
  refine ⟨rfl, rfl, rfl, by simp [World.setCell], fun k hk hne => ?_⟩
  show (w.heap.modify b _)[k]? = _
  rw [Array.getElem?_modify, if_neg (fun e => hne (by rw [e]))]
theorem row_form {w : World} {B n size : Nat} {e : TypeId} {v : Value} {xs : List Value} (h : w.ownsRow B e size v n xs) : ∃ A c, v = .slice A n c := by
  rcases h.2 with ⟨hv, rfl⟩ | ⟨g, c, cur, hv, _⟩
  · exact ⟨none, 0, hv⟩
  · exact ⟨_, c, hv⟩
theorem own_ne_blk {w : World} {B s n X : Nat} {e e' : TypeId} {v : Value} {xs : List Value} {cs : Array Value} (h : w.ownsRow B e s v n xs) (hX : Blk w X cs e') (he : e ≠ e') : v.ownBlock ≠ some X := by
  intro hv
  rcases h.2 with ⟨rfl, _⟩ | ⟨g, c, cur, rfl, _, hg, _⟩
  · simp [Value.ownBlock] at hv
  · simp only [Value.ownBlock, Option.some.injEq] at hv
    subst hv
    unfold Blk at hX
    rw [hg] at hX
    simp only [Option.some.injEq, Obj.cells.injEq] at hX
    exact he hX.2.1
theorem Blk.grown {w w' : World} {X : Nat} {cs : Array Value} {e : TypeId} {r : Option Nat} (h : Blk w X cs e) (hg : w.grownBy w' r) (hr : r ≠ some X) : Blk w' X cs e := (hg.block X h.lt (fun e => hr e.symm)).trans h
theorem own_set {w : World} {B s n X : Nat} {e e' : TypeId} {v : Value} {xs : List Value} {cs : Array Value} (h : w.ownsRow B e s v n xs) (hX : Blk w X cs e') (he : e ≠ e') (i : Nat) (u : Value) : (w.setCell ⟨X, i, none⟩ u).ownsRow B e s v n xs :=
  h.kept (grown_set w X i u) (.inr (own_ne_blk h hX he))
theorem row_none' {w : World} {B e s n c : Nat} {A : Option Addr} {xs : List Value} (h : w.ownsRow B e s (.slice A n c) n xs) : A = none → n = 0 ∧ c = 0 := by
  rintro rfl
  rcases h.2 with ⟨hv, h0⟩ | ⟨g, _, _, hv, _⟩
  · simp at hv; exact ⟨h0, hv.2⟩
  · simp at hv
/-- The block of A is of elements of this type. -/
def Typed (w : World) (A : Option Addr) (e : TypeId) : Prop := ∀ a, A = some a → ∃ cs fr, w.heap[a.block]? = some (.cells cs e fr)
theorem Typed.below {w w' : World} {A : Option Addr} {e : TypeId} (h : Typed w A e) (hb : Below w.heap.size w w') : Typed w' A e := by
  intro a ha
  obtain ⟨cs, fr, hc⟩ := h a ha
  exact ⟨cs, fr, (hb.block _ (Array.getElem?_eq_some_iff.1 hc).1).trans hc⟩
theorem Typed.of_row {w : World} {B e s n c : Nat} {A : Option Addr} {xs : List Value} (h : w.ownsRow B e s (.slice A n c) n xs) : Typed w A e := by
  intro a ha
  rcases h.2 with ⟨hv, _⟩ | ⟨g, cap, cur, hv, _, hg, _⟩
  · simp [ha] at hv
  · simp only [Value.slice.injEq] at hv
    rw [ha] at hv
    rw [Option.some.inj hv.1]
    exact ⟨cur, _, hg⟩
theorem run_app {w : World} {P : Program} (ty t e : TypeId) (i : TypeInfo) (z : Value) (size bytes : Nat) (ht : P.underlying t = some (.slice e)) (hi : P.info? e = some i) (hz : i.zero = some z) (hs : i.size = size) (hby : i.bytes = bytes) (hzs : z.cells.size = size) (hsz : 0 < size)
    (B : Nat) (v : Value) (n : Nat) (xs : List Value) (hown : w.ownsRow B e size v n xs) (A : Option Addr) (m c : Nat) (news : List Value) (hl : news.length = m * size) (hL : Lies w A news) (h1 : ∀ u ∈ news, u.oneCell' = true) (h63 : n + m ≤ 10000000) (hby2 : bytes ≤ 1000) (hB : B ≤ w.heap.size) :
    ∃ A' c' w', (Builtin.append_ #[t, t] ty #[v, .slice A m c]).run P w = .ok (.slice A' (n + m) c') w' ∧ w'.ownsRow B e size (.slice A' (n + m) c') (n + m) (xs ++ news) ∧ w.grownBy w' v.ownBlock := by
  have hform : ∀ {w' : World} {v' : Value} {k : Nat} {ys : List Value}, w'.ownsRow B e size v' k ys → ∃ A' c', v' = .slice A' k c' := by
    intro w' v' k ys h
    rcases h.2 with ⟨h1, h2⟩ | ⟨g, cap, cur, h1, _⟩
    · subst h2; exact ⟨_, _, h1⟩
    · exact ⟨_, _, h1⟩
  have hb2 : (n + m) * bytes ≤ 140737488355328 := by
    have := Nat.mul_le_mul h63 hby2
    omega
  cases A with
  | none =>
    have hm0 : news = [] := by
      cases news with
      | nil => rfl
      | cons a l => obtain ⟨g, o, hA, _⟩ := hL (by simp); cases hA
    subst hm0
    have hm : m = 0 := by
      rcases Nat.eq_zero_or_pos m with h | h
      · exact h
      · have := Nat.mul_pos h hsz; simp at hl; omega
    subst hm
    obtain ⟨A', c', rfl⟩ := hform hown
    refine ⟨A', c', w, ?_, by simpa using hown, World.grownBy.refl w _⟩
    rcases hown.2 with ⟨hv, h2⟩ | ⟨g, cap, cur, hv, _, _, hnc, _⟩
    · injection hv with e1 e2 e3
      subst e1; subst e3; subst h2
      simp [Builtin.append_, run_underlying ht, sizeOf, typeInfo, hi, Builtin.lenOf, Builtin.firstCells]
    · injection hv with e1 e2 e3
      subst e1; subst e3
      simp [Builtin.append_, run_underlying ht, sizeOf, typeInfo, hi, Builtin.lenOf, Builtin.firstCells, hnc, storeCells]
  | some ad =>
    have hcells : ∀ j u, news[j]? = some u → w.cell? (ad.add j) = some u := by
      intro j u hu
      obtain ⟨g, o, hA, _, hc⟩ := hL (by have := (List.getElem?_eq_some_iff.1 hu).1; omega)
      injection hA with hA
      subst hA
      rw [add_lit']
      exact hc j u hu
    obtain ⟨v', w', hrun, h2, h3, _⟩ := run_append_own_at (P := P) w B t ty e i z size bytes ht hi hz hs hby hzs hsz v n xs hown ad m c news hl hcells h1 (by simp only [maxLen]; omega) hb2 hB
    obtain ⟨A', c', rfl⟩ := hform h2
    exact ⟨A', c', w', hrun, h2, h3⟩
theorem wp_app {w : World} {P : Program} {o : Oper} {a : Act} {K : Act → World → Prop} {Q : Exit → Act → World → Prop} (s x : Operand) (t e : TypeId)
    (ho : o.op = .call { callee := .builtin .append, args := #[s, x], argTypes := #[t, t] }) (i : TypeInfo) (z : Value) (size bytes : Nat) (ht : P.underlying t = some (.slice e)) (hi : P.info? e = some i) (hz : i.zero = some z) (hs : i.size = size) (hby : i.bytes = bytes) (hzs : z.cells.size = size) (hsz : 0 < size)
    (B : Nat) (v : Value) (hsv : a.eval s = v) (n : Nat) (xs : List Value) (hown : w.ownsRow B e size v n xs) (A : Option Addr) (m c : Nat) (hx : a.eval x = .slice A m c) (news : List Value) (hl : news.length = m * size) (hL : Lies w A news) (h1 : ∀ u ∈ news, u.oneCell' = true) (h63 : n + m ≤ 10000000) (hby2 : bytes ≤ 1000) (hB : B ≤ w.heap.size)
    (hK : ∀ A' c' w', w'.ownsRow B e size (.slice A' (n + m) c') (n + m) (xs ++ news) → w.grownBy w' v.ownBlock → K (a.put o.dst (.slice A' (n + m) c')) w') : o.wp P a w K Q := by
  obtain ⟨A', c', w', hrun, h2, h3⟩ := run_app (P := P) o.type t e i z size bytes ht hi hz hs hby hzs hsz B v n xs hown A m c news hl hL h1 h63 hby2 hB
  unfold Oper.wp execOp
  simp only [ho, resolve, invoke, builtin, Sem.run_bind, Sem.run_pure, Result.andThen_ok, List.map_toArray, List.map_cons, List.map_nil, hsv, hx, hrun]
  exact hK _ _ _ h2 h3
theorem wpOp_of {P : Program} {ops : Array Oper} {Q : Exit → Act → World → Prop} {i : Nat} {K : Act → World → Prop} {a : Act} {w : World} {o : Oper} (ho : ops[i]? = some o) (hg : o.guard = none) (h : o.wp P a w K Q) : wpOp P ops Q i K a w := by
  unfold wpOp
  simp only [ho]
  rw [if_pos (by simp [Region.wanted, hg])]
  exact .inl h
theorem own_weaken {w : World} {B B' e size n : Nat} {v : Value} {xs : List Value} (h : w.ownsRow B e size v n xs) (hB : B' ≤ B) : w.ownsRow B' e size v n xs :=
  ⟨h.1, h.2.imp id (fun ⟨g, c, cur, h1, h2, h3⟩ => ⟨g, c, cur, h1, Nat.le_trans hB h2, h3⟩)⟩
def txc (l : List Bs) : List Value := l.map fun t => .string (mk t)
theorem txc_at (l : List Bs) (j : Nat) (h : j < l.length) : (txc l)[j]? = some (.string (mk l[j])) := by simp [txc, h]
theorem txc_snoc (l : List Bs) (t : Bs) : txc (l ++ [t]) = txc l ++ [.string (mk t)] := by simp [txc]
theorem row_kind {w : World} {B : Nat} {e : TypeId} {size : Nat} {v : Value} {n : Nat} {xs : List Value} (h : w.ownsRow B e size v n xs) (g : Nat) (hg : v.ownBlock = some g) : ∃ c fz, w.heap[g]? = some (.cells c e fz) := by
  rcases h.2 with ⟨rfl, _⟩ | ⟨g', c', cur, rfl, _, hh, _⟩
  · cases hg
  · cases hg
    exact ⟨_, _, hh⟩
theorem cell_old (w : World) (o : Obj) (p : Addr) (h : p.block < w.heap.size) : (w.alloc o).cell? p = w.cell? p := World.cell?_of_block (Below.heap_alloc w o p.block h)
theorem own_form' {w : World} {base size : Nat} {e : TypeId} {v : Value} {n : Nat} {xs : List Value} (h : w.ownsRow base e size v n xs) : ∃ A cap, v = .slice A n cap := by
  rcases h.2 with ⟨h1, h2⟩ | ⟨g, cap, cur, h1, _⟩
  · subst h2; exact ⟨_, _, h1⟩
  · exact ⟨_, _, h1⟩
theorem own_set3 {w : World} {B s n X : Nat} {e e' : TypeId} {v : Value} {xs : List Value} {cs : Array Value} (h : w.ownsRow B e s v n xs) (hX : Blk w X cs e') (he : e ≠ e') (a b c : Value) : (((w.setCell ⟨X, 0, none⟩ a).setCell ⟨X, 1, none⟩ b).setCell ⟨X, 2, none⟩ c).ownsRow B e s v n xs :=
  own_set (own_set (own_set h hX he 0 a) (hX.set 0 a) he 1 b) ((hX.set 0 a).set 1 b) he 2 c
theorem row_cap' {w : World} {B cap n size : Nat} {e : TypeId} {A : Option Addr} {xs : List Value} (h : w.ownsRow B e size (.slice A n cap) n xs) : n ≤ cap := by
  rcases h.2 with ⟨hv, h0⟩ | ⟨g, c, cur, hv, _, _, hc, _⟩
  · omega
  · injection hv with _ _ h3
    subst h3
    exact hc
theorem row_lies {w : World} {B n c e : Nat} {A : Option Addr} {xs : List Value} (h : w.ownsRow B e 1 (.slice A n c) n xs) : Lies w A xs := by
  intro h0
  have hl := h.1
  obtain ⟨g, cc, hv, hgb, hgl⟩ := h.form (by omega)
  injection hv with hA _ hc
  subst hA
  refine ⟨g, 0, rfl, hgl, fun j u hj => ?_⟩
  rw [Nat.zero_add, h.cellAt j (by have := (List.getElem?_eq_some_iff.1 hj).1; omega)]
  exact hj
/-- All is as it was but for blocks of X and new ones. -/
structure Frm (X : List Nat) (w w' : World) : Prop where
  os : w'.os = w.os
  tape : w'.tape = w.tape
  output : w'.output = w.output
  size : w.heap.size ≤ w'.heap.size
  block : ∀ k, k < w.heap.size → k ∉ X → w'.heap[k]? = w.heap[k]?
theorem Frm.refl (X : List Nat) (w : World) : Frm X w w := ⟨rfl, rfl, rfl, Nat.le_refl _, fun _ _ _ => rfl⟩
theorem Frm.of_below {w w' : World} (X : List Nat) (h : Below w.heap.size w w') : Frm X w w' := ⟨h.os, h.tape, h.output, h.size, fun k hk _ => h.block k hk⟩
theorem Frm.trans {X Y : List Nat} {a b c : World} (h : Frm X a b) (k : Frm Y b c) (hY : ∀ y ∈ Y, y ∈ X ∨ a.heap.size ≤ y) : Frm X a c :=
  ⟨k.os.trans h.os, k.tape.trans h.tape, k.output.trans h.output, Nat.le_trans h.size k.size, fun i hi hx => (k.block i (Nat.lt_of_lt_of_le hi h.size) (fun hy => (hY i hy).elim hx (fun hh => by omega))).trans (h.block i hi hx)⟩
theorem Frm.mono {X Y : List Nat} {w w' : World} (h : Frm X w w') (hXY : ∀ x ∈ X, x ∈ Y) : Frm Y w w' := ⟨h.os, h.tape, h.output, h.size, fun k hk hy => h.block k hk (fun hx => hy (hXY k hx))⟩
theorem Frm.drew {X : List Nat} {w w' : World} (h : Frm X w w') : Frm X w w'.drew := ⟨h.os, h.tape, h.output, h.size, h.block⟩
theorem Frm.alloc {X : List Nat} {w w' : World} (h : Frm X w w') (o : Obj) : Frm X w (w'.alloc o) :=
  ⟨h.os, h.tape, h.output, by simp; have := h.size; omega, fun k hk hx => (Below.heap_alloc w' o k (Nat.lt_of_lt_of_le hk h.size)).trans (h.block k hk hx)⟩
theorem Frm.setCell {X : List Nat} {w w' : World} (h : Frm X w w') {p : Addr} (hp : p.block ∈ X ∨ w.heap.size ≤ p.block) (v : Value) : Frm X w (w'.setCell p v) :=
  ⟨h.os, h.tape, h.output, by simp; exact h.size, fun k hk hx => (Below.heap_setCell w' p v k (fun e => by subst e; exact hp.elim hx (fun hh => by omega))).trans (h.block k hk hx)⟩
theorem Frm.grown {X : List Nat} {w w1 w2 : World} {row : Option Nat} (h : Frm X w w1) (hg : w1.grownBy w2 row) (hr : ∀ k, row = some k → k ∈ X ∨ w.heap.size ≤ k) : Frm X w w2 :=
  ⟨hg.os.trans h.os, hg.tape.trans h.tape, hg.output.trans h.output, Nat.le_trans h.size hg.size, fun k hk hx => (hg.block k (Nat.lt_of_lt_of_le hk h.size) (fun e => (hr k e.symm).elim hx (fun hh => by omega))).trans (h.block k hk hx)⟩
theorem Frm.below {X : List Nat} {w w' : World} {B : Nat} (h : Frm X w w') (hX : ∀ x ∈ X, B ≤ x) (hB : B ≤ w.heap.size) : Below B w w' := ⟨h.os, h.tape, h.output, h.size, fun k hk => h.block k (by omega) (fun hx => by have := hX k hx; omega)⟩
theorem Frm.cell {X : List Nat} {w w' : World} (h : Frm X w w') {p : Addr} (hp : p.block < w.heap.size) (hx : p.block ∉ X) : w'.cell? p = w.cell? p := World.cell?_of_block (h.block _ hp hx)
theorem Frm.blk {X : List Nat} {w w' : World} (h : Frm X w w') {b : Nat} {cs : Array Value} {e : TypeId} (hb : Blk w b cs e) (hx : b ∉ X) : Blk w' b cs e := (h.block b hb.lt hx).trans hb
theorem Frm.row {X : List Nat} {w w' : World} (h : Frm X w w') {B size n : Nat} {e : TypeId} {v : Value} {xs : List Value} (ho : w.ownsRow B e size v n xs) (hx : ∀ g, v.ownBlock = some g → g ∉ X) : w'.ownsRow B e size v n xs := by
  refine ⟨ho.1, ho.2.imp id ?_⟩
  rintro ⟨g, c, cur, hv, hB, hh, r⟩
  exact ⟨g, c, cur, hv, hB, (h.block g (Array.getElem?_eq_some_iff.1 hh).1 (hx g (by rw [hv]; rfl))).trans hh, r⟩
theorem Frm.lies {X : List Nat} {w w' : World} (h : Frm X w w') {A : Option Addr} {xs : List Value} (ho : Lies w A xs) (hx : ∀ a, A = some a → a.block ∉ X) : Lies w' A xs := by
  intro h0
  obtain ⟨g, o, hA, hg, hc⟩ := ho h0
  have hn : g ∉ X := hx _ hA
  exact ⟨g, o, hA, Nat.lt_of_lt_of_le hg h.size, fun j u hu => (h.cell (p := ⟨g, o + j, none⟩) hg hn).trans (hc j u hu)⟩
end Go.Proofs.YtcmcdddnckcpcaaGreatDoor
