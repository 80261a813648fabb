/- The three rows of a word's parts while they are filled: what an append, a new block, a store keeps. -/
import Derived.Test.YtejokbfejkkpmaaDoorRd
import Derived.Test.YtejokbfejkkpmaaDoorIt
import Derived.Test.YtejokbfejkkpmaaDoorOs
namespace Go.Proofs.YtejokbfejkkpmaaDoor
open Go.RowKit Go.Maps Go.WideMaps
structure Bd (w wS : World) (R X H cnt : Nat) (f : Pr → Option Nat) (W : World) (cs : Array Value) (vP : Value) (nP : Nat) (xP : List Value) (vN : Value) (nN : Nat) (xN : List Value) (vQ : Value) (nQ : Nat) (xQ : List Value) : Prop where
  hb : RBlk W R cs
  hx : Boxed W X 109 (.pointer (some ⟨R, 0, none⟩))
  hM : RankM W H cnt f
  oP : W.ownsRow w.heap.size 9 1 vP nP xP
  oN : W.ownsRow w.heap.size 3 1 vN nN xN
  oQ : W.ownsRow w.heap.size 3 1 vQ nQ xQ
  nq : ∀ g, vN.ownBlock = some g → vQ.ownBlock ≠ some g
  bel : Below w.heap.size w W
  hR : w.heap.size ≤ R
  k9 : K9 wS W
section
variable {w wS W W' : World} {R X H cnt : Nat} {f : Pr → Option Nat} {cs : Array Value} {vP : Value} {nP : Nat} {xP : List Value} {vN : Value} {nN : Nat} {xN : List Value} {vQ : Value} {nQ : Nat} {xQ : List Value}
theorem bd_kept (h : Bd w wS R X H cnt f W cs vP nP xP vN nN xN vQ nQ xQ) (hg : W.grownBy W' none) : Bd w wS R X H cnt f W' cs vP nP xP vN nN xN vQ nQ xQ :=
  ⟨h.hb.kept hg (by simp), h.hx.kept hg (by simp), h.hM.kept hg (by simp), h.oP.kept hg (by cases vP.ownBlock <;> simp), h.oN.kept hg (by cases vN.ownBlock <;> simp), h.oQ.kept hg (by cases vQ.ownBlock <;> simp), h.nq, h.bel.grown hg h.bel.size (fun k e => by cases e), h.hR, h.k9.trans (k9_none hg)⟩
theorem bd_alloc (h : Bd w wS R X H cnt f W cs vP nP xP vN nN xN vQ nQ xQ) (o : Obj) : Bd w wS R X H cnt f (W.alloc o) cs vP nP xP vN nN xN vQ nQ xQ := bd_kept h (World.grownBy_alloc W o none)
theorem bd_drew (h : Bd w wS R X H cnt f W cs vP nP xP vN nN xN vQ nQ xQ) : Bd w wS R X H cnt f W.drew cs vP nP xP vN nN xN vQ nQ xQ := bd_kept h (grown_drew W none)
theorem key_of {u v : Value} (hu : ∀ g, v.ownBlock = some g → u.ownBlock ≠ some g) : u.ownBlock = none ∨ u.ownBlock ≠ v.ownBlock := by
  cases e : v.ownBlock with
  | none => cases u.ownBlock <;> simp
  | some g => exact .inr (hu g e)
theorem new_apart {u v : Value} {g : Nat} {B e n : Nat} {xs : List Value} (hu : W.ownsRow B e 1 u n xs) (h1 : ∀ k, v.ownBlock = some k → u.ownBlock ≠ some k) (hat : v.ownBlock = some g ∨ g = W.heap.size) : u.ownBlock ≠ some g := by
  rcases hat with h | h
  · exact h1 g h
  · intro e'
    have := (hu.lt g e').2
    omega
theorem bd_appP (h : Bd w wS R X H cnt f W cs vP nP xP vN nN xN vQ nQ xQ) (hg : W.grownBy W' vP.ownBlock) {v' : Value} {n' : Nat} {x' : List Value} (ho : W'.ownsRow w.heap.size 9 1 v' n' x') : Bd w wS R X H cnt f W' cs v' n' x' vN nN xN vQ nQ xQ :=
  ⟨h.hb.kept hg (h.hb.apart h.oP (by decide)), h.hx.kept hg (fun e => own_ne_cells h.oP h.hx (by decide) e.symm), h.hM.kept hg (fun e => h.hM.not_row h.oP e.symm), ho, h.oN.kept hg (key_of fun g e => own_two h.oP h.oN (by decide) e), h.oQ.kept hg (key_of fun g e => own_two h.oP h.oQ (by decide) e), h.nq, h.bel.grown hg h.bel.size (fun k e => (h.oP.lt k e).1), h.hR, h.k9.trans (k9_grown h.oP (by decide) hg)⟩
theorem bd_appN (h : Bd w wS R X H cnt f W cs vP nP xP vN nN xN vQ nQ xQ) (hg : W.grownBy W' vN.ownBlock) {g c n' : Nat} {x' : List Value} (ho : W'.ownsRow w.heap.size 3 1 (.slice (some ⟨g, 0, none⟩) n' c) n' x') (hat : vN.ownBlock = some g ∨ g = W.heap.size) : Bd w wS R X H cnt f W' cs vP nP xP (.slice (some ⟨g, 0, none⟩) n' c) n' x' vQ nQ xQ :=
  ⟨h.hb.kept hg (h.hb.apart h.oN (by decide)), h.hx.kept hg (fun e => own_ne_cells h.oN h.hx (by decide) e.symm), h.hM.kept hg (fun e => h.hM.not_row h.oN e.symm), h.oP.kept hg (key_of fun g e => own_two h.oN h.oP (by decide) e), ho, h.oQ.kept hg (key_of fun g e => h.nq g e),
    fun k e => by simp only [Value.ownBlock, Option.some.injEq] at e; subst e; exact new_apart h.oQ h.nq hat, h.bel.grown hg h.bel.size (fun k e => (h.oN.lt k e).1), h.hR, h.k9.trans (k9_grown h.oN (by decide) hg)⟩
theorem bd_appQ (h : Bd w wS R X H cnt f W cs vP nP xP vN nN xN vQ nQ xQ) (hg : W.grownBy W' vQ.ownBlock) {g c n' : Nat} {x' : List Value} (ho : W'.ownsRow w.heap.size 3 1 (.slice (some ⟨g, 0, none⟩) n' c) n' x') (hat : vQ.ownBlock = some g ∨ g = W.heap.size) : Bd w wS R X H cnt f W' cs vP nP xP vN nN xN (.slice (some ⟨g, 0, none⟩) n' c) n' x' :=
  ⟨h.hb.kept hg (h.hb.apart h.oQ (by decide)), h.hx.kept hg (fun e => own_ne_cells h.oQ h.hx (by decide) e.symm), h.hM.kept hg (fun e => h.hM.not_row h.oQ e.symm), h.oP.kept hg (key_of fun g e => own_two h.oQ h.oP (by decide) e), h.oN.kept hg (key_of fun g e e2 => h.nq g e2 e), ho,
    fun k e e2 => new_apart h.oN (fun g e e2 => h.nq g e2 e) hat (by simp only [Value.ownBlock, Option.some.injEq] at e2; subst e2; exact e), h.bel.grown hg h.bel.size (fun k e => (h.oQ.lt k e).1), h.hR, h.k9.trans (k9_grown h.oQ (by decide) hg)⟩
theorem bd_set (h : Bd w wS R X H cnt f W cs vP nP xP vN nN xN vQ nQ xQ) (i : Nat) (v : Value) : Bd w wS R X H cnt f (W.setCell ⟨R, i, none⟩ v) (cs.setIfInBounds i v) vP nP xP vN nN xN vQ nQ xQ := by
  have hg := grown_set W R i v
  exact ⟨h.hb.set i v, h.hx.kept hg (fun e => by
      cases e
      have e1 : W.heap[R]? = some (.cells #[.pointer (some ⟨R, 0, none⟩)] 109 (0, 0)) := h.hx
      have e2 : W.heap[R]? = some (.cells cs 114 (0, 0)) := h.hb
      rw [e1] at e2
      simp at e2), h.hM.kept hg (fun e => by cases e; exact h.hM.not_cells h.hb rfl), h.oP.kept hg (.inr (h.hb.apart h.oP (by decide))), h.oN.kept hg (.inr (h.hb.apart h.oN (by decide))), h.oQ.kept hg (.inr (h.hb.apart h.oQ (by decide))), h.nq, h.bel.setCell (p := ⟨R, i, none⟩) h.hR _, h.hR, h.k9.trans (k9_set h.hb i v)⟩
end
/-- A new block of one cell beside. -/
def New1 (W : World) (b : Nat) (v : Value) (e : TypeId) : Prop := W.heap[b]? = some (.cells #[v] e (0, 0))
theorem New1.kept {W W' : World} {b : Nat} {v : Value} {e : TypeId} {row : Option Nat} (h : New1 W b v e) (hg : W.grownBy W' row) (hne : row ≠ some b) : New1 W' b v e :=
  (hg.block b (Array.getElem?_eq_some_iff.1 h).1 (fun e => hne e.symm)).trans h
theorem New1.alloc {W : World} {b : Nat} {v : Value} {e : TypeId} (h : New1 W b v e) (o : Obj) : New1 (W.alloc o) b v e := h.kept (World.grownBy_alloc W o none) (by simp)
theorem New1.new (W : World) (v : Value) (e : TypeId) : New1 (W.alloc (.cells #[v] e)) W.heap.size v e := heap_alloc_new W _
/-- An append of a block of one cell, as an operation of a region. -/
theorem wpOp_append1 {ops : Array Oper} {Q : Exit → Act → World → Prop} {i : Nat} {o : Oper} {a : Act} {w : World} {K : Act → World → Prop} (hi : ops[i]? = some o) (hgd : o.guard = none) (s x : Operand) (t : TypeId)
    (hop : o.op = .call { callee := .builtin .append, args := #[s, x], argTypes := #[t, t] }) (base : Nat) (e : TypeId) (ti : TypeInfo) (z : Value) (bytes : Nat) (ht : Tryd.prog.underlying t = some (.slice e)) (hti : Tryd.prog.info? e = some ti) (hz : ti.zero = some z)
    (hsize : ti.size = 1) (hby : ti.bytes = bytes) (hzs : z.cells.size = 1) (hb16 : bytes ≤ 16) (v : Value) (n : Nat) (xs : List Value) (hs : a.eval s = v) (hown : w.ownsRow base e 1 v n xs) (b : Nat) (u : Value) (hx : a.eval x = .slice (some ⟨b, 0, none⟩) 1 1) (hb : New1 w b u e) (h1 : u.oneCell' = true)
    (hn : n ≤ 100000) (hbase : base ≤ w.heap.size)
    (hK : ∀ g cap w', w'.ownsRow base e 1 (.slice (some ⟨g, 0, none⟩) (n + 1) cap) (n + 1) (xs ++ [u]) → w.grownBy w' v.ownBlock → (v.ownBlock = some g ∨ g = w.heap.size) → K (a.put o.dst (.slice (some ⟨g, 0, none⟩) (n + 1) cap)) w') : wpOp Tryd.prog ops Q i K a w := by
  unfold wpOp
  rw [hi]
  simp only
  have hw : Region.wanted o (yielded ops a.tmps) = true := by simp [Region.wanted, hgd]
  rw [if_pos hw]
  have hbb : (n + 1) * bytes ≤ 140737488355328 := Nat.le_trans (Nat.mul_le_mul_left (n + 1) hb16) (by omega)
  exact .inl (wp_append_lies w s x t hop base e ti z 1 bytes ht hti hz hsize hby hzs (by omega) v n xs hs hown ⟨b, 0, none⟩ 1 1 [u] hx rfl (World.news_of_block (cs := #[u]) hb) (by simpa using h1) (by omega) (by unfold maxLen; omega) hbb hbase w.heap.size rfl
    fun g cap w' h2 h3 h4 _ => hK g cap w' h2 h3 h4)
end Go.Proofs.YtejokbfejkkpmaaDoor
