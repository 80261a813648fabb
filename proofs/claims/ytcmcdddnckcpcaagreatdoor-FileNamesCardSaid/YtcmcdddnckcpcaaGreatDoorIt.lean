/- A range over a function value that has bound arguments (a method value such as s.free): the law for the caller, over the library's own law on the statement. -/
import Derived.Test.YtcmcdddnckcpcaaGreatDoorKt
import Derived.RangeFuncNested
import Derived.RangeFuncBound
import Derived.RangeFuncCalls
import Derived.RangeFuncLeaves
import Derived.RangeFuncBox
import Derived.Shelf.Abstract
import Derived.WalkKit
import Derived.OwnWalkIn
import Derived.TacticsInMore
import Derived.LoopNIn
import Derived.LoopIn
namespace Go.Proofs.YtcmcdddnckcpcaaGreatDoor
open Go.RowKit Go.Shelf
variable {F : Fence} {n : Nat} {P : Program}

/-- What an iterator's call (function gf, bound arguments first, captured lb) does with whatever loop body: all of some xs with S has come, or a part with Sp and the body has said no more. -/
def Stops {α : Type} (F : Fence) (n : Nat) (P : Program) (gf : Nat) (first lb : Array Value) (encs : α → Array Value) (Kp : World → World → Prop) (R : List α → α → Prop) (S Sp : List α → Prop) (w : World) : Prop :=
  ∀ (l : Nat) (J Jx : List α → World → Prop) (W : World), Below w.heap.size w W → AbidesFrom W.heap.size J → AbidesFrom W.heap.size Jx →
    (∀ pre x W1, J pre W1 → R pre x → YieldAt F (n - 1) P l (encs x) W1 fun e W' => (e = .returned (.bool true) ∧ J (pre ++ [x]) W' ∧ Kp W1 W') ∨ (e = .returned (.bool false) ∧ Jx (pre ++ [x]) W')) →
    J [] W → CallsIn F n P gf (first ++ #[.func (.yield l) #[] #[]] ++ lb) W fun e W' => (∃ v, e = .returned v) ∧ ((∃ xs, S xs ∧ J xs W') ∨ (∃ pre, Sp pre ∧ Jx pre W'))

/-- Block l is there and holds neither cells nor a walk. -/
def NoCells (W : World) (l : Nat) : Prop := ∃ o, W.heap[l]? = some o ∧ o.isCells = false ∧ o.isWalk = false

theorem wpIn_range_first {α : Type} {g : Operand} {ps : Array Tmp} {assign body : Code} {Q : Exit → Act → World → Prop} {a : Act} {w : World}
    (hro : F.round = none) (h1 : 1 ≤ n) {gf : Nat} {first lb : Array Value} (hg : a.eval g = .func (.func gf) first lb) (hFg : F.fn gf) (eg : ∀ args w, (callFunc gf args).run P w = .ok (.enter gf args) w)
    {encs : α → Array Value} {Kp : World → World → Prop} {R : List α → α → Prop} {S Sp : List α → Prop} {w0 : World} (hseq : Stops F (n - 1) P gf first lb encs Kp R S Sp w0)
    (hKt : ∀ {A B C : World}, Kp A B → Kp B C → Kp A C) (hKb : ∀ (W : World) (l : Nat) (o o' : Obj), w.heap.size ≤ l → W.heap[l]? = some o → o.isCells = false → o.isWalk = false → Kp W (W.putObj l o')) (hb0 : Below w0.heap.size w0 w) (hps : ∀ x, (encs x).size = ps.size)
    (I : List α → World → Prop) (Ix : Code → List α → World → Prop) (hI : OwnFrom w.heap.size I) (hIx : ∀ c, OwnFrom w.heap.size (Ix c)) (h0 : I [] w)
    (hround : ∀ (l : Nat) (pre : List α) (x : α) (W : World), I pre W → R pre x → assign.wpIn (F.inRound l) (n - 1 - 1) P (Exit.then (fun a₁ w₁ => KeepsOthers W w₁ ∧ ∀ l' o', w.heap.size ≤ l' → NoCells w₁ l' →
        body.wpIn (F.inRound l) (n - 1 - 1) P (ownPostK (fun _ W' => Kp W W') I Ix (pre ++ [x]) (w₁.putObj l' o')) a₁ (w₁.putObj l' o')) (fun _ _ _ => False)) { tmps := (ps.zip (encs x)).foldl (fun t (p, v) => t.setIfInBounds p v) a.tmps, defers := [] } W)
    (hdone : ∀ (D : Nat) (xs : List α) (W : World), w.heap.size ≤ D → S xs → I xs W → W.heap[D]? = some (.deferred (some [])) → Q .normal { a with defers := { target := .collected D, args := #[] } :: a.defers } W)
    (hstop : ∀ (D : Nat) (c : Code) (pre : List α) (W : World), w.heap.size ≤ D → Sp pre → Ix c pre W → W.heap[D]? = some (.deferred (some [])) → c.wpIn F n P Q { a with defers := { target := .collected D, args := #[] } :: a.defers } W) :
    (Code.rangeFunc g ps assign body).wpIn F n P Q a w := by
  refine wpIn_rangeFunc ?_
  intro fn hfn
  rw [hro]
  obtain ⟨rec, hrec⟩ : ∃ rec : LoopState → Option Code → Loop, rec = fun st pe => { state := st, pending := pe, fn, tmps := a.tmps, params := ps, assign, body, defers := w.heap.size } := ⟨_, rfl⟩
  obtain ⟨W1, hW1⟩ : ∃ W1, (w.alloc (.deferred (some []))).alloc (.loop (rec .ready none)) = W1 := ⟨_, rfl⟩
  have hz1 : W1.heap.size = w.heap.size + 1 + 1 := by rw [← hW1]; simp
  have hL1 : W1.heap[w.heap.size + 1]? = some (.loop (rec .ready none)) := by
    rw [← hW1]; have := World.alloc_heap_new (w.alloc (.deferred (some []))) (.loop (rec .ready none)); rwa [World.size_alloc] at this
  have hK1 : W1.heap[w.heap.size]? = some (.deferred (some [])) := by
    rw [← hW1]; exact (Below.heap_alloc _ _ _ (by simp)).trans (World.alloc_heap_new w _)
  have hI1 : I [] W1 := by rw [← hW1]; exact hI.alloc _ (hI.alloc _ h0)
  have hb1 : Below w0.heap.size w0 W1 := by
    rw [← hW1]; exact hb0.trans ((((Below.refl _ w).alloc (Nat.le_refl _) _).alloc (by simp) _).mono hb0.size)
  refine ⟨w.heap.size + 1, [{ target := .collected w.heap.size, args := #[] }], W1, { target := .fn (.func gf) lb, args := first ++ #[.func (.yield (w.heap.size + 1)) #[] #[]] }, W1, gf, first ++ #[.func (.yield (w.heap.size + 1)) #[] #[]] ++ lb, W1, ?_, ?_, ?_, ?_, fun _ => h1, ?_⟩
  · rw [← hW1, hrec]; exact run_enterLoop_outer _ _ _ _ _
  · simp only [resolve, hg]
    simp [go_sem]
  · intro f' hf'; simp [Target.leads] at hf'; subst hf'; exact hFg
  · show (callFunc gf _).run P W1 = _
    exact eg _ _
  have hnw : ∀ {A : World} {row : Option Nat}, (∀ r, row = some r → W1.heap.size ≤ r ∧ ∃ o : Obj, A.heap[r]? = some o ∧ o.isWalk = true) → (∀ r, row = some r → w.heap.size ≤ r ∧ ∃ o : Obj, A.heap[r]? = some o ∧ o.isCells = false) :=
    fun hr r e => by obtain ⟨hB', o, ho, hw⟩ := hr r e; exact ⟨by omega, o, ho, Obj.not_cells_of_walk hw⟩
  refine (hseq (w.heap.size + 1)
    (fun pre W => I pre W ∧ W.heap[w.heap.size + 1]? = some (.loop (rec .ready none)) ∧ W.heap[w.heap.size]? = some (.deferred (some [])))
    (fun pre W => ∃ c, Ix c pre W ∧ W.heap[w.heap.size + 1]? = some (.loop (rec .done (some c))) ∧ W.heap[w.heap.size]? = some (.deferred (some [])))
    W1 hb1
    (fun s A A' row hs hg' hr => ⟨hI s A A' row hs.1 hg' (hnw hr), (grownBy_keeps hg' (fun r e => (hr r e).2) hs.2.1 rfl).trans hs.2.1, (grownBy_keeps hg' (fun r e => (hr r e).2) hs.2.2 rfl).trans hs.2.2⟩)
    (fun s A A' row ⟨c, hc, hl, hk⟩ hg' hr => ⟨c, hIx c s A A' row hc hg' (hnw hr), (grownBy_keeps hg' (fun r e => (hr r e).2) hl rfl).trans hl, (grownBy_keeps hg' (fun r e => (hr r e).2) hk rfl).trans hk⟩)
    ?_ ⟨hI1, hL1, hK1⟩).mono ?_
  · rintro pre x W ⟨hi, hl, hk⟩ hR
    have hy := run_yield (P := P) (args := encs x) hl (by rw [hrec]; exact hps x)
    rw [hrec] at hy
    refine ⟨fn, _, assign, body, hy, roundIn_of_wpIn hfn (wpIn_mono (hround (w.heap.size + 1) pre x W hi hR) ?_)⟩
    rintro e a1 w1 hp
    cases e with
    | normal =>
      obtain ⟨hko, hbody⟩ := hp
      have hl1 := hko.same _ _ hl rfl
      have hk1 := hko.same _ _ hk rfl
      have hlt : w.heap.size + 1 < w1.heap.size := (Array.getElem?_eq_some_iff.1 hl1).1
      refine ⟨_, run_beginRound hl1 (by rw [hrec]), ?_⟩
      have hl2 : (w1.putObj (w.heap.size + 1) (.loop { rec .ready none with state := .busy })).heap[w.heap.size + 1]? = some (.loop { rec .ready none with state := .busy }) := World.putObj_heap_same hlt
      have hk2 : (w1.putObj (w.heap.size + 1) (.loop { rec .ready none with state := .busy })).heap[w.heap.size]? = some (.deferred (some [])) := (World.putObj_heap_other (by omega)).trans hk1
      have fin : ∀ (jump : Option Code) (W3 : World), KeepsOthers (w1.putObj (w.heap.size + 1) (.loop { rec .ready none with state := .busy })) W3 →
          (Instr.endRound (w.heap.size + 1) jump).run P W3 = .ok (.bool jump.isNone) (W3.putObj (w.heap.size + 1) (.loop (rec (if jump.isNone then .ready else .done) jump))) ∧
          W3.heap[w.heap.size + 1]? = some (.loop { rec .ready none with state := .busy }) ∧
          (W3.putObj (w.heap.size + 1) (.loop (rec (if jump.isNone then .ready else .done) jump))).heap[w.heap.size + 1]? = some (.loop (rec (if jump.isNone then .ready else .done) jump)) ∧
          (W3.putObj (w.heap.size + 1) (.loop (rec (if jump.isNone then .ready else .done) jump))).heap[w.heap.size]? = some (.deferred (some [])) := fun jump W3 hk3 => by
        have hl3 := hk3.same _ _ hl2 rfl
        have := run_endRound (P := P) jump hl3
        rw [hrec] at this ⊢
        exact ⟨this, by rw [hrec] at hl3; exact hl3, World.putObj_heap_same (Array.getElem?_eq_some_iff.1 hl3).1, (World.putObj_heap_other (by omega)).trans (hk3.same _ _ hk2 rfl)⟩
      refine wpIn_mono (hbody _ _ (by omega) ⟨_, hl1, rfl, rfl⟩) ?_
      have out : ∀ (c : Code) (W3 : World), KeepsOthers (w1.putObj (w.heap.size + 1) (.loop { rec .ready none with state := .busy })) W3 → Ix c (pre ++ [x]) W3 →
          ∃ v w4, (Instr.endRound (w.heap.size + 1) (some c)).run P W3 = .ok v w4 ∧ ((Ending.returned v = .returned (.bool true) ∧ (I (pre ++ [x]) w4 ∧ w4.heap[w.heap.size + 1]? = some (.loop (rec .ready none)) ∧ w4.heap[w.heap.size]? = some (.deferred (some []))) ∧ Kp W w4) ∨
            (Ending.returned v = .returned (.bool false) ∧ ∃ c, Ix c (pre ++ [x]) w4 ∧ w4.heap[w.heap.size + 1]? = some (.loop (rec .done (some c))) ∧ w4.heap[w.heap.size]? = some (.deferred (some [])))) := fun c W3 hk3 hi3 => by
        obtain ⟨hr, hl3, hl4, hk4⟩ := fin (some c) W3 hk3
        exact ⟨_, _, hr, .inr ⟨rfl, c, (hIx c).putObj _ hi3 (by omega) hl3 rfl, hl4, hk4⟩⟩
      rintro e a3 W3 hp
      cases e with
      | normal =>
        obtain ⟨hk3, hkp3, hi3⟩ := hp
        obtain ⟨hr, hl3, hl4, hk4⟩ := fin none W3 hk3
        exact ⟨_, _, hr, .inl ⟨rfl, ⟨hI.putObj _ hi3 (by omega) hl3 rfl, hl4, hk4⟩, hKt hkp3 (hKb _ _ _ _ (by omega) hl3 rfl rfl)⟩⟩
      | ret => exact out _ _ hp.1 hp.2
      | exit id => exact out _ _ hp.1 hp.2
      | goto t => exact out _ _ hp.1 hp.2
      | panic ch => exact hp.elim
      | outgrown => exact hp.elim
    | _ => exact hp.elim
  · rintro e W2 ⟨⟨v, rfl⟩, (⟨xs, hS, hi, hl, hk⟩ | ⟨pre, hSp, c, hi, hl, hk⟩)⟩
    · exact ⟨none, _, by have := run_endLoop (P := P) hl (by rw [hrec]; simp); rw [hrec] at this; exact this, hdone _ xs _ (Nat.le_refl _) hS (hI.putObj _ hi (by omega) hl rfl) ((World.putObj_heap_other (by omega)).trans hk)⟩
    · exact ⟨some c, _, by have := run_endLoop (P := P) hl (by rw [hrec]; simp); rw [hrec] at this; exact this, hstop _ c pre _ (Nat.le_refl _) hSp ((hIx c).putObj _ hi (by omega) hl rfl) ((World.putObj_heap_other (by omega)).trans hk)⟩

/-- The blocks of cells of type t from D on lie as they lay. -/
def KeepCells (t : TypeId) (D : Nat) (W W' : World) : Prop := W.heap.size ≤ W'.heap.size ∧ ∀ k cs fr, D ≤ k → W.heap[k]? = some (.cells cs t fr) → W'.heap[k]? = some (.cells cs t fr)
theorem KeepCells.refl (t : TypeId) (D : Nat) (W : World) : KeepCells t D W W := ⟨Nat.le_refl _, fun _ _ _ _ h => h⟩
theorem KeepCells.trans {t : TypeId} {D : Nat} {A B C : World} (h : KeepCells t D A B) (k : KeepCells t D B C) : KeepCells t D A C := ⟨Nat.le_trans h.1 k.1, fun i cs fr hi ho => k.2 i cs fr hi (h.2 i cs fr hi ho)⟩
theorem KeepCells.alloc {t : TypeId} {D : Nat} {A B : World} (h : KeepCells t D A B) (o : Obj) : KeepCells t D A (B.alloc o) := ⟨by have := h.1; simp; omega, fun k cs fr hk ho => (Below.heap_alloc B o k (Array.getElem?_eq_some_iff.1 (h.2 k cs fr hk ho)).1).trans (h.2 k cs fr hk ho)⟩
theorem KeepCells.drew {t : TypeId} {D : Nat} {A B : World} (h : KeepCells t D A B) : KeepCells t D A B.drew := h
theorem KeepCells.setCell {t : TypeId} {D : Nat} {A B : World} (h : KeepCells t D A B) {p : Addr} (hp : p.block < D ∨ ∃ cs t' fr, B.heap[p.block]? = some (.cells cs t' fr) ∧ t' ≠ t) (v : Value) : KeepCells t D A (B.setCell p v) :=
  ⟨by simpa using h.1, fun k cs fr hk ho => (Below.heap_setCell B p v k (by
    rintro rfl
    rcases hp with hp | ⟨cs', t', fr', hp, hne⟩
    · omega
    · have := hp.symm.trans (h.2 _ cs fr hk ho)
      simp at this
      exact hne this.2.1)).trans (h.2 k cs fr hk ho)⟩
theorem KeepCells.grown {t : TypeId} {D : Nat} {A B C : World} {row : Option Nat} (h : KeepCells t D A B) (hg : B.grownBy C row) (hr : ∀ g, row = some g → ∃ cs t' fr, B.heap[g]? = some (.cells cs t' fr) ∧ t' ≠ t) : KeepCells t D A C :=
  ⟨Nat.le_trans h.1 hg.size, fun k cs fr hk ho => (hg.block k (Array.getElem?_eq_some_iff.1 (h.2 k cs fr hk ho)).1 (fun e => by
    obtain ⟨cs', t', fr', hp, hne⟩ := hr k e.symm
    have := hp.symm.trans (h.2 _ cs fr hk ho)
    simp at this
    exact hne this.2.1)).trans (h.2 k cs fr hk ho)⟩
theorem KeepCells.putObj {t : TypeId} {D : Nat} {A : World} (W : World) (l : Nat) (o o' : Obj) (hA : KeepCells t D A W) (h : W.heap[l]? = some o) (ho : o.isCells = false) : KeepCells t D A (W.putObj l o') :=
  ⟨by simpa [World.putObj] using hA.1, fun k cs fr hk hu => by
    have hu := hA.2 k cs fr hk hu
    have : k ≠ l := by rintro rfl; rw [h] at hu; cases hu; cases ho
    exact (World.putObj_heap_other (by omega)).trans hu⟩
theorem abides_alloc {β : Type} {B : Nat} {J : β → World → Prop} (hJ : AbidesFrom B J) {s : β} {W : World} (h : J s W) (o : Obj) : J s (W.alloc o) :=
  hJ s W _ none h (World.grownBy_alloc W o none) (fun r e => by cases e)
end Go.Proofs.YtcmcdddnckcpcaaGreatDoor
