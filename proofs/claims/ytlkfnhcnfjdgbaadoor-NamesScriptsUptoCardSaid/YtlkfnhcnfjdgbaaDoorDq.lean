/- A range over a function value whose body writes a map: the law for the caller, with a boxed loop variable. -/
import Derived.Test.YtlkfnhcnfjdgbaaDoorGd
import Derived.RangeFuncNested
import Derived.RangeFuncCalls
import Derived.RangeFuncLeaves
import Derived.RangeFuncBox
import Derived.Shelf.Abstract
import Derived.OwnWalkIn
import Derived.TacticsInMore
import Derived.LoopNIn
import Derived.LoopIn
import Derived.Maps.OwnIn
import Derived.OrdersHeld
import Derived.OrdersIn
import Derived.Test.YtlkfnhcnfjdgbaaDoorAy
namespace Go.Proofs.YtlkfnhcnfjdgbaaDoor
open Go.RowKit Go.Shelf
variable {F : Fence} {n : Nat} {P : Program}
/-- Block l is there and holds neither cells nor a walk. -/
def NoCells (W : World) (l : Nat) : Prop := ∃ o, W.heap[l]? = some o ∧ o.isCells = false ∧ o.isWalk = false

theorem wpIn_range_from {α : Type} {g : Operand} {ps : Array Tmp} {assign body : Code} {Q : Exit → Act → World → Prop} {a : Act} {w : World}
    (hro : F.round = none) (h1 : 1 ≤ n) {gf : Nat} {lb : Array Value} (hg : a.eval g = .func (.func gf) #[] lb) (hFg : F.fn gf) (eg : ∀ args w, (callFunc gf args).run P w = .ok (.enter gf args) w)
    {encs : α → Array Value} {Kp : World → World → Prop} {S Sp : List α → Prop} {N : Nat} {w0 : World} (hseq : SeqStopsK F (n - 1) P gf lb encs Kp S Sp N w0)
    (hKt : ∀ {A B C : World}, Kp A B → Kp B C → Kp A C) (hKb : ∀ (W : World) (l : Nat) (o o' : Obj), w.heap.size ≤ l → W.heap[l]? = some o → o.isCells = false → o.isWalk = false → Kp W (W.putObj l o')) (hb0 : Below w0.heap.size w0 w) (hps : ∀ x, (encs x).size = ps.size)
    (I : List α → World → Prop) (Ix : Code → List α → World → Prop) (hI : OwnFrom w.heap.size I) (hIx : ∀ c, OwnFrom w.heap.size (Ix c)) (h0 : I [] w)
    (hround : ∀ (l : Nat) (pre : List α) (x : α) (W : World), I pre W → pre.length < N → assign.wpIn (F.inRound l) (n - 1 - 1) P (Exit.then (fun a₁ w₁ => KeepsFrom w.heap.size W w₁ ∧ ∀ l' o', w.heap.size ≤ l' → NoCells w₁ l' →
        body.wpIn (F.inRound l) (n - 1 - 1) P (ownPostG w.heap.size (fun _ W' => Kp W W') I Ix (pre ++ [x]) (w₁.putObj l' o')) a₁ (w₁.putObj l' o')) (fun _ _ _ => False)) { tmps := (ps.zip (encs x)).foldl (fun t (p, v) => t.setIfInBounds p v) a.tmps, defers := [] } W)
    (hdone : ∀ (D : Nat) (xs : List α) (W : World), w.heap.size ≤ D → S xs → I xs W → W.heap[D]? = some (.deferred (some [])) → Q .normal { a with defers := { target := .collected D, args := #[] } :: a.defers } W)
    (hstop : ∀ (D : Nat) (c : Code) (pre : List α) (W : World), w.heap.size ≤ D → Sp pre → Ix c pre W → W.heap[D]? = some (.deferred (some [])) → c.wpIn F n P Q { a with defers := { target := .collected D, args := #[] } :: a.defers } W) :
    (Code.rangeFunc g ps assign body).wpIn F n P Q a w := by
  refine wpIn_rangeFunc ?_
  intro fn hfn
  rw [hro]
  obtain ⟨rec, hrec⟩ : ∃ rec : LoopState → Option Code → Loop, rec = fun st pe => { state := st, pending := pe, fn, tmps := a.tmps, params := ps, assign, body, defers := w.heap.size } := ⟨_, rfl⟩
  obtain ⟨W1, hW1⟩ : ∃ W1, (w.alloc (.deferred (some []))).alloc (.loop (rec .ready none)) = W1 := ⟨_, rfl⟩
  have hz1 : W1.heap.size = w.heap.size + 1 + 1 := by rw [← hW1]; simp
  have hL1 : W1.heap[w.heap.size + 1]? = some (.loop (rec .ready none)) := by
    rw [← hW1]; have := World.alloc_heap_new (w.alloc (.deferred (some []))) (.loop (rec .ready none)); rwa [World.size_alloc] at this
  have hK1 : W1.heap[w.heap.size]? = some (.deferred (some [])) := by
    rw [← hW1]; exact (Below.heap_alloc _ _ _ (by simp)).trans (World.alloc_heap_new w _)
  have hI1 : I [] W1 := by rw [← hW1]; exact hI.alloc _ (hI.alloc _ h0)
  have hb1 : Below w0.heap.size w0 W1 := by
    rw [← hW1]; exact hb0.trans ((((Below.refl _ w).alloc (Nat.le_refl _) _).alloc (by simp) _).mono hb0.size)
  refine ⟨w.heap.size + 1, [{ target := .collected w.heap.size, args := #[] }], W1, { target := .fn (.func gf) lb, args := #[.func (.yield (w.heap.size + 1)) #[] #[]] }, W1, gf, #[.func (.yield (w.heap.size + 1)) #[] #[]] ++ lb, W1, ?_, ?_, ?_, ?_, fun _ => h1, ?_⟩
  · rw [← hW1, hrec]; exact run_enterLoop_outer _ _ _ _ _
  · simp only [resolve, hg]
    simp [go_sem]
  · intro f' hf'; simp [Target.leads] at hf'; subst hf'; exact hFg
  · show (callFunc gf _).run P W1 = _
    exact eg _ _
  have hnw : ∀ {A : World} {row : Option Nat}, (∀ r, row = some r → W1.heap.size ≤ r ∧ ∃ o : Obj, A.heap[r]? = some o ∧ o.isWalk = true) → (∀ r, row = some r → w.heap.size ≤ r ∧ ∃ o : Obj, A.heap[r]? = some o ∧ o.isCells = false) :=
    fun hr r e => by obtain ⟨hB', o, ho, hw⟩ := hr r e; exact ⟨by omega, o, ho, Obj.not_cells_of_walk hw⟩
  refine (hseq (w.heap.size + 1)
    (fun pre W => I pre W ∧ W.heap[w.heap.size + 1]? = some (.loop (rec .ready none)) ∧ W.heap[w.heap.size]? = some (.deferred (some [])))
    (fun pre W => ∃ c, Ix c pre W ∧ W.heap[w.heap.size + 1]? = some (.loop (rec .done (some c))) ∧ W.heap[w.heap.size]? = some (.deferred (some [])))
    W1 hb1
    (fun s A A' row hs hg' hr => ⟨hI s A A' row hs.1 hg' (hnw hr), (grownBy_keeps hg' (fun r e => (hr r e).2) hs.2.1 rfl).trans hs.2.1, (grownBy_keeps hg' (fun r e => (hr r e).2) hs.2.2 rfl).trans hs.2.2⟩)
    (fun s A A' row ⟨c, hc, hl, hk⟩ hg' hr => ⟨c, hIx c s A A' row hc hg' (hnw hr), (grownBy_keeps hg' (fun r e => (hr r e).2) hl rfl).trans hl, (grownBy_keeps hg' (fun r e => (hr r e).2) hk rfl).trans hk⟩)
    ?_ ⟨hI1, hL1, hK1⟩).mono ?_
  · rintro pre x W ⟨hi, hl, hk⟩ hR
    have hy := run_yield (P := P) (args := encs x) hl (by rw [hrec]; exact hps x)
    rw [hrec] at hy
    refine ⟨fn, _, assign, body, hy, roundIn_of_wpIn hfn (wpIn_mono (hround (w.heap.size + 1) pre x W hi hR) ?_)⟩
    rintro e a1 w1 hp
    cases e with
    | normal =>
      obtain ⟨hko, hbody⟩ := hp
      have hl1 := hko.same _ _ (by omega) hl rfl
      have hk1 := hko.same _ _ (by omega) hk rfl
      have hlt : w.heap.size + 1 < w1.heap.size := (Array.getElem?_eq_some_iff.1 hl1).1
      refine ⟨_, run_beginRound hl1 (by rw [hrec]), ?_⟩
      have hl2 : (w1.putObj (w.heap.size + 1) (.loop { rec .ready none with state := .busy })).heap[w.heap.size + 1]? = some (.loop { rec .ready none with state := .busy }) := World.putObj_heap_same hlt
      have hk2 : (w1.putObj (w.heap.size + 1) (.loop { rec .ready none with state := .busy })).heap[w.heap.size]? = some (.deferred (some [])) := (World.putObj_heap_other (by omega)).trans hk1
      have fin : ∀ (jump : Option Code) (W3 : World), KeepsFrom w.heap.size (w1.putObj (w.heap.size + 1) (.loop { rec .ready none with state := .busy })) W3 →
          (Instr.endRound (w.heap.size + 1) jump).run P W3 = .ok (.bool jump.isNone) (W3.putObj (w.heap.size + 1) (.loop (rec (if jump.isNone then .ready else .done) jump))) ∧
          W3.heap[w.heap.size + 1]? = some (.loop { rec .ready none with state := .busy }) ∧
          (W3.putObj (w.heap.size + 1) (.loop (rec (if jump.isNone then .ready else .done) jump))).heap[w.heap.size + 1]? = some (.loop (rec (if jump.isNone then .ready else .done) jump)) ∧
          (W3.putObj (w.heap.size + 1) (.loop (rec (if jump.isNone then .ready else .done) jump))).heap[w.heap.size]? = some (.deferred (some [])) := fun jump W3 hk3 => by
        have hl3 := hk3.same _ _ (by omega) hl2 rfl
        have := run_endRound (P := P) jump hl3
        rw [hrec] at this ⊢
        exact ⟨this, by rw [hrec] at hl3; exact hl3, World.putObj_heap_same (Array.getElem?_eq_some_iff.1 hl3).1, (World.putObj_heap_other (by omega)).trans (hk3.same _ _ (by omega) hk2 rfl)⟩
      refine wpIn_mono (hbody _ _ (by omega) ⟨_, hl1, rfl, rfl⟩) ?_
      have out : ∀ (c : Code) (W3 : World), KeepsFrom w.heap.size (w1.putObj (w.heap.size + 1) (.loop { rec .ready none with state := .busy })) W3 → Ix c (pre ++ [x]) W3 →
          ∃ v w4, (Instr.endRound (w.heap.size + 1) (some c)).run P W3 = .ok v w4 ∧ ((Ending.returned v = .returned (.bool true) ∧ (I (pre ++ [x]) w4 ∧ w4.heap[w.heap.size + 1]? = some (.loop (rec .ready none)) ∧ w4.heap[w.heap.size]? = some (.deferred (some []))) ∧ Kp W w4) ∨
            (Ending.returned v = .returned (.bool false) ∧ ∃ c, Ix c (pre ++ [x]) w4 ∧ w4.heap[w.heap.size + 1]? = some (.loop (rec .done (some c))) ∧ w4.heap[w.heap.size]? = some (.deferred (some [])))) := fun c W3 hk3 hi3 => by
        obtain ⟨hr, hl3, hl4, hk4⟩ := fin (some c) W3 hk3
        exact ⟨_, _, hr, .inr ⟨rfl, c, (hIx c).putObj _ hi3 (by omega) hl3 rfl, hl4, hk4⟩⟩
      rintro e a3 W3 hp
      cases e with
      | normal =>
        obtain ⟨hk3, hkp3, hi3⟩ := hp
        obtain ⟨hr, hl3, hl4, hk4⟩ := fin none W3 hk3
        exact ⟨_, _, hr, .inl ⟨rfl, ⟨hI.putObj _ hi3 (by omega) hl3 rfl, hl4, hk4⟩, hKt hkp3 (hKb _ _ _ _ (by omega) hl3 rfl rfl)⟩⟩
      | ret => exact out _ _ hp.1 hp.2
      | exit id => exact out _ _ hp.1 hp.2
      | goto t => exact out _ _ hp.1 hp.2
      | panic ch => exact hp.elim
      | outgrown => exact hp.elim
    | _ => exact hp.elim
  · rintro e W2 ⟨⟨v, rfl⟩, (⟨xs, hS, hi, hl, hk⟩ | ⟨pre, hSp, c, hi, hl, hk⟩)⟩
    · exact ⟨none, _, by have := run_endLoop (P := P) hl (by rw [hrec]; simp); rw [hrec] at this; exact this, hdone _ xs _ (Nat.le_refl _) hS (hI.putObj _ hi (by omega) hl rfl) ((World.putObj_heap_other (by omega)).trans hk)⟩
    · exact ⟨some c, _, by have := run_endLoop (P := P) hl (by rw [hrec]; simp); rw [hrec] at this; exact this, hstop _ c pre _ (Nat.le_refl _) hSp ((hIx c).putObj _ hi (by omega) hl rfl) ((World.putObj_heap_other (by omega)).trans hk)⟩

end Go.Proofs.YtlkfnhcnfjdgbaaDoor
/- slices.Chunk over texts: its iterator's contract. -/
namespace Go.Proofs.YtlkfnhcnfjdgbaaDoor
open Go.RowKit Go.Shelf
attribute [local go_sem] Oper.semAt_some
/-- All below block N lies as it lay, but for block X. -/
def KeepX (N X : Nat) (W W' : World) : Prop := ∀ k, k < N → k ≠ X → W'.heap[k]? = W.heap[k]?
theorem KeepX.refl (N X : Nat) (W : World) : KeepX N X W W := fun _ _ _ => rfl
theorem KeepX.trans {N X : Nat} {A B C : World} (h : KeepX N X A B) (k : KeepX N X B C) : KeepX N X A C := fun i h1 h2 => (k i h1 h2).trans (h i h1 h2)
theorem KeepX.cell {N X : Nat} {W W' : World} (h : KeepX N X W W') {p : Addr} (hp : p.block < N) (hx : p.block ≠ X) : W'.cell? p = W.cell? p := World.cell?_of_block (h _ hp hx)
theorem KeepX.putObj {N X : Nat} {w : World} (hN : N ≤ w.heap.size) (W : World) (l : Nat) (o' : Obj) (hl : w.heap.size ≤ l) : KeepX N X W (W.putObj l o') := fun k hk _ => World.putObj_heap_other (by omega)
/-- The k-th piece of c texts. -/
theorem size55 (w : World) : (sizeOf (Tryd.prog.elem 55)).run Tryd.prog w = .ok 1 w := by
  obtain ⟨i0, hi, _, h1, _⟩ := info_parts (show (Tryd.prog.info? 9).map (fun i => (i.zero, i.size, i.bytes)) = some (some (.string ⟨#[]⟩), 1, 16) by kernel_rfl)
  rw [show Tryd.prog.elem 55 = 9 by kernel_rfl]
  simp [sizeOf, typeInfo, hi, h1]
theorem cut_tx (A : Option Addr) (n cap lo : Nat) (w : World) (h : lo < n) (hc : n ≤ cap) : (Instr.slice 55 (.slice A n cap) (some (.int .i64 (lo : Int))) none none).run Tryd.prog w = .ok (.slice (A.map (·.add lo)) (n - lo) (cap - lo)) w := by
  rw [run_slice_l (P := Tryd.prog) w 55 A n cap (by kernel_rfl) .i64 lo (by omega) (by omega), size55]
  simp [Result.andThen, sliced]
  intro e; omega
theorem cut_tx3 (A : Option Addr) (n cap lo c : Nat) (w : World) (hc0 : 0 < c) (h : lo + c ≤ cap) : (Instr.slice 55 (.slice A n cap) (some (.int .i64 (lo : Int))) (some (.int .i64 ((lo : Int) + (c : Int)))) (some (.int .i64 ((lo : Int) + (c : Int))))).run Tryd.prog w = .ok (.slice (A.map (·.add lo)) c c) w := by
  rw [run_slice_lhm (P := Tryd.prog) w 55 A n cap (by kernel_rfl) .i64 .i64 .i64 lo (lo + c) (lo + c) (by omega) (by omega) (by omega) (by omega), size55]
  have e1 : ((lo : Int) + (c : Int)).toNat = lo + c := by omega
  simp [Result.andThen, sliced, e1]
  intro e; omega
def piece (A : Option Addr) (c : Nat) (k : Nat) : Array Value := #[.slice (A.map (·.add (k * c))) c c]
theorem chunk_any (A : Option Addr) (n cap : Nat) (c : Int) (hc : 0 < c) (w : World) : Calls Tryd.prog 37 #[.slice A n cap, .int .i64 c] w fun e w' => e = .returned (.func (.func 61) #[] #[.pointer (some ⟨w.heap.size, 0, none⟩), .pointer (some ⟨w.heap.size + 1, 0, none⟩)]) ∧ (w.alloc (.cells #[.slice A n cap] 55)).alloc (.cells #[.int .i64 c] 3) = w' := by
  go_enter Tryd.func37, Tryd.ntmps37
  have h1 : ¬ c < 1 := by omega
  go_wp2
  go_ret
  exact ⟨rfl, rfl⟩
set_option maxRecDepth 100000 in
set_option maxHeartbeats 2000000 in
theorem chunk_stops (w : World) (N X Sb c M cap : Nat) (A : Option Addr) (hSb : Sb + 1 < N) (hX : Sb ≠ X) (hX1 : Sb + 1 ≠ X) (hN : N ≤ w.heap.size) (hb0 : w.cell? ⟨Sb, 0, none⟩ = some (.slice A (M * c) cap)) (hb1 : w.cell? ⟨Sb + 1, 0, none⟩ = some (.int .i64 c)) (hc : 0 < c) (hc3 : c ≤ 3) (hM : M ≤ 1000000) (hcap : M * c ≤ cap) :
    SeqStopsK Fence.wide 5 Tryd.prog 61 #[.pointer (some ⟨Sb, 0, none⟩), .pointer (some ⟨Sb + 1, 0, none⟩)] (fun x : _root_.Fin M => piece A c x.1) (KeepX N X) (fun xs => xs = List.finRange M) (fun _ => True) M w := by
  intro y J Jx W hW hJ hJx hY h0
  have b0 := (hW.cell (p := ⟨Sb, 0, none⟩) (by simp only; omega)).trans hb0
  have b1 := (hW.cell (p := ⟨Sb + 1, 0, none⟩) (by simp only; omega)).trans hb1
  clear hb0 hb1
  refine callsIn_of_wp Tryd.func61 rfl trivial ?_ rfl
  simp only [Tryd.ntmps61, List.size_toArray, List.length_cons, List.length_nil, Nat.reduceAdd, Nat.reduceSub, Array.replicate_succ, Array.replicate_zero, List.push_toArray, List.append_toArray, List.nil_append, List.cons_append]
  gi_wp2
  gi_loopw [4] (fun i wr => ∃ (k : Nat) (pre : List (_root_.Fin M)), pre = (List.finRange M).take k ∧ k ≤ M ∧ i = .int .i64 ((k * c : Nat) : Int) ∧ J pre wr ∧ wr.cell? ⟨Sb, 0, none⟩ = some (.slice A (M * c) cap) ∧ wr.cell? ⟨Sb + 1, 0, none⟩ = some (.int .i64 c)) (fun i _ => M * c - (intOf i).toNat)
  case atStart => exact ⟨0, [], by simp, Nat.zero_le _, by simp, h0, b0, b1⟩
  case round =>
    obtain ⟨k, pre, hpre, hk, rfl, hJs, c0, c1⟩ := hrel
    obtain ⟨L, hL⟩ : ∃ L, k * c = L := ⟨_, rfl⟩
    obtain ⟨T, hT⟩ : ∃ T, M * c = T := ⟨_, rfl⟩
    rw [hL]
    rw [hT] at c0 hcap
    by_cases h : k < M
    · have hx : L + c ≤ T := by
        rw [← hL, ← hT, ← Nat.succ_mul]; exact Nat.mul_le_mul_right c h
      have hTb : T ≤ 3000000 := by rw [← hT]; exact Nat.le_trans (Nat.mul_le_mul hM hc3) (by omega)
      have k1 : (L : Int) < (T : Int) := by omega
      have k0 : (0 : Int) ≤ (L : Int) := by omega
      have hct := fun w => cut_tx A T cap L w (by omega) hcap
      have hct3 := fun w => cut_tx3 A T cap L c w hc (by omega)
      have hmn : min (c : Int) ((T - L : Nat) : Int) = (c : Int) := by omega
      have hpl : pre.length < M := by rw [hpre, List.length_take, List.length_finRange]; omega
      obtain ⟨fn, tmps, assign, body, hy, hR⟩ := hY pre ⟨k, h⟩ wr.drew (hJ pre wr wr.drew none hJs ⟨rfl, rfl, rfl, Nat.le_refl _, fun _ _ _ => rfl⟩ (fun r e => by cases e)) hpl
      dsimp only [piece] at hy
      rw [hL] at hy
      have hpre2 : Hid (pre ++ [⟨k, h⟩] = (List.finRange M).take (k + 1)) := Lib.hid (by
        rw [hpre, List.take_succ_eq_append_getElem (by rw [List.length_finRange]; exact h)]
        simp)
      have hL2 : Hid ((k + 1) * c = L + c) := Lib.hid (by rw [Nat.succ_mul, hL])
      have hT2 : Hid (M * c = T) := Lib.hid hT
      clear hpre hpl hL hT
      gi_wp2
      gi_region
      all_goals gi_wp2
      refine hR.mono ?_
      rintro e W3 (⟨rfl, hJ3, hk3⟩ | ⟨rfl, hJx3⟩)
      · have c03 := (hk3.cell (p := ⟨Sb, 0, none⟩) (by simp only; omega) hX).trans (show wr.drew.cell? ⟨Sb, 0, none⟩ = _ from c0)
        have c13 := (hk3.cell (p := ⟨Sb + 1, 0, none⟩) (by simp only; omega) hX1).trans (show wr.drew.cell? ⟨Sb + 1, 0, none⟩ = _ from c1)
        clear hk3 hR hct hct3 hy hmn c0 c1
        gi_wp2
        go_roundw
        case rel => exact ⟨k + 1, _, hpre2.out, h, by rw [hL2.out]; go_num, hJ3, by rw [hT2.out]; exact c03, c13⟩
        case measure =>
          have hm := hT2.out
          simp [intOf]
          omega
      · clear hR hct hct3 hy hmn c0 c1
        gi_wp2
        refine bodyPost_ret (results_none rfl _ _ _) rfl ?_
        exact ⟨⟨_, rfl⟩, .inr ⟨_, trivial, hJx3⟩⟩
    · have e : k = M := by omega
      subst e
      have hLT : L = T := by omega
      have hn : ¬ ((L : Int) < (T : Int)) := by omega
      have HP : Hid (pre = List.finRange k) := Lib.hid (by rw [hpre, List.take_of_length_le (by rw [List.length_finRange]; exact Nat.le_refl _)])
      clear hpre
      gi_wp2
      go_end0
      exact ⟨⟨_, rfl⟩, .inl (HP.out ▸ hJs)⟩
end Go.Proofs.YtlkfnhcnfjdgbaaDoor
/- A region that draws its order, under a condition on the world of which a part holds until a certain operation has come up. -/
namespace Go.Proofs.YtlkfnhcnfjdgbaaDoor
section
variable {P : Program} {ops : Array Oper} {Q : Exit → Act → World → Prop} {md : Region.Mode} {st : Nat} {C1 C2 : World → Prop}
/-- C1 holds; and C2, as long as number st has not come up. -/
def HeldS (st : Nat) (C1 C2 : World → Prop) (L : Array Bool) (w : World) : Prop := C1 w ∧ (L.getD st false = false → C2 w)
/-- Whatever order is picked from here on, and the condition holds behind each operation. -/
def wpAnyS (P : Program) (md : Region.Mode) (ops : Array Oper) (Q : Exit → Act → World → Prop) (st : Nat) (C1 C2 : World → Prop) : Nat → Array Bool → Act → World → Prop
  | 0, L, a, w => Region.ready md ops L = [] ∧ Q .normal a w
  | fuel + 1, L, a, w => (Region.ready md ops L = [] → Q .normal a w) ∧
    ∀ i ∈ Region.ready md ops L, wpOp P ops Q i (fun a' w' => HeldS st C1 C2 (L.setIfInBounds i true) w' ∧ wpAnyS P md ops Q st C1 C2 fuel (L.setIfInBounds i true) a' w') a w
theorem wpAny_of_S : ∀ (fuel : Nat) (L : Array Bool) (a : Act) (w : World), wpAnyS P md ops Q st C1 C2 fuel L a w → wpAny P md ops Q fuel L a w
  | 0, _, _, _, h => h
  | fuel + 1, _, _, _, h => ⟨h.1, fun i hi => wpOp_mono (fun a' w' h' => wpAny_of_S fuel _ a' w' h'.2) (h.2 i hi)⟩
theorem heldS_set {i : Nat} (hne : i ≠ st) {L : Array Bool} {w : World} : HeldS st C1 C2 (L.setIfInBounds i true) w ↔ HeldS st C1 C2 L w := by
  unfold HeldS; rw [getD_set_ne false hne]
theorem wpAnyS_first {i : Nat} {oi : Oper} {v : Value} (C : World → Prop) (G : Array Bool → Prop) (hi : ops[i]? = some oi) (hsel : ∀ (j : Nat) (o : Oper) cs b, ops[j]? = some o → o.op ≠ .select cs b)
    (hQ : ∀ c a w, Q (.panic c) (a.put oi.dst v) w → Q (.panic c) a w) (hne : i ≠ st) (hC : ∀ L w, G L → HeldS st C1 C2 L w → C w)
    (hG : ∀ (L : Array Bool) (j : Nat), G L → L.getD i true = false → j ∈ Region.ready md ops L → j ≠ i → G (L.setIfInBounds j true)) :
    ∀ (fuel : Nat) (L : Array Bool) (a : Act) (w : World), G L →
      (∀ j oj, ops[j]? = some oj → j ≠ i → L.getD j true = false → (∀ e ∈ oj.after, Region.binds md e = true → e.on ≠ i) → oi.apart ops oj = true) →
      i ∈ Region.ready md ops L → YieldsIf P ops C oi v a → HeldS st C1 C2 L w →
      wpAnyS P md ops Q st C1 C2 fuel (L.setIfInBounds i true) (a.put oi.dst v) w → wpAnyS P md ops Q st C1 C2 (fuel + 1) L a w := by
  intro fuel
  induction fuel with
  | zero =>
    intro L a w hL _ hr hy hS H
    refine ⟨fun h => (by rw [h] at hr; cases hr), fun j hj => ?_⟩
    by_cases hji : j = i
    · subst hji
      exact hy.wpOp hi (hC _ _ hL hS) ⟨(heldS_set hne).2 hS, H⟩
    · have := ready_mono hj hji
      rw [H.1] at this
      cases this
  | succ fuel ih =>
    intro L a w hL hfree hr hy hS H
    refine ⟨fun h => (by rw [h] at hr; cases hr), fun j hj => ?_⟩
    by_cases hji : j = i
    · subst hji
      exact hy.wpOp hi (hC _ _ hL hS) ⟨(heldS_set hne).2 hS, H⟩
    · have h1 := H.2 j (ready_mono hj hji)
      have h0 := (mem_ready.1 hr).1
      obtain ⟨hjun, oj, hoj, hall⟩ := mem_ready.1 hj
      have hnot : ∀ e ∈ oj.after, Region.binds md e = true → e.on ≠ i := fun e he hb heq => by
        have k1 := hall e he hb
        rw [heq] at k1
        rcases Nat.lt_or_ge i L.size with h' | h'
        · simp [h'] at h0 k1; rw [h0] at k1; cases k1
        · simp [Array.getElem?_eq_none h'] at k1
      have h2 := wpOp_putIf hoj (hfree j oj hoj hji hjun hnot) (fun cs b => hsel i oi cs b hi) (fun cs b => hsel j oj cs b hoj) hQ hy h1
      have hfree' : ∀ k ok, ops[k]? = some ok → k ≠ i → (L.setIfInBounds j true).getD k true = false →
          (∀ e ∈ ok.after, Region.binds md e = true → e.on ≠ i) → oi.apart ops ok = true := fun k ok hk hki hun hno => by
        refine hfree k ok hk hki ?_ hno
        by_cases hjk : j = k
        · subst hjk; exact hjun
        · rw [getD_set_ne true hjk] at hun; exact hun
      refine wpOp_mono (fun a' w' h3 => ?_) h2
      obtain ⟨hy3, hS3, h4⟩ := h3
      rw [Array.setIfInBounds_comm _ _ (Ne.symm hji)] at hS3 h4
      have hS3' := (heldS_set hne).1 hS3
      exact ⟨hS3', ih (L.setIfInBounds j true) a' w' (hG L j hL h0 hj hji) hfree' (ready_mono hr (Ne.symm hji)) hy3 hS3' h4⟩
/-- Take number i first: what it yields hangs on C1 alone. -/
theorem wpAnyS_take {i : Nat} {oi : Oper} {v : Value} {fuel : Nat} {L : Array Bool} {a : Act} {w : World} (hi : ops[i]? = some oi) (hne : i ≠ st)
    (hs : Region.noSelect ops = true) (hf : Region.free md ops L i = true) (hr : (Region.ready md ops L).contains i = true)
    (hQ : ∀ c a w, Q (.panic c) (a.put oi.dst v) w → Q (.panic c) a w) (hy : YieldsIf P ops C1 oi v a) (hS : HeldS st C1 C2 L w)
    (h : wpAnyS P md ops Q st C1 C2 fuel (L.setIfInBounds i true) (a.put oi.dst v) w) : wpAnyS P md ops Q st C1 C2 (fuel + 1) L a w :=
  wpAnyS_first C1 (fun _ => True) hi (Region.noSelect_spec hs) hQ hne (fun _ _ _ h => h.1) (fun _ _ _ _ _ _ => trivial) fuel L a w trivial (Region.free_spec hi hf) (by simpa using hr) hy hS h
/-- Take number i first, where number st waits for it: what it yields hangs on C1 and C2. -/
theorem wpAnyS_take2 {i : Nat} {oi os : Oper} {v : Value} {fuel : Nat} {L : Array Bool} {a : Act} {w : World} (hi : ops[i]? = some oi) (hne : i ≠ st)
    (hos : ops[st]? = some os) (hw : os.after.any (fun e => Region.binds md e && e.on == i) = true) (hL : L.getD st false = false)
    (hs : Region.noSelect ops = true) (hf : Region.free md ops L i = true) (hr : (Region.ready md ops L).contains i = true)
    (hQ : ∀ c a w, Q (.panic c) (a.put oi.dst v) w → Q (.panic c) a w) (hy : YieldsIf P ops (fun w => C1 w ∧ C2 w) oi v a) (hS : HeldS st C1 C2 L w)
    (h : wpAnyS P md ops Q st C1 C2 fuel (L.setIfInBounds i true) (a.put oi.dst v) w) : wpAnyS P md ops Q st C1 C2 (fuel + 1) L a w := by
  refine wpAnyS_first (fun w => C1 w ∧ C2 w) (fun L => L.getD st false = false) hi (Region.noSelect_spec hs) hQ hne (fun _ _ hg h => ⟨h.1, h.2 hg⟩) ?_ fuel L a w hL (Region.free_spec hi hf) (by simpa using hr) hy hS h
  intro L j hg hun hj _
  have hjs : j ≠ st := by
    rintro rfl
    obtain ⟨_, o, ho, hall⟩ := mem_ready.1 hj
    rw [hos] at ho
    cases ho
    obtain ⟨k, hk, hb⟩ := Array.any_eq_true.1 hw
    simp only [Bool.and_eq_true, beq_iff_eq] at hb
    have k1 := hall _ (Array.getElem_mem hk) hb.1
    rw [hb.2] at k1
    rcases Nat.lt_or_ge i L.size with h' | h'
    · simp [h'] at hun k1; rw [hun] at k1; cases k1
    · simp [Array.getElem?_eq_none h'] at k1
  show (L.setIfInBounds j true).getD st false = false
  rw [getD_set_ne false hjs]; exact hg
/-- Whichever of those that may come up comes up. -/
theorem wpAnyS_all {rs : List Nat} {fuel : Nat} {L : Array Bool} {a : Act} {w : World} (hr : Region.ready md ops L = rs) (hne : rs ≠ [])
    (h : ∀ i ∈ rs, wpOp P ops Q i (fun a' w' => HeldS st C1 C2 (L.setIfInBounds i true) w' ∧ wpAnyS P md ops Q st C1 C2 fuel (L.setIfInBounds i true) a' w') a w) : wpAnyS P md ops Q st C1 C2 (fuel + 1) L a w :=
  ⟨fun h0 => absurd (hr ▸ h0) hne, hr ▸ h⟩
/-- All have come up. -/
theorem wpAnyS_done {L : Array Bool} {a : Act} {w : World} (hr : Region.ready md ops L = []) (h : Q .normal a w) : ∀ fuel, wpAnyS P md ops Q st C1 C2 fuel L a w
  | 0 => ⟨hr, h⟩
  | _ + 1 => ⟨fun _ => h, by rw [hr]; simp⟩
/-- The beginning. -/
theorem wp_region_S (st : Nat) (C1 C2 : World → Prop) {id : Nat} {a : Act} {w : World} (hm : P.follows .mixedOrders = true)
    (h : wpAnyS P .any ops Q st C1 C2 ops.size (Array.replicate ops.size false) a { w with drawn := w.drawn + 1 }) : (Code.region id ops true).wp P Q a w :=
  wp_region_any hm (wpAny_of_S _ _ _ _ h)
end
end Go.Proofs.YtlkfnhcnfjdgbaaDoor
/- A region that draws its order, in a round of a range over a function: what holds of it in a plain walk holds there. -/
namespace Go.Proofs.YtlkfnhcnfjdgbaaDoor
variable {P : Program} {ops : Array Oper} {Q : Exit → Act → World → Prop} {md : Region.Mode} {l n : Nat}
/-- No operation is a defer statement. -/
def noDefer (ops : Array Oper) : Bool := ops.all fun o => match o.op with | .defer _ => false | _ => true
theorem noDefer_spec (h : noDefer ops = true) {i : Nat} {o : Oper} (ho : ops[i]? = some o) : ∀ c, o.op ≠ .defer c := by
  intro c e
  obtain ⟨hi, rfl⟩ := Array.getElem?_eq_some_iff.1 ho
  have := Array.all_eq_true.1 h i hi
  rw [e] at this
  cases this
theorem opIn_of_op (hd : noDefer ops = true) (hQ : ¬ LetsOut Q) {i : Nat} {K : Act → World → Prop} {a : Act} {w : World} (h : wpOp P ops Q i K a w) : wpOpIn (Fence.wide.inRound l) n P ops Q i K a w := by
  unfold wpOp at h
  unfold wpOpIn
  cases ho : ops[i]? with
  | none => simp only [ho] at h; exact h
  | some o =>
    simp only [ho] at h ⊢
    split
    · rename_i hw
      simp only [hw, if_true] at h
      have h := h.resolve_right (fun x => hQ x.2)
      refine ⟨fun _ _ => trivial, ?_⟩
      rw [Oper.semAt_eq _ _ _ (noDefer_spec hd ho)]
      unfold Oper.wp at h
      generalize (execOp a.eval o).run P w = r at h
      cases r with
      | ok x w' =>
        cases x <;> simp only [Oper.upon, Oper.uponIn] at h ⊢
        case value => exact h
        case skip => exact h
        case defer => exact h
        case enter f args => exact ⟨fun e => (by cases e), CallsIn.inRound l (callsIn_wide.2 (Calls.mono h fun e w'' he => (by cases e <;> exact he)))⟩
        case row row args => exact ⟨fun e => (by cases e), fun c cs _ => (by obtain ⟨v, w', r, s⟩ := h c cs; exact ⟨v, w', r, stepsIn_wide.2 s⟩)⟩
      | halt x w' =>
        cases x <;> simp only [Oper.upon, Oper.uponIn] at h ⊢
        case panic => exact h
    · rename_i hw
      simp only [hw] at h
      exact ⟨fun _ _ => trivial, h⟩
theorem anyIn_of_any (hd : noDefer ops = true) (hQ : ¬ LetsOut Q) : ∀ (fuel : Nat) (listed : Array Bool) (a : Act) (w : World), wpAny P md ops Q fuel listed a w → wpAnyIn (Fence.wide.inRound l) n P md ops Q fuel listed a w
  | 0, _, _, _, h => h
  | fuel + 1, _, _, _, h => ⟨h.1, fun i hi => opIn_of_op hd hQ (wpOp_mono (fun a' w' h' => anyIn_of_any hd hQ fuel _ a' w' h') (h.2 i hi))⟩
/-- The beginning: as a plain walk's. -/
theorem wpIn_region_heldR {S : World → Prop} {id : Nat} {a : Act} {w : World} (hm : P.follows .mixedOrders = true) (hd : noDefer ops = true) (hQ : ¬ LetsOut Q)
    (h : wpAnyH P .any ops Q S ops.size (Array.replicate ops.size false) a w.drew) : (Code.region id ops true).wpIn (Fence.wide.inRound l) n P Q a w :=
  wpIn_region_any hm (anyIn_of_any hd hQ _ _ _ _ (wpAny_of_held _ _ _ _ h))
theorem wpIn_region_SR (st : Nat) (C1 C2 : World → Prop) {id : Nat} {a : Act} {w : World} (hm : P.follows .mixedOrders = true) (hd : noDefer ops = true) (hQ : ¬ LetsOut Q)
    (h : wpAnyS P .any ops Q st C1 C2 ops.size (Array.replicate ops.size false) a w.drew) : (Code.region id ops true).wpIn (Fence.wide.inRound l) n P Q a w :=
  wpIn_region_any hm (anyIn_of_any hd hQ _ _ _ _ (wpAny_of_S _ _ _ _ h))
end Go.Proofs.YtlkfnhcnfjdgbaaDoor
/- What a range over pieces keeps, where its body appends to one row of a table that lies in a block of the call's own. -/
namespace Go.Proofs.YtlkfnhcnfjdgbaaDoor
open Go.RowKit Go.Maps Go.WideMaps
theorem row_kind {w : World} {B : Nat} {e : TypeId} {size : Nat} {v : Value} {n : Nat} {xs : List Value} (h : w.ownsRow B e size v n xs) (g : Nat) (hg : v.ownBlock = some g) : ∃ c fz, w.heap[g]? = some (.cells c e fz) := by
  rcases h.2 with ⟨rfl, _⟩ | ⟨g', c', cur, rfl, _, hh, _⟩
  · cases hg
  · cases hg
    exact ⟨_, _, hh⟩
structure LS (w w1 : World) (N X e sz : Nat) (cs : Array Value) (i n : Nat) (xs : List Value) (W : World) : Prop where
  below : Below w.heap.size w W
  keep : KeepX N X w1 W
  size : N ≤ W.heap.size
  row : ∃ A c, Blk W X (cs.setIfInBounds i (.slice A n c)) 31 ∧ W.ownsRow N e sz (.slice A n c) n xs
theorem LS.kept {w w1 W W' : World} {N X e sz i n : Nat} {cs : Array Value} {xs : List Value} {row : Option Nat} (h : LS w w1 N X e sz cs i n xs W) (hwN : w.heap.size ≤ N) (hg : W.grownBy W' row)
    (hr : ∀ r, row = some r → N ≤ r ∧ ∃ o : Obj, W.heap[r]? = some o ∧ o.isCells = false) : LS w w1 N X e sz cs i n xs W' := by
  obtain ⟨A, c, hB, ho⟩ := h.row
  refine ⟨h.below.grown hg h.below.size (fun k e => Nat.le_trans hwN (hr k e).1), fun k hk hx => (hg.block k (Nat.lt_of_lt_of_le hk h.size) (fun e => ?_)).trans (h.keep k hk hx), Nat.le_trans h.size hg.size, A, c, hB.grown hg (fun e => ?_), ho.kept hg ?_⟩
  · have := (hr k e.symm).1
    omega
  · obtain ⟨_, o, h1, h2⟩ := hr _ e
    unfold Blk at hB
    rw [hB] at h1
    cases h1
    cases h2
  · cases hbk : (Value.slice A n c).ownBlock with
    | none => exact .inl rfl
    | some k =>
      refine .inr fun e => ?_
      obtain ⟨_, o, h1, h2⟩ := hr k e.symm
      obtain ⟨c', fz, h3⟩ := row_kind ho k hbk
      rw [h3] at h1
      cases h1
      cases h2
theorem LS.step {w w1 W W2 W3 : World} {N X e sz i n : Nat} {cs : Array Value} {xs news : List Value} {A : Option Addr} {c g cap : Nat} (h : LS w w1 N X e sz cs i n xs W) (hwX : w.heap.size ≤ X) (hXN : X < N) (he : e ≠ 31)
    (hB : Blk W X (cs.setIfInBounds i (.slice A n c)) 31) (ho : W.ownsRow N e sz (.slice A n c) n xs) (h2 : W.grownBy W2 none) (h3 : W3.ownsRow N e sz (.slice (some ⟨g, 0, none⟩) (n + 1) cap) (n + 1) (xs ++ news)) (hg : W2.grownBy W3 (Value.slice A n c).ownBlock) :
    KeepsFrom N W (W3.setCell ⟨X, i, none⟩ (.slice (some ⟨g, 0, none⟩) (n + 1) cap)) ∧ KeepX N X W (W3.setCell ⟨X, i, none⟩ (.slice (some ⟨g, 0, none⟩) (n + 1) cap)) ∧ LS w w1 N X e sz cs i (n + 1) (xs ++ news) (W3.setCell ⟨X, i, none⟩ (.slice (some ⟨g, 0, none⟩) (n + 1) cap)) := by
  have hg' : W.grownBy W3 (Value.slice A n c).ownBlock := ⟨hg.os.trans h2.os, hg.tape.trans h2.tape, hg.output.trans h2.output, Nat.le_trans h2.size hg.size, fun k hk hne => (hg.block k (Nat.lt_of_lt_of_le hk h2.size) hne).trans (h2.block k hk (by simp))⟩
  have hne := own_ne_blk ho hB he
  have hB3 := hB.grown hg' hne
  have hBF := hB3.set i (.slice (some ⟨g, 0, none⟩) (n + 1) cap)
  rw [Array.setIfInBounds_setIfInBounds] at hBF
  have hK : KeepX N X W (W3.setCell ⟨X, i, none⟩ (.slice (some ⟨g, 0, none⟩) (n + 1) cap)) := fun k hk hx =>
    (Below.heap_setCell W3 ⟨X, i, none⟩ _ k (fun e => hx e)).trans (hg'.block k (Nat.lt_of_lt_of_le hk h.size) (fun e => by have := (ho.lt k e.symm).1; omega))
  refine ⟨?_, hK, ⟨(h.below.grown hg' h.below.size (fun k e => ?_)).setCell (p := ⟨X, i, none⟩) hwX _, h.keep.trans hK, ?_, _, _, hBF, own_set h3 hB3 he i _⟩⟩
  · refine ((KeepsOthers.of_grownBy hg' fun j o e hj => ?_).trans (KeepsOthers.setCell W3 _ _)).from N
    obtain ⟨c', fz, h4⟩ := row_kind ho j e
    rw [h4] at hj
    cases hj
    rfl
  · have := (ho.lt k e).1
    omega
  · have := hg'.size
    have := h.size
    simp
    omega
theorem LS.blk {W W2 W3 : World} {N X e sz i n : Nat} {cs : Array Value} {xs : List Value} {A : Option Addr} {c : Nat}
    (hB : Blk W X (cs.setIfInBounds i (.slice A n c)) 31) (ho : W.ownsRow N e sz (.slice A n c) n xs) (he : e ≠ 31) (h2 : W.grownBy W2 none) (hg : W2.grownBy W3 (Value.slice A n c).ownBlock) : Blk W3 X (cs.setIfInBounds i (.slice A n c)) 31 := by
  have hne := own_ne_blk ho hB he
  unfold Blk at hB ⊢
  have hl := (Array.getElem?_eq_some_iff.1 hB).1
  exact (hg.block X (Nat.lt_of_lt_of_le hl h2.size) (fun e => hne e.symm)).trans ((h2.block X hl (by simp)).trans hB)
theorem cell_old (w : World) (o : Obj) (p : Addr) (h : p.block < w.heap.size) : (w.alloc o).cell? p = w.cell? p := World.cell?_of_block (Below.heap_alloc w o p.block h)
/-- What a row of texts says later, where what lies below it is kept. -/
theorem row_later {w W : World} {B c n : Nat} {A : Option Addr} {xs : List Value} (h : w.ownsRow B 9 1 (.slice A n c) n xs) (hb : ∀ k, k < w.heap.size → W.heap[k]? = w.heap[k]?) (h0 : 0 < n) : ∃ g, A = some ⟨g, 0, none⟩ ∧ g < w.heap.size ∧ ∀ j u, xs[j]? = some u → W.cell? ⟨g, j, none⟩ = some u := by
  obtain ⟨g, cap, e, hB, hgl⟩ := h.form h0
  injection e with e1 e2 e3
  subst e1 e3
  refine ⟨g, rfl, hgl, fun j u hu => (World.cell?_of_block (hb g hgl)).trans ?_⟩
  have := h.cells (g := g) rfl j u hu
  rwa [add_lit', Nat.zero_add] at this
theorem TblAt.kept {w w' : World} {t : Tbl} {v : Value} (h : TblAt w t v) (hk : ∀ (g : Nat) (cs : Array Value) (e : TypeId) (fr : Nat × Nat), w.heap[g]? = some (.cells cs e fr) → e = 41 ∨ e = 39 → w'.heap[g]? = w.heap[g]?) (hs : w.heap.size ≤ w'.heap.size) : TblAt w' t v := by
  obtain ⟨A, c, B, cb, rfl, h1, h2, h3, h4, h5, h6⟩ := h
  refine ⟨A, c, B, cb, rfl, h1, h2, fun h0 => ?_, fun h0 => ?_, fun a ha => ?_, fun a ha => ?_⟩
  · obtain ⟨g, hA, hgl, hc⟩ := h3 h0
    obtain ⟨cs, fr, hh⟩ := h5 _ hA
    have he := hk g cs 41 fr hh (.inl rfl)
    exact ⟨g, hA, Nat.lt_of_lt_of_le hgl hs, fun j hj => ⟨(World.cell?_of_block (a := ⟨g, j * 2, none⟩) he).trans (hc j hj).1, (World.cell?_of_block (a := ⟨g, j * 2 + 1, none⟩) he).trans (hc j hj).2⟩⟩
  · obtain ⟨g, o, hA, hgl, hc⟩ := h4 h0
    obtain ⟨cs, fr, hh⟩ := h6 _ hA
    have he := hk g cs 39 fr hh (.inr rfl)
    exact ⟨g, o, hA, Nat.lt_of_lt_of_le hgl hs, fun j u hj => (World.cell?_of_block (a := ⟨g, o + j, none⟩) he).trans (hc j u hj)⟩
  · obtain ⟨cs, fr, hh⟩ := h5 a ha
    exact ⟨cs, fr, (hk _ _ _ _ hh (.inl rfl)).trans hh⟩
  · obtain ⟨cs, fr, hh⟩ := h6 a ha
    exact ⟨cs, fr, (hk _ _ _ _ hh (.inr rfl)).trans hh⟩
theorem TblAt.putD {w : World} {t : Tbl} {v : Value} (h : TblAt w t v) {D : Nat} {o o' : Obj} (hD : w.heap[D]? = some o) (ho : o.isCells = false) : TblAt (w.putObj D o') t v :=
  h.kept (fun g cs e fr hh _ => World.putObj_heap_other (fun e => by subst e; rw [hD] at hh; cases hh; cases ho)) (by simp [World.putObj])
end Go.Proofs.YtlkfnhcnfjdgbaaDoor
