/- Packed: It, Sf, Tp, Ot, Tk, Fs, Se, La, Ch, Su, Va, Pu, Tb. -/
import Derived.Test.YtcmcdddnckcpcaaGreatDoorPF1
import Derived.RangeFuncNested
import Derived.RangeFuncBound
import Derived.RangeFuncCalls
import Derived.RangeFuncLeaves
import Derived.RangeFuncBox
import Derived.Shelf.Abstract
import Derived.WalkKit
import Derived.OwnWalkIn
import Derived.TacticsInMore
import Derived.LoopNIn
import Derived.LoopIn
import Derived.Test.YtcmcdddnckcpcaaGreatDoorPF2
import Derived.OrdersIn
import Derived.Maps.RangeWalk
namespace Go.Proofs.YtcmcdddnckcpcaaGreatDoor
open Go.RowKit Go.Shelf
variable {F : Fence} {n : Nat} {P : Program}

def Stops {α : Type} (F : Fence) (n : Nat) (P : Program) (gf : Nat) (first lb : Array Value) (encs : α → Array Value) (Kp : World → World → Prop) (R : List α → α → Prop) (S Sp : List α → Prop) (w : World) : Prop :=
 ∀ (l : Nat) (J Jx : List α → World → Prop) (W : World),Below w.heap.size w W → AbidesFrom W.heap.size J → AbidesFrom W.heap.size Jx →
  (∀ pre x W1,J pre W1 → R pre x → YieldAt F (n - 1) P l (encs x) W1 fun e W' => (e = .returned (.bool true) ∧ J (pre ++ [x]) W' ∧ Kp W1 W') ∨ (e = .returned (.bool false) ∧ Jx (pre ++ [x]) W')) →
  J [] W → CallsIn F n P gf (first ++ #[.func (.yield l) #[] #[]] ++ lb) W fun e W' => (∃ v,e = .returned v) ∧ ((∃ xs,S xs ∧ J xs W') ∨ (∃ pre,Sp pre ∧ Jx pre W'))

def NoCells (W : World) (l : Nat) : Prop := ∃ o,W.heap[l]? = some o ∧ o.isCells = false ∧ o.isWalk = false

theorem wpIn_range_first {α : Type} {g : Operand} {ps : Array Tmp} {assign body : Code} {Q : Exit → Act → World → Prop} {a : Act} {w : World}
  (hro : F.round = none) (h1 : 1 ≤ n) {gf : Nat} {first lb : Array Value} (hg : a.eval g = .func (.func gf) first lb) (hFg : F.fn gf) (eg : ∀ args w,(callFunc gf args).run P w = .ok (.enter gf args) w)
  {encs : α → Array Value} {Kp : World → World → Prop} {R : List α → α → Prop} {S Sp : List α → Prop} {w0 : World} (hseq : Stops F (n - 1) P gf first lb encs Kp R S Sp w0)
  (hKt : ∀ {A B C : World},Kp A B → Kp B C → Kp A C) (hKb : ∀ (W : World) (l : Nat) (o o' : Obj),w.heap.size ≤ l → W.heap[l]? = some o → o.isCells = false → o.isWalk = false → Kp W (W.putObj l o')) (hb0 : Below w0.heap.size w0 w) (hps : ∀ x,(encs x).size = ps.size)
  (I : List α → World → Prop) (Ix : Code → List α → World → Prop) (hI : OwnFrom w.heap.size I) (hIx : ∀ c,OwnFrom w.heap.size (Ix c)) (h0 : I [] w)
  (hround : ∀ (l : Nat) (pre : List α) (x : α) (W : World),I pre W → R pre x → assign.wpIn (F.inRound l) (n - 1 - 1) P (Exit.then (fun a₁ w₁ => KeepsOthers W w₁ ∧ ∀ l' o',w.heap.size ≤ l' → NoCells w₁ l' →
    body.wpIn (F.inRound l) (n - 1 - 1) P (ownPostK (fun _ W' => Kp W W') I Ix (pre ++ [x]) (w₁.putObj l' o')) a₁ (w₁.putObj l' o')) (fun _ _ _ => False)) { tmps := (ps.zip (encs x)).foldl (fun t (p,v) => t.setIfInBounds p v) a.tmps,defers := [] } W)
  (hdone : ∀ (D : Nat) (xs : List α) (W : World),w.heap.size ≤ D → S xs → I xs W → W.heap[D]? = some (.deferred (some [])) → Q .normal { a with defers := { target := .collected D,args := #[] } :: a.defers } W)
  (hstop : ∀ (D : Nat) (c : Code) (pre : List α) (W : World),w.heap.size ≤ D → Sp pre → Ix c pre W → W.heap[D]? = some (.deferred (some [])) → c.wpIn F n P Q { a with defers := { target := .collected D,args := #[] } :: a.defers } W) :
  (Code.rangeFunc g ps assign body).wpIn F n P Q a w := by
 refine wpIn_rangeFunc ?_
 intro fn hfn
 rw [hro]
 obtain ⟨rec,hrec⟩ : ∃ rec : LoopState → Option Code → Loop,rec = fun st pe => { state := st,pending := pe,fn,tmps := a.tmps,params := ps,assign,body,defers := w.heap.size } := ⟨_,rfl⟩
 obtain ⟨W1,hW1⟩ : ∃ W1,(w.alloc (.deferred (some []))).alloc (.loop (rec .ready none)) = W1 := ⟨_,rfl⟩
 have hz1 : W1.heap.size = w.heap.size + 1 + 1 := by rw [← hW1];simp
 have hL1 : W1.heap[w.heap.size + 1]? = some (.loop (rec .ready none)) := by
  rw [← hW1];have := World.alloc_heap_new (w.alloc (.deferred (some []))) (.loop (rec .ready none));rwa [World.size_alloc] at this
 have hK1 : W1.heap[w.heap.size]? = some (.deferred (some [])) := by
  rw [← hW1];exact (Below.heap_alloc _ _ _ (by simp)).trans (World.alloc_heap_new w _)
 have hI1 : I [] W1 := by rw [← hW1];exact hI.alloc _ (hI.alloc _ h0)
 have hb1 : Below w0.heap.size w0 W1 := by
  rw [← hW1];exact hb0.trans ((((Below.refl _ w).alloc (Nat.le_refl _) _).alloc (by simp) _).mono hb0.size)
 refine ⟨w.heap.size + 1,[{ target := .collected w.heap.size,args := #[] }],W1, { target := .fn (.func gf) lb,args := first ++ #[.func (.yield (w.heap.size + 1)) #[] #[]] },W1,gf,first ++ #[.func (.yield (w.heap.size + 1)) #[] #[]] ++ lb,W1, ?_, ?_, ?_, ?_,fun _ => h1, ?_⟩
 ·rw [← hW1,hrec];exact run_enterLoop_outer _ _ _ _ _
 ·simp only [resolve,hg]
  simp [go_sem]
 ·intro f' hf';simp [Target.leads] at hf';subst hf';exact hFg
 ·show (callFunc gf _).run P W1 = _
  exact eg _ _
 have hnw : ∀ {A : World} {row : Option Nat},(∀ r,row = some r → W1.heap.size ≤ r ∧ ∃ o : Obj,A.heap[r]? = some o ∧ o.isWalk = true) → (∀ r,row = some r → w.heap.size ≤ r ∧ ∃ o : Obj,A.heap[r]? = some o ∧ o.isCells = false) :=
  fun hr r e => by obtain ⟨hB',o,ho,hw⟩ := hr r e;exact ⟨by omega,o,ho,Obj.not_cells_of_walk hw⟩
 refine (hseq (w.heap.size + 1)
  (fun pre W => I pre W ∧ W.heap[w.heap.size + 1]? = some (.loop (rec .ready none)) ∧ W.heap[w.heap.size]? = some (.deferred (some [])))
  (fun pre W => ∃ c,Ix c pre W ∧ W.heap[w.heap.size + 1]? = some (.loop (rec .done (some c))) ∧ W.heap[w.heap.size]? = some (.deferred (some [])))
  W1 hb1
  (fun s A A' row hs hg' hr => ⟨hI s A A' row hs.1 hg' (hnw hr),(grownBy_keeps hg' (fun r e => (hr r e).2) hs.2.1 rfl).trans hs.2.1,(grownBy_keeps hg' (fun r e => (hr r e).2) hs.2.2 rfl).trans hs.2.2⟩)
  (fun s A A' row ⟨c,hc,hl,hk⟩ hg' hr => ⟨c,hIx c s A A' row hc hg' (hnw hr),(grownBy_keeps hg' (fun r e => (hr r e).2) hl rfl).trans hl,(grownBy_keeps hg' (fun r e => (hr r e).2) hk rfl).trans hk⟩)
  ?_ ⟨hI1,hL1,hK1⟩).mono ?_
 ·rintro pre x W ⟨hi,hl,hk⟩ hR
  have hy := run_yield (P := P) (args := encs x) hl (by rw [hrec];exact hps x)
  rw [hrec] at hy
  refine ⟨fn,_,assign,body,hy,roundIn_of_wpIn hfn (wpIn_mono (hround (w.heap.size + 1) pre x W hi hR) ?_)⟩
  rintro e a1 w1 hp
  cases e with
  | normal =>
   obtain ⟨hko,hbody⟩ := hp
   have hl1 := hko.same _ _ hl rfl
   have hk1 := hko.same _ _ hk rfl
   have hlt : w.heap.size + 1 < w1.heap.size := (Array.getElem?_eq_some_iff.1 hl1).1
   refine ⟨_,run_beginRound hl1 (by rw [hrec]), ?_⟩
   have hl2 : (w1.putObj (w.heap.size + 1) (.loop { rec .ready none with state := .busy })).heap[w.heap.size + 1]? = some (.loop { rec .ready none with state := .busy }) := World.putObj_heap_same hlt
   have hk2 : (w1.putObj (w.heap.size + 1) (.loop { rec .ready none with state := .busy })).heap[w.heap.size]? = some (.deferred (some [])) := (World.putObj_heap_other (by omega)).trans hk1
   have fin : ∀ (jump : Option Code) (W3 : World),KeepsOthers (w1.putObj (w.heap.size + 1) (.loop { rec .ready none with state := .busy })) W3 →
     (Instr.endRound (w.heap.size + 1) jump).run P W3 = .ok (.bool jump.isNone) (W3.putObj (w.heap.size + 1) (.loop (rec (if jump.isNone then .ready else .done) jump))) ∧
     W3.heap[w.heap.size + 1]? = some (.loop { rec .ready none with state := .busy }) ∧
     (W3.putObj (w.heap.size + 1) (.loop (rec (if jump.isNone then .ready else .done) jump))).heap[w.heap.size + 1]? = some (.loop (rec (if jump.isNone then .ready else .done) jump)) ∧
     (W3.putObj (w.heap.size + 1) (.loop (rec (if jump.isNone then .ready else .done) jump))).heap[w.heap.size]? = some (.deferred (some [])) := fun jump W3 hk3 => by
    have hl3 := hk3.same _ _ hl2 rfl
    have := run_endRound (P := P) jump hl3
    rw [hrec] at this ⊢
    exact ⟨this,by rw [hrec] at hl3;exact hl3,World.putObj_heap_same (Array.getElem?_eq_some_iff.1 hl3).1,(World.putObj_heap_other (by omega)).trans (hk3.same _ _ hk2 rfl)⟩
   refine wpIn_mono (hbody _ _ (by omega) ⟨_,hl1,rfl,rfl⟩) ?_
   have out : ∀ (c : Code) (W3 : World),KeepsOthers (w1.putObj (w.heap.size + 1) (.loop { rec .ready none with state := .busy })) W3 → Ix c (pre ++ [x]) W3 →
     ∃ v w4,(Instr.endRound (w.heap.size + 1) (some c)).run P W3 = .ok v w4 ∧ ((Ending.returned v = .returned (.bool true) ∧ (I (pre ++ [x]) w4 ∧ w4.heap[w.heap.size + 1]? = some (.loop (rec .ready none)) ∧ w4.heap[w.heap.size]? = some (.deferred (some []))) ∧ Kp W w4) ∨
      (Ending.returned v = .returned (.bool false) ∧ ∃ c,Ix c (pre ++ [x]) w4 ∧ w4.heap[w.heap.size + 1]? = some (.loop (rec .done (some c))) ∧ w4.heap[w.heap.size]? = some (.deferred (some [])))) := fun c W3 hk3 hi3 => by
    obtain ⟨hr,hl3,hl4,hk4⟩ := fin (some c) W3 hk3
    exact ⟨_,_,hr, .inr ⟨rfl,c,(hIx c).putObj _ hi3 (by omega) hl3 rfl,hl4,hk4⟩⟩
   rintro e a3 W3 hp
   cases e with
   | normal =>
    obtain ⟨hk3,hkp3,hi3⟩ := hp
    obtain ⟨hr,hl3,hl4,hk4⟩ := fin none W3 hk3
    exact ⟨_,_,hr, .inl ⟨rfl,⟨hI.putObj _ hi3 (by omega) hl3 rfl,hl4,hk4⟩,hKt hkp3 (hKb _ _ _ _ (by omega) hl3 rfl rfl)⟩⟩
   | ret => exact out _ _ hp.1 hp.2
   | exit id => exact out _ _ hp.1 hp.2
   | goto t => exact out _ _ hp.1 hp.2
   | panic ch => exact hp.elim
   | outgrown => exact hp.elim
  | _ => exact hp.elim
 ·rintro e W2 ⟨⟨v,rfl⟩,(⟨xs,hS,hi,hl,hk⟩ | ⟨pre,hSp,c,hi,hl,hk⟩)⟩
  ·exact ⟨none,_,by have := run_endLoop (P := P) hl (by rw [hrec];simp);rw [hrec] at this;exact this,hdone _ xs _ (Nat.le_refl _) hS (hI.putObj _ hi (by omega) hl rfl) ((World.putObj_heap_other (by omega)).trans hk)⟩
  ·exact ⟨some c,_,by have := run_endLoop (P := P) hl (by rw [hrec];simp);rw [hrec] at this;exact this,hstop _ c pre _ (Nat.le_refl _) hSp ((hIx c).putObj _ hi (by omega) hl rfl) ((World.putObj_heap_other (by omega)).trans hk)⟩

def KeepCells (t : TypeId) (D : Nat) (W W' : World) : Prop := W.heap.size ≤ W'.heap.size ∧ ∀ k cs fr,D ≤ k → W.heap[k]? = some (.cells cs t fr) → W'.heap[k]? = some (.cells cs t fr)
theorem KeepCells.refl (t : TypeId) (D : Nat) (W : World) : KeepCells t D W W := ⟨Nat.le_refl _,fun _ _ _ _ h => h⟩
theorem KeepCells.trans {t : TypeId} {D : Nat} {A B C : World} (h : KeepCells t D A B) (k : KeepCells t D B C) : KeepCells t D A C := ⟨Nat.le_trans h.1 k.1,fun i cs fr hi ho => k.2 i cs fr hi (h.2 i cs fr hi ho)⟩
theorem KeepCells.alloc {t : TypeId} {D : Nat} {A B : World} (h : KeepCells t D A B) (o : Obj) : KeepCells t D A (B.alloc o) := ⟨by have := h.1;simp;omega,fun k cs fr hk ho => (Below.heap_alloc B o k (Array.getElem?_eq_some_iff.1 (h.2 k cs fr hk ho)).1).trans (h.2 k cs fr hk ho)⟩
theorem KeepCells.drew {t : TypeId} {D : Nat} {A B : World} (h : KeepCells t D A B) : KeepCells t D A B.drew := h
theorem KeepCells.setCell {t : TypeId} {D : Nat} {A B : World} (h : KeepCells t D A B) {p : Addr} (hp : p.block < D ∨ ∃ cs t' fr,B.heap[p.block]? = some (.cells cs t' fr) ∧ t' ≠ t) (v : Value) : KeepCells t D A (B.setCell p v) :=
 ⟨by simpa using h.1,fun k cs fr hk ho => (Below.heap_setCell B p v k (by
  rintro rfl
  rcases hp with hp | ⟨cs',t',fr',hp,hne⟩
  ·omega
  ·have := hp.symm.trans (h.2 _ cs fr hk ho)
   simp at this
   exact hne this.2.1)).trans (h.2 k cs fr hk ho)⟩
theorem KeepCells.grown {t : TypeId} {D : Nat} {A B C : World} {row : Option Nat} (h : KeepCells t D A B) (hg : B.grownBy C row) (hr : ∀ g,row = some g → ∃ cs t' fr,B.heap[g]? = some (.cells cs t' fr) ∧ t' ≠ t) : KeepCells t D A C :=
 ⟨Nat.le_trans h.1 hg.size,fun k cs fr hk ho => (hg.block k (Array.getElem?_eq_some_iff.1 (h.2 k cs fr hk ho)).1 (fun e => by
  obtain ⟨cs',t',fr',hp,hne⟩ := hr k e.symm
  have := hp.symm.trans (h.2 _ cs fr hk ho)
  simp at this
  exact hne this.2.1)).trans (h.2 k cs fr hk ho)⟩
theorem KeepCells.putObj {t : TypeId} {D : Nat} {A : World} (W : World) (l : Nat) (o o' : Obj) (hA : KeepCells t D A W) (h : W.heap[l]? = some o) (ho : o.isCells = false) : KeepCells t D A (W.putObj l o') :=
 ⟨by simpa [World.putObj] using hA.1,fun k cs fr hk hu => by
  have hu := hA.2 k cs fr hk hu
  have : k ≠ l := by rintro rfl;rw [h] at hu;cases hu;cases ho
  exact (World.putObj_heap_other (by omega)).trans hu⟩
theorem abides_alloc {β : Type} {B : Nat} {J : β → World → Prop} (hJ : AbidesFrom B J) {s : β} {W : World} (h : J s W) (o : Obj) : J s (W.alloc o) :=
 hJ s W _ none h (World.grownBy_alloc W o none) (fun r e => by cases e)
open Go.RowKit Go.Shelf
attribute [local go_sem] Oper.semAt_some
def runs : List Bool → Nat → Nat → List (Nat × Nat)
 | [],i,c => if c = 0 then [] else [(i - c,c)]
 | true :: T,i,c => (if c = 0 then [] else [(i - c,c)]) ++ runs T (i + 1) 0
 | false :: T,i,c => runs T (i + 1) (c + 1)
theorem runs_stop (T : List Bool) (t c : Nat) (h : t = T.length ∨ T[t]? = some true) : runs (T.drop t) t c = (if c = 0 then [] else [(t - c,c)]) ++ runs (T.drop (t + 1)) (t + 1) 0 := by
 rcases h with rfl | h
 ·rw [List.drop_eq_nil_of_le (Nat.le_refl _),List.drop_eq_nil_of_le (by omega),runs,runs]
  simp
 ·obtain ⟨hl,ht⟩ := List.getElem?_eq_some_iff.1 h
  rw [List.drop_eq_getElem_cons hl,ht,runs]
theorem runs_step (T : List Bool) (t c : Nat) (h : T[t]? = some false) : runs (T.drop t) t c = runs (T.drop (t + 1)) (t + 1) (c + 1) := by
 obtain ⟨hl,ht⟩ := List.getElem?_eq_some_iff.1 h
 rw [List.drop_eq_getElem_cons hl,ht,runs]
abbrev encX (x : Nat × Nat) : Array Value := #[.agg #[.int .i64 x.1, .int .i64 x.2]]
theorem abides_below {β : Type} {B : Nat} {J : β → World → Prop} (hJ : AbidesFrom B J) {s : β} {W W' : World} (h : J s W) (hb : Below W.heap.size W W') : J s W' :=
 hJ s W W' none h ⟨hb.os,hb.tape,hb.output,hb.size,fun k hk _ => hb.block k hk⟩ (fun r e => by cases e)
set_option maxRecDepth 100000 in
set_option maxHeartbeats 1000000 in
theorem free_stops (T : List Bool) (w : World) (hn : T.length ≤ 4096) : Stops Fence.wide 5 Tryz.prog 77 #[spv T] #[] encX (KeepCells 76 w.heap.size) (fun pre x => pre ++ [x] <+: runs T 0 0) (fun xs => xs = runs T 0 0) (fun pre => pre <+: runs T 0 0) w := by
 intro l J Jx W hW hJ hJx hY h0
 have HASK := fun i hi w => has_sp T i w hi hn
 unfold spv at HASK ⊢
 obtain ⟨X,hX⟩ : ∃ X,mk (packB T) = X := ⟨_,rfl⟩
 obtain ⟨n,hn2⟩ : ∃ n,T.length = n := ⟨_,rfl⟩
 rw [hX,hn2] at HASK ⊢
 rw [hn2] at hn
 have HSZ := Lib.hid hW.size
 obtain ⟨RR,hRR⟩ : ∃ R,runs T 0 0 = R := ⟨_,rfl⟩
 rw [hRR]
 rw [hRR] at hY
 have HY := Lib.hid hY
 have HJ := Lib.hid hJ
 have HJX := Lib.hid hJx
 have HST := Lib.hid (fun t c h => runs_stop T t c h)
 have HSP := Lib.hid (fun t c h => runs_step T t c h)
 have H0 := Lib.hid h0
 have HN := Lib.hid hn2
 have HR := Lib.hid hRR
 clear hX hn2 hY hJ hJx h0 hRR hW
 refine callsIn_of_wp Tryz.func77 rfl trivial ?_ rfl
 simp only [Tryz.ntmps77,List.size_toArray,List.length_cons,List.length_nil,Nat.reduceAdd,Nat.reduceSub,Array.replicate_succ,Array.replicate_zero,List.push_toArray,List.append_toArray,List.nil_append,List.cons_append]
 gi_wp2
 obtain ⟨Z,hZ⟩ : ∃ Z,W.heap.size = Z := ⟨_,rfl⟩
 have hwz : w.heap.size ≤ Z := hZ ▸ HSZ.out
 simp only [hZ]
 gi_loopw [4] (fun fv wr => ∃ (f : Nat) (pre : List (Nat × Nat)),f ≤ n + 1 ∧ fv = .int .i64 f ∧ pre ++ runs (T.drop f) f 0 = RR ∧ J pre wr ∧ Blk wr Z #[.int .i64 n, .string X] 76) (fun fv _ => n + 1 - (intOf fv).toNat)
 case atStart => exact ⟨0,[],by omega,rfl,HR.out,abides_alloc HJ.out H0.out _,hZ ▸ Blk.new W _ 76⟩
 case round =>
  obtain ⟨f,pre,hf,rfl,hpre,hJs,hB⟩ := hrel
  have c0 := hB.cell 0
  have c1 := hB.cell 1
  have hl := hB.lt
  simp at c0 c1
  have f0 : (0 : Int) ≤ (f : Int) := by omega
  have HP1 := Lib.hid hpre
  have HJS := Lib.hid hJs
  have HB := Lib.hid hB
  clear hpre hJs hB
  by_cases hfn : f < n
  ·have f1 : (f : Int) < (n : Int) := by omega
   gi_wp2
   gi_loopw [5] (fun tv wr => ∃ (t : Nat),f ≤ t ∧ t ≤ n ∧ tv = .int .i64 t ∧ runs (T.drop t) t (t - f) = runs (T.drop f) f 0 ∧ J pre wr ∧ Blk wr Z #[.int .i64 n, .string X] 76) (fun tv _ => n - (intOf tv).toNat)
   case atStart => exact ⟨f,by omega,by omega,rfl,by rw [Nat.sub_self],HJS.out,HB.out⟩
   case round =>
    clear HJS HB c0 c1 hl
    obtain ⟨t,ht,htn,rfl,hrt,hJs,hB⟩ := hrel
    have t0 : (0 : Int) ≤ (t : Int) := by omega
    have hpre := HP1.out
    rw [← hrt] at hpre
    have HRT := Lib.hid hrt
    clear hrt
    by_cases htl : t < n
    ·have t1 : (t : Int) < (n : Int) := by omega
     have c0 := hB.cell 0
     have c1 := hB.cell 1
     have hl := hB.lt
     simp at c0 c1
     obtain ⟨b,hb⟩ : ∃ b,T.getD t false = b := ⟨_,rfl⟩
     have htT : T[t]? = some b := by
      rw [List.getD_eq_getElem?_getD,List.getElem?_eq_getElem (by rw [HN.out];exact htl)] at hb
      rw [List.getElem?_eq_getElem (by rw [HN.out];exact htl)]
      simpa using hb
     have KH := HASK t htl wr
     rw [hb] at KH
     have HTT := Lib.hid htT
     have HP := Lib.hid hpre
     have HJS := Lib.hid hJs
     have HB := Lib.hid hB
     clear hpre hJs hB hb htT
     gi_wp2_with fail
     refine ⟨trivial, ?_⟩
     refine (callsIn_wide.2 KH).mono ?_
     rintro e w1 ⟨rfl,hbw⟩
     have HJ1 := Lib.hid (abides_below HJ.out HJS.out hbw)
     have HB1 := Lib.hid (HB.out.below hbw)
     clear hbw HJS HB c0 c1 hl KH
     cases b with
     | false =>
      gi_wp2
      go_roundw
      case rel => exact ⟨t + 1,by omega,by omega,by simp,by rw [show t + 1 - f = t - f + 1 by omega, ← HSP.out t (t - f) HTT.out];exact HRT.out,HJ1.out,HB1.out⟩
      case measure => simp [intOf];omega
     | true =>
      have HP2 := Lib.hid (show pre ++ ((if t - f = 0 then [] else [(t - (t - f),t - f)]) ++ runs (T.drop (t + 1)) (t + 1) 0) = RR by rw [← HST.out t (t - f) (.inr HTT.out)];exact HP.out)
      clear HP HTT
      by_cases hgt : f < t
      ·obtain ⟨c,hc⟩ : ∃ c,t - f = c := ⟨_,rfl⟩
       have hc0 : c ≠ 0 := by omega
       have hpf : pre ++ [(f,c)] ++ runs (T.drop (t + 1)) (t + 1) 0 = RR := by
        have h := HP2.out
        rw [hc,if_neg hc0,show t - c = f by omega] at h
        rw [List.append_assoc];exact h
       have HPF := Lib.hid hpf
       have hcd : (t : Int) - (f : Int) = (c : Int) := by omega
       have hft : (f : Int) < (t : Int) := by omega
       obtain ⟨fn,tmps,assign,body,hy,hR⟩ := HY.out pre (f,c) _ HJ1.out ⟨_,hpf⟩
       dsimp only [encX] at hy
       have HT1 := Lib.hid (And.intro ht htn)
       clear hpf hc0 hc HP2 ht htn
       gi_wp2
       refine hR.mono ?_
       rintro e W3 (⟨rfl,hJ3,hk3⟩ | ⟨rfl,hJx3⟩)
       ·have hB3 : Hid (Blk W3 Z #[.int .i64 n, .string X] 76) := Lib.hid (hk3.2 Z _ _ hwz HB1.out)
        have HJ3 := Lib.hid hJ3
        clear hk3 hJ3 hy
        gi_wp2
        go_roundw
        case rel => exact ⟨t + 1,_,by have := HT1.out;omega,by simp,HPF.out,HJ3.out,hB3.out⟩
        case measure => have := HT1.out;simp [intOf];omega
       ·gi_wp2
        refine bodyPost_ret (results_none rfl _ _ _) rfl ?_
        exact ⟨⟨_,rfl⟩, .inr ⟨_,⟨_,HPF.out⟩,hJx3⟩⟩
      ·obtain rfl : f = t := by omega
       have HPF := Lib.hid (show pre ++ runs (T.drop (f + 1)) (f + 1) 0 = RR by
        have h := HP2.out
        rw [Nat.sub_self,if_pos rfl] at h
        exact h)
       have HT1 := Lib.hid htn
       clear HP2 ht htn
       gi_wp2
       refine ⟨fun _ h => (by cases h), ?_⟩
       gi_wp2
       go_roundw
       case rel => exact ⟨f + 1,pre,by have := HT1.out;omega,by simp,HPF.out,HJ1.out,HB1.out⟩
       case measure => have := HT1.out;simp [intOf];omega
    ·obtain rfl : t = n := by omega
     have HP2 := Lib.hid (show pre ++ ((if t - f = 0 then [] else [(t - (t - f),t - f)]) ++ runs (T.drop (t + 1)) (t + 1) 0) = RR by rw [← HST.out t (t - f) (.inl HN.out.symm)];exact hpre)
     have HJ1 := Lib.hid hJs
     have HB1 := Lib.hid hB
     have c0 := hB.cell 0
     have c1 := hB.cell 1
     have hl := hB.lt
     simp at c0 c1
     have t1 : ¬ ((t : Int) < (t : Int)) := by omega
     clear hpre hJs hB HP1
     gi_wp2
     refine ⟨trivial, ?_⟩
     clear c0 c1
     by_cases hgt : f < t
     ·obtain ⟨c,hc⟩ : ∃ c,t - f = c := ⟨_,rfl⟩
      have hc0 : c ≠ 0 := by omega
      have hpf : pre ++ [(f,c)] ++ runs (T.drop (t + 1)) (t + 1) 0 = RR := by
       have h := HP2.out
       rw [hc,if_neg hc0,show t - c = f by omega] at h
       rw [List.append_assoc];exact h
      have HPF := Lib.hid hpf
      have hcd : (t : Int) - (f : Int) = (c : Int) := by omega
      have hft : (f : Int) < (t : Int) := by omega
      obtain ⟨fn,tmps,assign,body,hy,hR⟩ := HY.out pre (f,c) _ HJ1.out ⟨_,hpf⟩
      dsimp only [encX] at hy
      have HT1 := Lib.hid (And.intro ht htn)
      clear hpf hc0 hc HP2 ht htn
      gi_wp2
      refine hR.mono ?_
      rintro e W3 (⟨rfl,hJ3,hk3⟩ | ⟨rfl,hJx3⟩)
      ·have hB3 : Hid (Blk W3 Z #[.int .i64 t, .string X] 76) := Lib.hid (hk3.2 Z _ _ hwz HB1.out)
       have HJ3 := Lib.hid hJ3
       clear hk3 hJ3 hy
       gi_wp2
       go_roundw
       case rel => exact ⟨t + 1,_,by have := HT1.out;omega,by simp,HPF.out,HJ3.out,hB3.out⟩
       case measure => have := HT1.out;simp [intOf];omega
      ·gi_wp2
       refine bodyPost_ret (results_none rfl _ _ _) rfl ?_
       exact ⟨⟨_,rfl⟩, .inr ⟨_,⟨_,HPF.out⟩,hJx3⟩⟩
     ·omega
  ·obtain hfn' : n ≤ f := by omega
   have f1 : ¬ ((f : Int) < (n : Int)) := by omega
   have HPF := Lib.hid (show pre = RR by
    have h := HP1.out
    rw [List.drop_eq_nil_of_le (by rw [HN.out];exact hfn'),runs,if_pos rfl,List.append_nil] at h
    exact h)
   clear HP1
   gi_wp2
   go_end0
   rw [← HPF.out];exact ⟨⟨_,rfl⟩, .inl HJS.out⟩
def sumN (l : List (Nat × Nat)) : Nat := (l.map Prod.snd).sum
theorem sumN_snoc (l : List (Nat × Nat)) (x : Nat × Nat) : sumN (l ++ [x]) = sumN l + x.2 := by simp [sumN]
theorem sumN_cons (l : List (Nat × Nat)) (x : Nat × Nat) : sumN (x :: l) = x.2 + sumN l := by simp [sumN]
def trimR : List (Nat × Nat) → Nat → List (Nat × Nat) × Nat
 | [],k => ([],k)
 | x :: l,k => if k = 0 then ([],0) else ((x.1,min x.2 k) :: (trimR l (k - min x.2 k)).1,(trimR l (k - min x.2 k)).2)
theorem trimR_zero (l : List (Nat × Nat)) : trimR l 0 = ([],0) := by cases l <;> simp [trimR]
theorem trimR_pre (pre rest : List (Nat × Nat)) : ∀ k,sumN pre < k → trimR (pre ++ rest) k = (pre ++ (trimR rest (k - sumN pre)).1,(trimR rest (k - sumN pre)).2) := by
 induction pre with
 | nil => intro k _;simp [sumN]
 | cons x pre ih =>
  intro k hk
  rw [sumN_cons] at hk ⊢
  rw [List.cons_append,trimR,if_neg (by omega),Nat.min_eq_left (by omega),ih _ (by omega),show k - x.2 - sumN pre = k - (x.2 + sumN pre) by omega]
  rfl
theorem trimR_stop (pre rest : List (Nat × Nat)) (x : Nat × Nat) (k : Nat) (h : sumN pre < k) (h2 : k ≤ sumN pre + x.2) : trimR (pre ++ x :: rest) k = (pre ++ [(x.1,k - sumN pre)],0) := by
 rw [trimR_pre pre _ k h,trimR,if_neg (by omega),Nat.min_eq_right (by omega),Nat.sub_self,trimR_zero]
theorem trimR_all (l : List (Nat × Nat)) (k : Nat) (h : sumN l < k) : trimR l k = (l,k - sumN l) := by
 have := trimR_pre l [] k h
 rw [List.append_nil] at this
 rw [this]
 simp [trimR]
def Rise : Nat → List (Nat × Nat) → Prop
 | _,[] => True
 | lo,x :: l => lo ≤ x.1 ∧ Rise (x.1 + x.2) l
theorem Rise.mono : ∀ {l : List (Nat × Nat)} {a b : Nat},Rise a l → b ≤ a → Rise b l
 | [],_,_,_,_ => trivial
 | _ :: _,_,_,h,hb => ⟨Nat.le_trans hb h.1,h.2⟩
theorem runs_good (T : List Bool) : ∀ (R : List Bool) (i c : Nat),T.drop i = R → c ≤ i → (∀ j,i - c ≤ j → j < i → T.getD j true = false) →
  Rise (i - c) (runs R i c) ∧ ∀ x ∈ runs R i c,1 ≤ x.2 ∧ i - c ≤ x.1 ∧ x.1 + x.2 ≤ T.length ∧ ∀ j,x.1 ≤ j → j < x.1 + x.2 → T.getD j true = false := by
 intro R
 have hfit : ∀ i c,(c = 0 ∨ i ≤ T.length) → c ≤ i → (∀ j,i - c ≤ j → j < i → T.getD j true = false) →
   Rise (i - c) (if c = 0 then [] else [(i - c,c)]) ∧ ∀ x ∈ (if c = 0 then [] else [(i - c,c)]),1 ≤ x.2 ∧ i - c ≤ x.1 ∧ x.1 + x.2 ≤ T.length ∧ x.1 + x.2 ≤ i ∧ ∀ j,x.1 ≤ j → j < x.1 + x.2 → T.getD j true = false := by
  intro i c hl hc hf
  by_cases h0 : c = 0
  ·rw [if_pos h0];exact ⟨trivial,fun x hx => by simp at hx⟩
  ·rw [if_neg h0]
   refine ⟨⟨Nat.le_refl _,trivial⟩,fun x hx => ?_⟩
   simp only [List.mem_singleton] at hx
   subst hx
   exact ⟨by show 1 ≤ c;omega,Nat.le_refl _,by show i - c + c ≤ _;rcases hl with h | h <;> omega,by show i - c + c ≤ _;omega,fun j h1 h2 => hf j h1 (by simp only at h2;omega)⟩
 induction R with
 | nil =>
  intro i c hd hc hf
  have hlen : c = 0 ∨ i ≤ T.length := by
   by_cases h0 : c = 0
   ·exact .inl h0
   ·refine .inr ?_
    have := hf (i - 1) (by omega) (by omega)
    rcases Nat.lt_or_ge (i - 1) T.length with h | h
    ·omega
    ·rw [List.getD_eq_getElem?_getD,List.getElem?_eq_none h] at this
     cases this
  obtain ⟨h1,h2⟩ := hfit i c hlen hc hf
  rw [runs]
  exact ⟨h1,fun x hx => ⟨(h2 x hx).1,(h2 x hx).2.1,(h2 x hx).2.2.1,(h2 x hx).2.2.2.2⟩⟩
 | cons b R ih =>
  intro i c hd hc hf
  have hil : i < T.length := by
   rcases Nat.lt_or_ge i T.length with h | h
   ·exact h
   ·rw [List.drop_eq_nil_of_le h] at hd;cases hd
  have hdc := List.drop_eq_getElem_cons hil
  rw [hd] at hdc
  obtain ⟨hb,hR⟩ := List.cons.inj hdc
  cases b with
  | true =>
   obtain ⟨h1,h2⟩ := hfit i c (.inr (by omega)) hc hf
   obtain ⟨k1,k2⟩ := ih (i + 1) 0 hR.symm (by omega) (fun j h h' => by omega)
   rw [runs]
   refine ⟨?_,fun x hx => ?_⟩
   ·by_cases h0 : c = 0
    ·rw [if_pos h0,List.nil_append]
     exact k1.mono (by omega)
    ·rw [if_neg h0]
     exact ⟨Nat.le_refl _,k1.mono (by show i - c + c ≤ _;omega)⟩
   ·rcases List.mem_append.1 hx with hx | hx
    ·exact ⟨(h2 x hx).1,(h2 x hx).2.1,(h2 x hx).2.2.1,(h2 x hx).2.2.2.2⟩
    ·have := k2 x hx
     exact ⟨this.1,by have := this.2.1;omega,this.2.2.1,this.2.2.2⟩
  | false =>
   rw [runs]
   have := ih (i + 1) (c + 1) hR.symm (by omega) (fun j h h' => by
    by_cases e : j = i
    ·subst e
     rw [List.getD_eq_getElem?_getD,List.getElem?_eq_getElem hil, ← hb];rfl
    ·exact hf j (by omega) (by omega))
   rw [show i + 1 - (c + 1) = i - c by omega] at this
   exact this
theorem runs_all (T : List Bool) : Rise 0 (runs T 0 0) ∧ ∀ x ∈ runs T 0 0,1 ≤ x.2 ∧ x.1 + x.2 ≤ T.length ∧ ∀ j,x.1 ≤ j → j < x.1 + x.2 → T.getD j true = false := by
 obtain ⟨h1,h2⟩ := runs_good T T 0 0 rfl (Nat.le_refl _) (fun j h h' => by omega)
 exact ⟨h1,fun x hx => ⟨(h2 x hx).1,(h2 x hx).2.2.1,(h2 x hx).2.2.2⟩⟩
theorem trimR_good (p : Nat → Prop) (n : Nat) : ∀ (l : List (Nat × Nat)) (lo k : Nat),Rise lo l → (∀ x ∈ l,1 ≤ x.2 ∧ x.1 + x.2 ≤ n ∧ ∀ j,x.1 ≤ j → j < x.1 + x.2 → p j) →
  Rise lo (trimR l k).1 ∧ ∀ x ∈ (trimR l k).1,1 ≤ x.2 ∧ x.1 + x.2 ≤ n ∧ ∀ j,x.1 ≤ j → j < x.1 + x.2 → p j := by
 intro l
 induction l with
 | nil => intro lo k h1 h2;exact ⟨trivial,fun x hx => by simp [trimR] at hx⟩
 | cons x l ih =>
  intro lo k h1 h2
  rw [trimR]
  by_cases h0 : k = 0
  ·rw [if_pos h0];exact ⟨trivial,fun x hx => by simp at hx⟩
  ·rw [if_neg h0]
   obtain ⟨a1,a2,a3⟩ := h2 x (List.mem_cons_self ..)
   obtain ⟨i1,i2⟩ := ih (x.1 + x.2) (k - min x.2 k) h1.2 (fun y hy => h2 y (List.mem_cons_of_mem _ hy))
   refine ⟨⟨h1.1,i1.mono (by show x.1 + min x.2 k ≤ _;omega)⟩,fun y hy => ?_⟩
   rcases List.mem_cons.1 hy with rfl | hy
   ·exact ⟨by show 1 ≤ min x.2 k;omega,by show x.1 + min x.2 k ≤ n;omega,fun j hj hj2 => a3 j hj (by simp only at hj2;omega)⟩
   ·exact i2 y hy
theorem turn1_free : ∀ (m : Nat) (T : List Bool) (i : Nat),i + m ≤ T.length → (∀ j,i ≤ j → j < i + m → T.getD j true = false) →
  ∃ T',turn1 true T i m = some T' ∧ T'.length = T.length ∧ ∀ j,T'.getD j true = (T.getD j true || decide (i ≤ j ∧ j < i + m)) := by
 intro m
 induction m with
 | zero => intro T i _ _;exact ⟨T,rfl,rfl,fun j => by simp;intro h1 h2;omega⟩
 | succ m ih =>
  intro T i hl hf
  have h0 := hf i (Nat.le_refl _) (by omega)
  have hil : i < T.length := by omega
  have h0' : T.getD i false = false := by
   rw [List.getD_eq_getElem?_getD,List.getElem?_eq_getElem hil] at h0 ⊢;exact h0
  have hset : ∀ j,(T.set i true).getD j true = (T.getD j true || decide (j = i)) := fun j => by
   rw [List.getD_eq_getElem?_getD,List.getD_eq_getElem?_getD,List.getElem?_set]
   by_cases e : i = j
   ·subst e;simp [hil]
   ·rw [if_neg e];simp [Ne.symm e]
  obtain ⟨T',h1,h2,h3⟩ := ih (T.set i true) (i + 1) (by rw [List.length_set];omega) (fun j hj hj2 => by rw [hset,hf j (by omega) (by omega)];simp;omega)
  refine ⟨T', ?_,by rw [h2,List.length_set],fun j => ?_⟩
  ·rw [turn1,h0',if_neg (by simp)]
   exact h1
  ·rw [h3,hset]
   by_cases e : j = i
   ·subst e;simp
   ·cases T.getD j true
    ·rw [decide_eq_false e]
     simp only [Bool.false_or]
     exact decide_eq_decide.2 (by constructor <;> intro h <;> omega)
    ·simp
theorem turnS_free : ∀ (l : List (Nat × Nat)) (T : List Bool) (lo : Nat),Rise lo l → (∀ x ∈ l,1 ≤ x.2 ∧ x.1 + x.2 ≤ T.length ∧ ∀ j,x.1 ≤ j → j < x.1 + x.2 → T.getD j true = false) →
  ∃ T',turnS true T l = some T' ∧ T'.length = T.length ∧ ∀ j,T'.getD j true = (T.getD j true || l.any fun x => decide (x.1 ≤ j ∧ j < x.1 + x.2)) := by
 intro l
 induction l with
 | nil => intro T lo _ _;exact ⟨T,rfl,rfl,fun j => by simp⟩
 | cons x l ih =>
  intro T lo hr hx
  obtain ⟨a1,a2,a3⟩ := hx x (List.mem_cons_self ..)
  obtain ⟨T1,b1,b2,b3⟩ := turn1_free x.2 T x.1 a2 a3
  have hlow : ∀ (l : List (Nat × Nat)) (lo : Nat),Rise lo l → ∀ y ∈ l,lo ≤ y.1 := by
   intro l
   induction l with
   | nil => intro lo _ y hy;simp at hy
   | cons z l ih =>
    intro lo h y hy
    rcases List.mem_cons.1 hy with rfl | hy
    ·exact h.1
    ·have := ih _ h.2 y hy
     have := h.1
     omega
  obtain ⟨T',c1,c2,c3⟩ := ih T1 (x.1 + x.2) hr.2 (fun y hy => by
   obtain ⟨d1,d2,d3⟩ := hx y (List.mem_cons_of_mem _ hy)
   have hlo := hlow l _ hr.2 y hy
   refine ⟨d1,by rw [b2];exact d2,fun j h1 h2 => ?_⟩
   rw [b3,d3 j h1 h2]
   simp
   omega)
  refine ⟨T', ?_,by rw [c2,b2],fun j => ?_⟩
  ·rw [turnS,if_neg (by omega),b1];exact c1
  ·rw [c3,b3,List.any_cons,Bool.or_assoc]
def takeS (T : List Bool) (k most : Nat) : Option (List (Nat × Nat) × List Bool) :=
 if 0 < (trimR (runs T 0 0) k).2 ∨ most < (trimR (runs T 0 0) k).1.length then none else (turnS true T (trimR (runs T 0 0) k).1).map fun T' => ((trimR (runs T 0 0) k).1,T')
theorem take_claims (T : List Bool) (k : Nat) : ∃ T',turnS true T (trimR (runs T 0 0) k).1 = some T' ∧ T'.length = T.length ∧ ∀ j,T'.getD j true = (T.getD j true || (trimR (runs T 0 0) k).1.any fun x => decide (x.1 ≤ j ∧ j < x.1 + x.2)) := by
 obtain ⟨h1,h2⟩ := runs_all T
 obtain ⟨h3,h4⟩ := trimR_good (fun j => T.getD j true = false) T.length _ _ k h1 h2
 exact turnS_free _ T 0 h3 h4
theorem runs_length_sum : ∀ (R : List Bool) (i c : Nat),(runs R i c).length ≤ R.length + c ∧ sumN (runs R i c) ≤ R.length + c := by
 intro R
 induction R with
 | nil => intro i c;rw [runs];split <;> simp [sumN] <;> omega
 | cons b R ih =>
  intro i c
  cases b with
  | true =>
   have := ih (i + 1) 0
   rw [runs]
   split
   ·simp;omega
   ·rw [List.singleton_append,List.length_cons,sumN_cons];simp;omega
  | false =>
   have := ih (i + 1) (c + 1)
   rw [runs]
   simp;omega
section
variable {P : Program} {ops : Array Oper} {Q : Exit → Act → World → Prop} {md : Region.Mode} {st s2 : Nat} {C1 C2 C3 : World → Prop}
def HeldT (st s2 : Nat) (C1 C2 C3 : World → Prop) (L : Array Bool) (w : World) : Prop := C1 w ∧ (L.getD st false = false → C2 w) ∧ (L.getD s2 false = false → C3 w)
def wpAnyT (P : Program) (md : Region.Mode) (ops : Array Oper) (Q : Exit → Act → World → Prop) (st s2 : Nat) (C1 C2 C3 : World → Prop) : Nat → Array Bool → Act → World → Prop
 | 0,L,a,w => Region.ready md ops L = [] ∧ Q .normal a w
 | fuel + 1,L,a,w => (Region.ready md ops L = [] → Q .normal a w) ∧
  ∀ i ∈ Region.ready md ops L,wpOp P ops Q i (fun a' w' => HeldT st s2 C1 C2 C3 (L.setIfInBounds i true) w' ∧ wpAnyT P md ops Q st s2 C1 C2 C3 fuel (L.setIfInBounds i true) a' w') a w
theorem wpAny_of_T : ∀ (fuel : Nat) (L : Array Bool) (a : Act) (w : World),wpAnyT P md ops Q st s2 C1 C2 C3 fuel L a w → wpAny P md ops Q fuel L a w
 | 0,_,_,_,h => h
 | fuel + 1,_,_,_,h => ⟨h.1,fun i hi => wpOp_mono (fun a' w' h' => wpAny_of_T fuel _ a' w' h'.2) (h.2 i hi)⟩
theorem heldT_set {i : Nat} (hne : i ≠ st) (hne2 : i ≠ s2) {L : Array Bool} {w : World} : HeldT st s2 C1 C2 C3 (L.setIfInBounds i true) w ↔ HeldT st s2 C1 C2 C3 L w := by
 unfold HeldT;rw [getD_set_ne false hne,getD_set_ne false hne2]
theorem wpAnyT_first {i : Nat} {oi : Oper} {v : Value} (C : World → Prop) (G : Array Bool → Prop) (hi : ops[i]? = some oi) (hsel : ∀ (j : Nat) (o : Oper) cs b,ops[j]? = some o → o.op ≠ .select cs b)
  (hQ : ∀ c a w,Q (.panic c) (a.put oi.dst v) w → Q (.panic c) a w) (hne : i ≠ st) (hne2 : i ≠ s2) (hC : ∀ L w,G L → HeldT st s2 C1 C2 C3 L w → C w)
  (hG : ∀ (L : Array Bool) (j : Nat),G L → L.getD i true = false → j ∈ Region.ready md ops L → j ≠ i → G (L.setIfInBounds j true)) :
  ∀ (fuel : Nat) (L : Array Bool) (a : Act) (w : World),G L →
   (∀ j oj,ops[j]? = some oj → j ≠ i → L.getD j true = false → (∀ e ∈ oj.after,Region.binds md e = true → e.on ≠ i) → oi.apart ops oj = true) →
   i ∈ Region.ready md ops L → YieldsIf P ops C oi v a → HeldT st s2 C1 C2 C3 L w →
   wpAnyT P md ops Q st s2 C1 C2 C3 fuel (L.setIfInBounds i true) (a.put oi.dst v) w → wpAnyT P md ops Q st s2 C1 C2 C3 (fuel + 1) L a w := by
 intro fuel
 induction fuel with
 | zero =>
  intro L a w hL _ hr hy hS H
  refine ⟨fun h => (by rw [h] at hr;cases hr),fun j hj => ?_⟩
  by_cases hji : j = i
  ·subst hji
   exact hy.wpOp hi (hC _ _ hL hS) ⟨(heldT_set hne hne2).2 hS,H⟩
  ·have := ready_mono hj hji
   rw [H.1] at this
   cases this
 | succ fuel ih =>
  intro L a w hL hfree hr hy hS H
  refine ⟨fun h => (by rw [h] at hr;cases hr),fun j hj => ?_⟩
  by_cases hji : j = i
  ·subst hji
   exact hy.wpOp hi (hC _ _ hL hS) ⟨(heldT_set hne hne2).2 hS,H⟩
  ·have h1 := H.2 j (ready_mono hj hji)
   have h0 := (mem_ready.1 hr).1
   obtain ⟨hjun,oj,hoj,hall⟩ := mem_ready.1 hj
   have hnot : ∀ e ∈ oj.after,Region.binds md e = true → e.on ≠ i := fun e he hb heq => by
    have k1 := hall e he hb
    rw [heq] at k1
    rcases Nat.lt_or_ge i L.size with h' | h'
    ·simp [h'] at h0 k1;rw [h0] at k1;cases k1
    ·simp [Array.getElem?_eq_none h'] at k1
   have h2 := wpOp_putIf hoj (hfree j oj hoj hji hjun hnot) (fun cs b => hsel i oi cs b hi) (fun cs b => hsel j oj cs b hoj) hQ hy h1
   have hfree' : ∀ k ok,ops[k]? = some ok → k ≠ i → (L.setIfInBounds j true).getD k true = false →
     (∀ e ∈ ok.after,Region.binds md e = true → e.on ≠ i) → oi.apart ops ok = true := fun k ok hk hki hun hno => by
    refine hfree k ok hk hki ?_ hno
    by_cases hjk : j = k
    ·subst hjk;exact hjun
    ·rw [getD_set_ne true hjk] at hun;exact hun
   refine wpOp_mono (fun a' w' h3 => ?_) h2
   obtain ⟨hy3,hS3,h4⟩ := h3
   rw [Array.setIfInBounds_comm _ _ (Ne.symm hji)] at hS3 h4
   have hS3' := (heldT_set hne hne2).1 hS3
   exact ⟨hS3',ih (L.setIfInBounds j true) a' w' (hG L j hL h0 hj hji) hfree' (ready_mono hr (Ne.symm hji)) hy3 hS3' h4⟩
theorem wpAnyT_take {i : Nat} {oi : Oper} {v : Value} {fuel : Nat} {L : Array Bool} {a : Act} {w : World} (hi : ops[i]? = some oi) (hne : i ≠ st) (hne2 : i ≠ s2)
  (hs : Region.noSelect ops = true) (hf : Region.free md ops L i = true) (hr : (Region.ready md ops L).contains i = true)
  (hQ : ∀ c a w,Q (.panic c) (a.put oi.dst v) w → Q (.panic c) a w) (hy : YieldsIf P ops C1 oi v a) (hS : HeldT st s2 C1 C2 C3 L w)
  (h : wpAnyT P md ops Q st s2 C1 C2 C3 fuel (L.setIfInBounds i true) (a.put oi.dst v) w) : wpAnyT P md ops Q st s2 C1 C2 C3 (fuel + 1) L a w :=
 wpAnyT_first C1 (fun _ => True) hi (Region.noSelect_spec hs) hQ hne hne2 (fun _ _ _ h => h.1) (fun _ _ _ _ _ _ => trivial) fuel L a w trivial (Region.free_spec hi hf) (by simpa using hr) hy hS h
theorem wpAnyT_take2 {i : Nat} {oi os : Oper} {v : Value} {fuel : Nat} {L : Array Bool} {a : Act} {w : World} (hi : ops[i]? = some oi) (hne : i ≠ st) (hne2 : i ≠ s2)
  (hos : ops[st]? = some os) (hw : os.after.any (fun e => Region.binds md e && e.on == i) = true) (hL : L.getD st false = false)
  (hs : Region.noSelect ops = true) (hf : Region.free md ops L i = true) (hr : (Region.ready md ops L).contains i = true)
  (hQ : ∀ c a w,Q (.panic c) (a.put oi.dst v) w → Q (.panic c) a w) (hy : YieldsIf P ops (fun w => C1 w ∧ C2 w) oi v a) (hS : HeldT st s2 C1 C2 C3 L w)
  (h : wpAnyT P md ops Q st s2 C1 C2 C3 fuel (L.setIfInBounds i true) (a.put oi.dst v) w) : wpAnyT P md ops Q st s2 C1 C2 C3 (fuel + 1) L a w := by
 refine wpAnyT_first (fun w => C1 w ∧ C2 w) (fun L => L.getD st false = false) hi (Region.noSelect_spec hs) hQ hne hne2 (fun _ _ hg h => ⟨h.1,h.2.1 hg⟩) ?_ fuel L a w hL (Region.free_spec hi hf) (by simpa using hr) hy hS h
 intro L j hg hun hj _
 have hjs : j ≠ st := by
  rintro rfl
  obtain ⟨_,o,ho,hall⟩ := mem_ready.1 hj
  rw [hos] at ho
  cases ho
  obtain ⟨k,hk,hb⟩ := Array.any_eq_true.1 hw
  simp only [Bool.and_eq_true,beq_iff_eq] at hb
  have k1 := hall _ (Array.getElem_mem hk) hb.1
  rw [hb.2] at k1
  rcases Nat.lt_or_ge i L.size with h' | h'
  ·simp [h'] at hun k1;rw [hun] at k1;cases k1
  ·simp [Array.getElem?_eq_none h'] at k1
 show (L.setIfInBounds j true).getD st false = false
 rw [getD_set_ne false hjs];exact hg
theorem wpAnyT_take3 {i : Nat} {oi os : Oper} {v : Value} {fuel : Nat} {L : Array Bool} {a : Act} {w : World} (hi : ops[i]? = some oi) (hne : i ≠ st) (hne2 : i ≠ s2)
  (hos : ops[s2]? = some os) (hw : os.after.any (fun e => Region.binds md e && e.on == i) = true) (hL : L.getD s2 false = false)
  (hs : Region.noSelect ops = true) (hf : Region.free md ops L i = true) (hr : (Region.ready md ops L).contains i = true)
  (hQ : ∀ c a w,Q (.panic c) (a.put oi.dst v) w → Q (.panic c) a w) (hy : YieldsIf P ops (fun w => C1 w ∧ C3 w) oi v a) (hS : HeldT st s2 C1 C2 C3 L w)
  (h : wpAnyT P md ops Q st s2 C1 C2 C3 fuel (L.setIfInBounds i true) (a.put oi.dst v) w) : wpAnyT P md ops Q st s2 C1 C2 C3 (fuel + 1) L a w := by
 refine wpAnyT_first (fun w => C1 w ∧ C3 w) (fun L => L.getD s2 false = false) hi (Region.noSelect_spec hs) hQ hne hne2 (fun _ _ hg h => ⟨h.1,h.2.2 hg⟩) ?_ fuel L a w hL (Region.free_spec hi hf) (by simpa using hr) hy hS h
 intro L j hg hun hj _
 have hjs : j ≠ s2 := by
  rintro rfl
  obtain ⟨_,o,ho,hall⟩ := mem_ready.1 hj
  rw [hos] at ho
  cases ho
  obtain ⟨k,hk,hb⟩ := Array.any_eq_true.1 hw
  simp only [Bool.and_eq_true,beq_iff_eq] at hb
  have k1 := hall _ (Array.getElem_mem hk) hb.1
  rw [hb.2] at k1
  rcases Nat.lt_or_ge i L.size with h' | h'
  ·simp [h'] at hun k1;rw [hun] at k1;cases k1
  ·simp [Array.getElem?_eq_none h'] at k1
 show (L.setIfInBounds j true).getD s2 false = false
 rw [getD_set_ne false hjs];exact hg
theorem wpAnyT_all {rs : List Nat} {fuel : Nat} {L : Array Bool} {a : Act} {w : World} (hr : Region.ready md ops L = rs) (hne : rs ≠ [])
  (h : ∀ i ∈ rs,wpOp P ops Q i (fun a' w' => HeldT st s2 C1 C2 C3 (L.setIfInBounds i true) w' ∧ wpAnyT P md ops Q st s2 C1 C2 C3 fuel (L.setIfInBounds i true) a' w') a w) : wpAnyT P md ops Q st s2 C1 C2 C3 (fuel + 1) L a w :=
 ⟨fun h0 => absurd (hr ▸ h0) hne,hr ▸ h⟩
theorem wpAnyT_done {L : Array Bool} {a : Act} {w : World} (hr : Region.ready md ops L = []) (h : Q .normal a w) : ∀ fuel,wpAnyT P md ops Q st s2 C1 C2 C3 fuel L a w
 | 0 => ⟨hr,h⟩
 | _ + 1 => ⟨fun _ => h,by rw [hr];simp⟩
end
section
variable {P : Program} {ops : Array Oper} {Q : Exit → Act → World → Prop} {md : Region.Mode} {l n : Nat}
def noDefer (ops : Array Oper) : Bool := ops.all fun o => match o.op with | .defer _ => false | _ => true
theorem noDefer_spec (h : noDefer ops = true) {i : Nat} {o : Oper} (ho : ops[i]? = some o) : ∀ c,o.op ≠ .defer c := by
 intro c e
 obtain ⟨hi,rfl⟩ := Array.getElem?_eq_some_iff.1 ho
 have := Array.all_eq_true.1 h i hi
 rw [e] at this
 cases this
theorem opIn_of_op (hd : noDefer ops = true) (hQ : ¬ LetsOut Q) {i : Nat} {K : Act → World → Prop} {a : Act} {w : World} (h : wpOp P ops Q i K a w) : wpOpIn (Fence.wide.inRound l) n P ops Q i K a w := by
 unfold wpOp at h
 unfold wpOpIn
 cases ho : ops[i]? with
 | none => simp only [ho] at h;exact h
 | some o =>
  simp only [ho] at h ⊢
  split
  ·rename_i hw
   simp only [hw,if_true] at h
   have h := h.resolve_right (fun x => hQ x.2)
   refine ⟨fun _ _ => trivial, ?_⟩
   rw [Oper.semAt_eq _ _ _ (noDefer_spec hd ho)]
   unfold Oper.wp at h
   generalize (execOp a.eval o).run P w = r at h
   cases r with
   | ok x w' =>
    cases x <;> simp only [Oper.upon,Oper.uponIn] at h ⊢
    case value => exact h
    case skip => exact h
    case defer => exact h
    case enter f args => exact ⟨fun e => (by cases e),CallsIn.inRound l (callsIn_wide.2 (Calls.mono h fun e w'' he => (by cases e <;> exact he)))⟩
    case row row args => exact ⟨fun e => (by cases e),fun c cs _ => (by obtain ⟨v,w',r,s⟩ := h c cs;exact ⟨v,w',r,stepsIn_wide.2 s⟩)⟩
   | halt x w' =>
    cases x <;> simp only [Oper.upon,Oper.uponIn] at h ⊢
    case panic => exact h
  ·rename_i hw
   simp only [hw] at h
   exact ⟨fun _ _ => trivial,h⟩
theorem anyIn_of_any (hd : noDefer ops = true) (hQ : ¬ LetsOut Q) : ∀ (fuel : Nat) (listed : Array Bool) (a : Act) (w : World),wpAny P md ops Q fuel listed a w → wpAnyIn (Fence.wide.inRound l) n P md ops Q fuel listed a w
 | 0,_,_,_,h => h
 | fuel + 1,_,_,_,h => ⟨h.1,fun i hi => opIn_of_op hd hQ (wpOp_mono (fun a' w' h' => anyIn_of_any hd hQ fuel _ a' w' h') (h.2 i hi))⟩
theorem wpIn_region_TR (st s2 : Nat) (C1 C2 C3 : World → Prop) {id : Nat} {a : Act} {w : World} (hm : P.follows .mixedOrders = true) (hd : noDefer ops = true) (hQ : ¬ LetsOut Q)
  (h : wpAnyT P .any ops Q st s2 C1 C2 C3 ops.size (Array.replicate ops.size false) a w.drew) : (Code.region id ops true).wpIn (Fence.wide.inRound l) n P Q a w :=
 wpIn_region_any hm (anyIn_of_any hd hQ _ _ _ _ (wpAny_of_T _ _ _ _ h))
end
open Go.RowKit Go.Shelf
attribute [local go_sem] Oper.semAt_some
theorem block_lt {w : World} {g : Nat} {o : Obj} (h : w.heap[g]? = some o) : g < w.heap.size := (Array.getElem?_eq_some_iff.1 h).1
def TSt (w : World) (n : Int) (X : ByteArray) (v : Value) (k : Int) (m : Nat) (xs : List Value) (W : World) : Prop :=
 Blk W w.heap.size #[.int .i64 n, .string X] 76 ∧ Blk W (w.heap.size + 1) #[.int .i64 0, .string ⟨#[]⟩] 76 ∧ Blk W (w.heap.size + 1 + 1) #[v] 67 ∧ Blk W (w.heap.size + 1 + 1 + 1) #[.int .i64 k] 3 ∧ W.ownsRow w.heap.size 90 2 v m xs ∧ Below w.heap.size w W
theorem TSt.own {w : World} {n : Int} {X : ByteArray} {v : Value} {k : Int} {m : Nat} {xs : List Value} {W W' : World} {row : Option Nat} (h : TSt w n X v k m xs W) (hg : W.grownBy W' row) (hr : ∀ r,row = some r → w.heap.size ≤ r ∧ ∃ o : Obj,W.heap[r]? = some o ∧ o.isCells = false) : TSt w n X v k m xs W' := by
 obtain ⟨h1,h2,h3,h4,h5,h6⟩ := h
 have hr2 := fun r e => (hr r e).2
 refine ⟨(grownBy_keeps_cells hg hr2 h1 rfl).trans h1,(grownBy_keeps_cells hg hr2 h2 rfl).trans h2,(grownBy_keeps_cells hg hr2 h3 rfl).trans h3,(grownBy_keeps_cells hg hr2 h4 rfl).trans h4,h5.kept hg ?_,h6.grown hg h6.size (fun g e => (hr g e).1)⟩
 rcases h5.2 with ⟨rfl,_⟩ | ⟨g,cap,cur,rfl,_,hgb,_⟩
 ·exact .inl rfl
 ·refine .inr fun e' => ?_
  obtain ⟨o,ho,hc⟩ := hr2 g (by simpa [Value.ownBlock] using e'.symm)
  rw [hgb] at ho;cases ho;cases hc
theorem info90 : (Tryz.prog.info? 90).map (fun i => (i.zero,i.size,i.bytes)) = some (some (.agg #[.int .i64 0, .int .i64 0]),2,16) := by kernel_rfl
theorem TSt.new (w : World) (n k : Int) (X : ByteArray) : TSt w n X (.slice none 0 0) k 0 [] ((((w.alloc (.cells #[.int .i64 n, .string X] 76)).alloc (.cells #[.int .i64 0, .string ⟨#[]⟩] 76)).alloc (.cells #[.slice none 0 0] 67)).alloc (.cells #[.int .i64 k] 3)) := by
 refine ⟨?_, ?_, ?_, ?_,World.ownsRow_nil _ _ _ _,((((Below.refl _ _).alloc (Nat.le_refl _) _).alloc (by simp) _).alloc (by simp <;> omega) _).alloc (by simp <;> omega) _⟩
 ·exact (((Blk.new w _ _).alloc _).alloc _).alloc _
 ·have := ((Blk.new (w.alloc (.cells #[.int .i64 n, .string X] 76)) #[.int .i64 0, .string ⟨#[]⟩] 76).alloc (.cells #[.slice none 0 0] 67)).alloc (.cells #[.int .i64 k] 3)
  rwa [World.size_alloc] at this
 ·have := (Blk.new ((w.alloc (.cells #[.int .i64 n, .string X] 76)).alloc (.cells #[.int .i64 0, .string ⟨#[]⟩] 76)) #[.slice none 0 0] 67).alloc (.cells #[.int .i64 k] 3)
  simpa using this
 ·have := Blk.new (((w.alloc (.cells #[.int .i64 n, .string X] 76)).alloc (.cells #[.int .i64 0, .string ⟨#[]⟩] 76)).alloc (.cells #[.slice none 0 0] 67)) #[.int .i64 k] 3
  simpa using this
theorem round_end {w W W2 w1 : World} {N : Int} {XX : ByteArray} {v v' : Value} {k k' : Int} {n m : Nat} {xs ys : List Value} {X : Nat} {cX : Array Value} {u : Value} {T : Obj} (hs : TSt w N XX v k n xs W2) (hk : KeepCells 76 (w.heap.size + 1 + 1 + 1 + 1) W W2)
  (hx : W2.heap[X]? = some (.cells cX 90)) (hX : w.heap.size + 1 + 1 + 1 < X) (hne : v.ownBlock ≠ some X) (hown1 : w1.ownsRow w.heap.size 90 2 v' m ys) (hgr1 : ((W2.setCell ⟨X,1,none⟩ u).drew.alloc T).grownBy w1 v.ownBlock) :
  KeepsOthers W2 ((w1.setCell ⟨w.heap.size + 1 + 1,0,none⟩ v').setCell ⟨w.heap.size + 1 + 1 + 1,0,none⟩ (.int .i64 k')) ∧
  KeepCells 76 (w.heap.size + 1 + 1 + 1 + 1) W ((w1.setCell ⟨w.heap.size + 1 + 1,0,none⟩ v').setCell ⟨w.heap.size + 1 + 1 + 1,0,none⟩ (.int .i64 k')) ∧
  TSt w N XX v' k' m ys ((w1.setCell ⟨w.heap.size + 1 + 1,0,none⟩ v').setCell ⟨w.heap.size + 1 + 1 + 1,0,none⟩ (.int .i64 k')) := by
 obtain ⟨h1,h2,h3,h4,h5,h6⟩ := hs
 obtain ⟨W3,hW3⟩ : ∃ W3,W2.setCell ⟨X,1,none⟩ u = W3 := ⟨_,rfl⟩
 rw [hW3] at hgr1
 have oth : ∀ j,j ≠ X → W3.heap[j]? = W2.heap[j]? := fun j hj => by rw [← hW3];exact Below.heap_setCell _ _ _ _ hj
 have z3 : W3.heap.size = W2.heap.size := by rw [← hW3];simp
 have o5 : W3.ownsRow w.heap.size 90 2 v n xs := by
  rw [← hW3]
  exact h5.kept (w' := W2.setCell ⟨X,1,none⟩ u) (row := some X) ⟨rfl,rfl,rfl,by simp,fun j _ hj => Below.heap_setCell _ _ _ _ (fun e => hj (by rw [e]))⟩ (.inr hne)
 have row : ∀ g,v.ownBlock = some g → w.heap.size ≤ g ∧ ∃ cs fr,(W3.drew.alloc T).heap[g]? = some (.cells cs 90 fr) := fun g hg => by
  rcases o5.2 with ⟨rfl,_⟩ | ⟨g',cap,cur,rfl,hb,hh,_⟩
  ·simp [Value.ownBlock] at hg
  ·obtain rfl : g' = g := by simpa [Value.ownBlock] using hg
   exact ⟨hb,cur,_,(Below.heap_alloc W3.drew T g' (block_lt hh)).trans hh⟩
 have old : ∀ j,j < W3.heap.size → v.ownBlock ≠ some j → w1.heap[j]? = W3.heap[j]? := fun j hj hne' => (hgr1.block j (by simp;omega) (fun e => hne' e.symm)).trans (Below.heap_alloc _ _ _ hj)
 have nb : ∀ (j : Nat) (cs : Array Value) (t : TypeId),W3.heap[j]? = some (.cells cs t) → t ≠ 90 → v.ownBlock ≠ some j := fun j cs t hj ht e => by
  rcases o5.2 with ⟨rfl,_⟩ | ⟨g',cap,cur,rfl,hb,hh,_⟩
  ·simp [Value.ownBlock] at e
  ·obtain rfl : g' = j := by simpa [Value.ownBlock] using e
   rw [hj] at hh;cases hh;exact ht rfl
 have a1 := (oth _ (by omega)).trans h1
 have a2 := (oth _ (by omega)).trans h2
 have a3 : W3.heap[w.heap.size + 1 + 1]? = _ := (oth _ (by omega)).trans h3
 have a4 : W3.heap[w.heap.size + 1 + 1 + 1]? = _ := (oth _ (by omega)).trans h4
 have b1 := (old _ (block_lt a1) (nb _ _ _ a1 (by decide))).trans a1
 have b2 := (old _ (block_lt a2) (nb _ _ _ a2 (by decide))).trans a2
 have b3 := (old _ (block_lt a3) (nb _ _ _ a3 (by decide))).trans a3
 have b4 := (old _ (block_lt a4) (nb _ _ _ a4 (by decide))).trans a4
 have far : ∀ j,j ≠ w.heap.size + 1 + 1 → j ≠ w.heap.size + 1 + 1 + 1 → ((w1.setCell ⟨w.heap.size + 1 + 1,0,none⟩ v').setCell ⟨w.heap.size + 1 + 1 + 1,0,none⟩ (.int .i64 k')).heap[j]? = w1.heap[j]? := fun j h h' =>
  (Below.heap_setCell _ _ _ _ h').trans (Below.heap_setCell _ _ _ _ h)
 have bw1 : Below w.heap.size w w1 := ((((by rw [← hW3];exact h6.setCell (p := ⟨X,1,none⟩) (by simp;omega) _ : Below w.heap.size w W3).drew).alloc (by simp;have := h6.size;omega) T).grown hgr1 (by simp;have := h6.size;omega) (fun g e => (row g e).1))
 refine ⟨?_, ?_, ?_⟩
 ·refine ((((KeepsOthers.setCell W2 ⟨X,1,none⟩ u).trans ?_).trans (KeepsOthers.of_grownBy hgr1 (fun j o e ho => ?_))).trans (KeepsOthers.setCell _ _ _)).trans (KeepsOthers.setCell _ _ _)
  ·rw [hW3];exact (KeepsOthers.drew W3).trans (KeepsOthers.alloc _ _)
  ·obtain ⟨_,cs,fr,hc⟩ := row j e
   rw [hc] at ho;cases ho;rfl
 ·refine (((((by rw [← hW3];exact hk.setCell (p := ⟨X,1,none⟩) (.inr ⟨_,_,_,hx,by decide⟩) u : KeepCells 76 _ W W3).drew).alloc T).grown hgr1 (fun g e => ?_)).setCell (p := ⟨w.heap.size + 1 + 1,0,none⟩) (.inl (by simp)) _).setCell (p := ⟨w.heap.size + 1 + 1 + 1,0,none⟩) (.inl (by simp)) _
  obtain ⟨_,cs,fr,hc⟩ := row g e
  exact ⟨cs,90,fr,hc,by decide⟩
 ·refine ⟨(far _ (by omega) (by omega)).trans b1,(far _ (by omega) (by omega)).trans b2, ?_, ?_, ?_,(bw1.setCell (p := ⟨_,_,none⟩) (by simp;omega) _).setCell (p := ⟨_,_,none⟩) (by simp;omega) _⟩
  ·refine (Below.heap_setCell _ _ _ _ (by simp)).trans ?_
   exact Boxed.set v' b3
  ·exact Boxed.set (.int .i64 k') (v := .int .i64 k) ((Below.heap_setCell _ _ _ _ (by simp)).trans b4)
  ·have e1 : Boxed w1 (w.heap.size + 1 + 1) 67 v := b3
   have e2 : Boxed w1 (w.heap.size + 1 + 1 + 1) 3 (.int .i64 k) := b4
   have r1 := hown1.kept (grownBy_setCell' w1 (w.heap.size + 1 + 1) v') (.inr (e1.not_row (by decide) hown1).symm)
   exact r1.kept (grownBy_setCell' _ (w.heap.size + 1 + 1 + 1) _) (.inr (Boxed.not_row (t := 3) (u := .int .i64 k) (B := w.heap.size + 1 + 1 + 1) ((Below.heap_setCell _ _ _ _ (by simp)).trans b4) (by decide) r1).symm)
set_option maxRecDepth 100000 in
set_option maxHeartbeats 4000000 in
theorem take_any (T : List Bool) (k most : Nat) (w : World) (hn : T.length ≤ 4096) (hk : k ≤ 2199023255552) (hk0 : 0 < k) (hm : most ≤ 2199023255552) : Calls Tryz.prog 39 #[spv T, .int .i64 k, .int .i64 most] w fun e w' =>
  (∀ l T',takeS T k most = some (l,T') → ∃ A c,e = .returned (.tuple #[.slice A l.length c,spv T', .int .i64 0]) ∧ w'.ownsRow w.heap.size 90 2 (.slice A l.length c) l.length (ecells l)) ∧
  (takeS T k most = none → e = .returned (.tuple #[.slice none 0 0, .agg #[.int .i64 0, .string ⟨#[]⟩], .int .i64 8])) ∧ Below w.heap.size w w' := by
 have HST := Lib.hid (fun w => free_stops T w hn)
 have HRG := Lib.hid (runs_all T)
 have HRL := Lib.hid (runs_length_sum T 0 0)
 have HTC := Lib.hid (take_claims T k)
 have HCL := Lib.hid (fun (l : List (Nat × Nat)) (A : Option Addr) (cap : Nat) (w : World) (hl : Lies w A (ecells l)) hb hll => claim_any T l A cap w hn hl hb hll)
 unfold spv at HST HCL ⊢
 obtain ⟨n,hn2⟩ : ∃ n,T.length = n := ⟨_,rfl⟩
 obtain ⟨X,hX⟩ : ∃ X,mk (packB T) = X := ⟨_,rfl⟩
 obtain ⟨RR,hRR⟩ : ∃ R,runs T 0 0 = R := ⟨_,rfl⟩
 rw [hX,hn2] at HST HCL
 rw [hn2,hX]
 rw [hn2,hRR] at HRG
 rw [hRR] at HST HRL HTC
 rw [hn2] at HRL HTC hn
 have HTS := Lib.hid (show takeS T k most = if 0 < (trimR RR k).2 ∨ most < (trimR RR k).1.length then none else (turnS true T (trimR RR k).1).map fun T' => ((trimR RR k).1,T') by unfold takeS;rw [hRR])
 clear hX hn2 hRR
 obtain ⟨TS,hTS⟩ : ∃ t,takeS T k most = t := ⟨_,rfl⟩
 rw [hTS] at HTS ⊢
 clear hTS
 have k0 : (0 : Int) ≤ (k : Int) := by omega
 have k1 : (0 : Int) < (k : Int) := by omega
 have m0 : (0 : Int) ≤ (most : Int) := by omega
 refine (callsIn_wide (n := 6)).1 ?_
 refine callsIn_of_wp_marks Tryz.func39 rfl trivial ?_ rfl
 simp only [Tryz.ntmps39,List.size_toArray,List.length_cons,List.length_nil,Nat.reduceAdd,Nat.reduceSub,Array.replicate_succ,Array.replicate_zero,List.push_toArray,List.append_toArray,List.nil_append,List.cons_append]
 refine wpIn_wide.2 ?_
 go_wp2
 have hT0 := TSt.new w n k X
 obtain ⟨W0,hW0⟩ : ∃ u,(((w.alloc (.cells #[.int .i64 n, .string X] 76)).alloc (.cells #[.int .i64 0, .string ⟨#[]⟩] 76)).alloc (.cells #[.slice none 0 0] 67)).alloc (.cells #[.int .i64 k] 3) = u := ⟨_,rfl⟩
 rw [hW0] at hT0 ⊢
 obtain ⟨H,hH⟩ : ∃ H,w.heap.size = H := ⟨_,rfl⟩
 have HH := Lib.hid hH
 simp only [hH]
 have hb0 := hT0.2.2.2.2.2
 have hsz0 := hT0.2.2.2.1.lt
 rw [hH] at hb0 hsz0
 clear hW0
 refine (wpIn_wide (n := 6)).1 ?_
 refine wpIn_range_first rfl (by decide) (gf := 77) (first := #[.agg #[.int .i64 n, .string X]]) (lb := #[]) rfl trivial (enters_of Tryz.func77 (by kernel_rfl) rfl) (encs := encX) (HST.out W0)
  KeepCells.trans (fun W l o o' _ h ho _ => KeepCells.putObj W l o o' (KeepCells.refl _ _ _) h ho) (Below.refl _ _) (fun _ => rfl)
  (fun pre W => sumN pre < k ∧ pre <+: RR ∧ ∃ v,TSt w n X v ((k - sumN pre : Nat) : Int) pre.length (ecells pre) W)
  (fun c pre W => c = .exit 0 ∧ ∃ v pre0 x0,pre = pre0 ++ [x0] ∧ sumN pre0 < k ∧ k ≤ sumN pre0 + x0.2 ∧ TSt w n X v 0 pre.length (ecells (pre0 ++ [(x0.1,k - sumN pre0)])) W)
  ?hI ?hIx ⟨by simpa [sumN] using hk0,List.nil_prefix,_,hT0⟩ ?hround ?hdone ?hstop
 case hI =>
  exact fun s W W' row ⟨h1,h2,v,h⟩ hg hr => ⟨h1,h2,v,h.own hg (fun r e => ⟨by have := (hr r e).1;rw [hH];omega,(hr r e).2⟩)⟩
 case hIx =>
  exact fun c s W W' row ⟨h0,v,p0,x0,h1,h2,h3,h⟩ hg hr => ⟨h0,v,p0,x0,h1,h2,h3,h.own hg (fun r e => ⟨by have := (hr r e).1;rw [hH];omega,(hr r e).2⟩)⟩
 case hround =>
  rintro l pre x W ⟨hlt,hpf,v,hs⟩ hR
  have hxin := HRG.out.2 x (hR.subset (by simp))
  obtain ⟨hx1,hx2,_⟩ := hxin
  obtain ⟨L,hL⟩ : ∃ L,k - sumN pre = L := ⟨_,rfl⟩
  rw [hL] at hs
  obtain ⟨m,hmm⟩ : ∃ m,min x.2 L = m := ⟨_,rfl⟩
  have hL0 : 0 < L := by omega
  have hm1 : 1 ≤ m := by omega
  have hmin : min (x.2 : Int) (L : Int) = (m : Int) := by omega
  have hsub : (L : Int) - (m : Int) = ((L - m : Nat) : Int) := by omega
  obtain ⟨a,b⟩ := x
  simp only at hx1 hx2 hmm hmin
  have hpl : pre.length ≤ 5000 := by
   have h1 := hpf.length_le
   have h2 := HRL.out.1
   omega
  have HINF := Lib.hid (And.intro hlt (And.intro hR (And.intro hL (And.intro hmm (And.intro hL0 (And.intro hm1 (And.intro hx1 hx2)))))))
  have L0 : (0 : Int) ≤ (L : Int) := by omega
  have L1 : (L : Int) ≤ 2199023255552 := by omega
  have m0 : (0 : Int) ≤ (m : Int) := by omega
  have mL : (m : Int) ≤ (L : Int) := by omega
  have b0 : (0 : Int) ≤ (b : Int) := by omega
  have b1 : (b : Int) ≤ 4096 := by omega
  have a1 : (a : Int) ≤ 4096 := by omega
  clear hlt hpf hR hL hmm hL0 hm1 hx1 hx2 HST HRL HTC HCL HTS HRG hT0
  gi_wp2
  refine ⟨KeepsOthers.alloc _ _, ?_⟩
  rintro l' o' hl' ⟨o,ho,hc,hw⟩
  have hl2 : w.heap.size ≤ l' := by
   rw [hH]
   omega
  have hx : ((W.alloc (.cells #[.int .i64 a, .int .i64 b] 90)).putObj l' o').heap[W.heap.size]? = some (.cells #[.int .i64 a, .int .i64 b] 90) := by
   have hne : l' ≠ W.heap.size := by rintro rfl;rw [heap_alloc_new] at ho;cases ho;cases hc
   exact (World.putObj_heap_other (by omega)).trans (heap_alloc_new _ _)
  have hs2 := (hs.own (World.grownBy_alloc W (.cells #[.int .i64 a, .int .i64 b] 90) none) (fun r e => by cases e)).own (grownBy_putObj' _ l' o') (fun r e => by cases e;exact ⟨hl2,o,ho,hc⟩)
  have hk2 : KeepCells 76 (H + 1 + 1 + 1 + 1) W ((W.alloc (.cells #[.int .i64 a, .int .i64 b] 90)).putObj l' o') := KeepCells.putObj _ _ _ _ ((KeepCells.refl _ _ _).alloc _) ho hc
  have hXl : w.heap.size + 1 + 1 + 1 < W.heap.size := hs.2.2.2.1.lt
  have hne2 : v.ownBlock ≠ some W.heap.size := fun e => by
   obtain ⟨c,fz,h⟩ := row_kind hs.2.2.2.2.1 _ e
   have := (Array.getElem?_eq_some_iff.1 h).1
   omega
  obtain ⟨W2,hW2⟩ : ∃ W2,(W.alloc (.cells #[.int .i64 a, .int .i64 b] 90)).putObj l' o' = W2 := ⟨_,rfl⟩
  obtain ⟨Y,hY⟩ : ∃ Y,W.heap.size = Y := ⟨_,rfl⟩
  rw [hW2] at hx hs2 hk2 ⊢
  rw [hY] at hx hXl hne2
  simp only [hY]
  have HS2 := Lib.hid hs2
  have HK2 := Lib.hid hk2
  have HX := Lib.hid hx
  have HNE := Lib.hid hne2
  obtain ⟨A,cp,rfl⟩ := row_form hs2.2.2.2.2.1
  have HSO := Lib.hid hs
  rw [hH] at hXl
  have c0 := Blk.cell (show Blk W2 Y _ _ from hx) 0
  have c1 := Blk.cell (show Blk W2 Y _ _ from hx) 1
  have f1 := Blk.frozen (show Blk W2 Y _ _ from hx) 1
  have d3 := hs2.2.2.1.cell 0
  have e3 := hs2.2.2.1.frozen 0
  have d4 := hs2.2.2.2.1.cell 0
  have e4 := hs2.2.2.2.1.frozen 0
  have z3 := hs2.2.2.1.lt
  have z4 := hs2.2.2.2.1.lt
  have zy := Blk.lt (show Blk W2 Y _ _ from hx)
  rw [hH] at d3 e3 d4 e4 z3 z4
  simp at c0 c1 d3 d4
  clear hs hs2 hk2 hx hne2 ho hc hw hl' hW2 hl2
  have mixed := mixedT
  gi_wp2_with fail
  have hY0 : (W2.setCell ⟨Y,1,none⟩ (.int .i64 (m : Int))).drew.cell? ⟨Y,0,none⟩ = some (.int .i64 (a : Int)) := by
   have := Blk.cell (Blk.set (show Blk W2 Y _ _ from HX.out) 1 (.int .i64 (m : Int))) 0
   simpa using this
  have hY1 : (W2.setCell ⟨Y,1,none⟩ (.int .i64 (m : Int))).drew.cell? ⟨Y,1,none⟩ = some (.int .i64 (m : Int)) := by
   have := Blk.cell (Blk.set (show Blk W2 Y _ _ from HX.out) 1 (.int .i64 (m : Int))) 1
   simpa using this
  have hfar : ∀ (j i : Nat),j ≠ Y → (W2.setCell ⟨Y,1,none⟩ (.int .i64 (m : Int))).drew.cell? ⟨j,i,none⟩ = W2.cell? ⟨j,i,none⟩ := fun j i hj => World.cell?_of_block (Below.heap_setCell _ _ _ _ hj)
  have hH3 := (hfar (H + 1 + 1) 0 (by omega)).trans d3
  have hH4 := (hfar (H + 1 + 1 + 1) 0 (by omega)).trans d4
  have hown : (W2.setCell ⟨Y,1,none⟩ (.int .i64 (m : Int))).drew.ownsRow w.heap.size 90 2 (.slice A pre.length cp) pre.length (ecells pre) :=
   HS2.out.2.2.2.2.1.kept (w' := (W2.setCell ⟨Y,1,none⟩ (.int .i64 (m : Int))).drew) (row := some Y) ⟨rfl,rfl,rfl,by simp,fun j _ hj => Below.heap_setCell _ _ _ _ (fun e => hj (by rw [e]))⟩ (.inr HNE.out)
  have hsz5 : w.heap.size ≤ (W2.setCell ⟨Y,1,none⟩ (.int .i64 (m : Int))).drew.heap.size := by rw [hH];simp;omega
  have hlY : Y < (W2.setCell ⟨Y,1,none⟩ (.int .i64 (m : Int))).drew.heap.size := by simpa using zy
  have hl3 : H + 1 + 1 < (W2.setCell ⟨Y,1,none⟩ (.int .i64 (m : Int))).drew.heap.size := by simpa using z3
  have hl4 : H + 1 + 1 + 1 < (W2.setCell ⟨Y,1,none⟩ (.int .i64 (m : Int))).drew.heap.size := by simpa using z4
  have hfr3 : (W2.setCell ⟨Y,1,none⟩ (.int .i64 (m : Int))).drew.heap[H + 1 + 1]? = some (.cells #[.slice A pre.length cp] 67 (0,0)) := (Below.heap_setCell _ _ _ _ (by simp;omega)).trans (by have := HS2.out.2.2.1;rw [hH] at this;exact this)
  have hfr4 : (W2.setCell ⟨Y,1,none⟩ (.int .i64 (m : Int))).drew.heap[H + 1 + 1 + 1]? = some (.cells #[.int .i64 (L : Int)] 3 (0,0)) := (Below.heap_setCell _ _ _ _ (by simp;omega)).trans (by have := HS2.out.2.2.2.1;rw [hH] at this;exact this)
  have hfrY := Blk.set (show Blk W2 Y _ _ from HX.out) 1 (.int .i64 (m : Int))
  have hfrY : Blk (W2.setCell ⟨Y,1,none⟩ (.int .i64 (m : Int))).drew Y #[.int .i64 a, .int .i64 m] 90 := by simp at hfrY;exact hfrY
  obtain ⟨d,hd⟩ : ∃ d,L - m = d := ⟨_,rfl⟩
  have HDD := Lib.hid hd
  have wd : IntKind.i64.wrap (d : Int) = (d : Int) := by rw [Go.IntWalk.i64_left,Go.IntWalk.wrap64_in _ (by omega)]
  rw [hd] at hsub
  clear hd
  refine wpIn_region_TR 8 9 (fun w' => w'.cell? ⟨Y,0,none⟩ = some (.int .i64 (a : Int)) ∧ w'.cell? ⟨Y,1,none⟩ = some (.int .i64 (m : Int))) (fun w' => w'.cell? ⟨H + 1 + 1,0,none⟩ = some (.slice A pre.length cp)) (fun w' => w'.cell? ⟨H + 1 + 1 + 1,0,none⟩ = some (.int .i64 (L : Int))) mixed (by kernel_rfl) (fun ⟨_,_,h⟩ => h) ?_
  change wpAnyT _ _ _ _ _ _ _ _ _ _ _ _ (W2.setCell ⟨Y,1,none⟩ (.int .i64 (m : Int))).drew
  obtain ⟨W5,hW5⟩ : ∃ u,(W2.setCell ⟨Y,1,none⟩ (.int .i64 (m : Int))).drew = u := ⟨_,rfl⟩
  have HW5 := Lib.hid hW5
  rw [hW5] at hY0 hY1 hH3 hH4 hown hsz5 hlY hl3 hl4 hfr3 hfr4 hfrY ⊢
  clear hfar hW5 c0 c1 f1 d3 e3 d4 e4 z3 z4 zy
  have HE0 : ∀ L' : Array Bool,HeldT 8 9 (fun w' => w'.cell? ⟨Y,0,none⟩ = some (.int .i64 (a : Int)) ∧ w'.cell? ⟨Y,1,none⟩ = some (.int .i64 (m : Int))) (fun w' => w'.cell? ⟨H + 1 + 1,0,none⟩ = some (.slice A pre.length cp)) (fun w' => w'.cell? ⟨H + 1 + 1 + 1,0,none⟩ = some (.int .i64 (L : Int))) L' W5 := fun L' => ⟨⟨hY0,hY1⟩,fun _ => hH3,fun _ => hH4⟩
  refine wpAnyT_take2 (i := 0) (v := .slice A pre.length cp) rfl (by decide) (by decide) rfl (by kernel_rfl) (by kernel_rfl) (by kernel_rfl) (by kernel_rfl) (by kernel_rfl) (fun c a w h => h) (.inl ⟨(by kernel_rfl),fun w' hS => ?_⟩) (HE0 _) ?_
  ·have hS0 := hS.2;go_simp
  try go_simp
  refine wpAnyT_take (i := 1) (v := .agg #[.int .i64 a, .int .i64 m]) rfl (by decide) (by decide) (by kernel_rfl) (by kernel_rfl) (by kernel_rfl) (fun c a w h => h) (.inl ⟨(by kernel_rfl),fun w' hS => ?_⟩) (HE0 _) ?_
  ·have hS0 := hS.1;have hS1 := hS.2;go_simp
  try go_simp
  refine wpAnyT_take (i := 5) (v := .pointer (some ⟨Y,1,none⟩)) rfl (by decide) (by decide) (by kernel_rfl) (by kernel_rfl) (by kernel_rfl) (fun c a w h => h) (.inl ⟨(by kernel_rfl),fun w' hS => ?_⟩) (HE0 _) ?_
  ·clear hS;go_simp
  try go_simp
  refine wpAnyT_take (i := 6) (v := .int .i64 m) rfl (by decide) (by decide) (by kernel_rfl) (by kernel_rfl) (by kernel_rfl) (fun c a w h => h) (.inl ⟨(by kernel_rfl),fun w' hS => ?_⟩) (HE0 _) ?_
  ·have hS0 := hS.1;have hS1 := hS.2;go_simp
  try go_simp
  refine wpAnyT_take3 (i := 4) (v := .int .i64 L) rfl (by decide) (by decide) rfl (by kernel_rfl) (by kernel_rfl) (by kernel_rfl) (by kernel_rfl) (by kernel_rfl) (fun c a w h => h) (.inl ⟨(by kernel_rfl),fun w' hS => ?_⟩) (HE0 _) ?_
  ·have hS0 := hS.2;go_simp
  try go_simp
  refine wpAnyT_take (i := 7) (v := .int .i64 (d : Int)) rfl (by decide) (by decide) (by kernel_rfl) (by kernel_rfl) (by kernel_rfl) (fun c a w h => h) (.inl ⟨(by kernel_rfl),fun w' hS => ?_⟩) (HE0 _) ?_
  ·clear hS;go_simp
  try go_simp
  refine wpAnyT_all (rs := [2]) (by kernel_rfl) (by simp) ?_
  intro ix hix
  simp only [List.mem_cons,List.not_mem_nil,or_false] at hix
  subst hix
  unfold wpOp
  go_simp
  have hN := World.news_of_block (cs := #[.int .i64 a, .int .i64 m]) (heap_alloc_new W5 (.cells #[.int .i64 a, .int .i64 m] 90))
  have hown2 := World.ownsRow.alloc hown (.cells #[.int .i64 a, .int .i64 m] 90)
  have hB3 : Blk (W5.alloc (.cells #[.int .i64 a, .int .i64 m] 90)) (H + 1 + 1) #[.slice A pre.length cp] 67 := Blk.alloc hfr3 _
  have hB4 : Blk (W5.alloc (.cells #[.int .i64 a, .int .i64 m] 90)) (H + 1 + 1 + 1) #[.int .i64 L] 3 := Blk.alloc hfr4 _
  have hBY := Blk.alloc hfrY (.cells #[.int .i64 a, .int .i64 m] 90)
  have hsz6 : w.heap.size ≤ (W5.alloc (.cells #[.int .i64 a, .int .i64 m] 90)).heap.size := by simp;omega
  obtain ⟨Z,hZ⟩ : ∃ Z,W5.heap.size = Z := ⟨_,rfl⟩
  obtain ⟨W6,hW6⟩ : ∃ u,W5.alloc (.cells #[.int .i64 a, .int .i64 m] 90) = u := ⟨_,rfl⟩
  have HW6 := Lib.hid hW6
  rw [hZ] at hN
  rw [hW6] at hN hown2 hB3 hB4 hBY hsz6
  try rw [hZ]
  rw [hW6]
  clear hW6
  have x3 := hB3.cell 0
  have x4 := hB4.cell 0
  have y0 := hBY.cell 0
  have y1 := hBY.cell 1
  simp at x3 x4 y0 y1
  have HE1 : ∀ L' : Array Bool,HeldT 8 9 (fun w' => w'.cell? ⟨Y,0,none⟩ = some (.int .i64 (a : Int)) ∧ w'.cell? ⟨Y,1,none⟩ = some (.int .i64 (m : Int))) (fun w' => w'.cell? ⟨H + 1 + 1,0,none⟩ = some (.slice A pre.length cp)) (fun w' => w'.cell? ⟨H + 1 + 1 + 1,0,none⟩ = some (.int .i64 (L : Int))) L' W6 := fun L' => ⟨⟨y0,y1⟩,fun _ => x3,fun _ => x4⟩
  first | refine .inl ⟨HE1 _, ?_⟩ | refine ⟨HE1 _, ?_⟩
  refine wpAnyT_all (rs := [3]) (by kernel_rfl) (by simp) ?_
  intro ix hix
  simp only [List.mem_cons,List.not_mem_nil,or_false] at hix
  subst hix
  obtain ⟨i90,hi0,hi1,hi2,hi3⟩ := info_parts info90
  refine wpOp_of rfl rfl (wp_append_lies (P := Tryz.prog) W6 (.tmp 32) (.tmp 34) 67 rfl w.heap.size 90 i90 _ 2 16 Tryz.underlying67 hi0 hi1 hi2 hi3 (by rfl) (by decide) (.slice A pre.length cp) pre.length (ecells pre) (by rfl) hown2 ⟨Z,0,none⟩ 1 1 [.int .i64 a, .int .i64 m] (by rfl) (by rfl) hN (by simp [Value.oneCell']) (by omega) (by unfold maxLen;omega) (by omega) hsz6 W6.heap.size rfl ?_)
  intro g3 c3 W7 hown3 hg3 hat3 _
  have hne3 := own_ne_blk hown2 hB3 (by decide)
  have hne4 := own_ne_blk hown2 hB4 (by decide)
  have hneY : (Value.slice A pre.length cp).ownBlock ≠ some Y := HNE.out
  have hB3' := hB3.grown hg3 hne3
  have hB4' := hB4.grown hg3 hne4
  have hBY' := hBY.grown hg3 hneY
  have x3' := hB3'.cell 0
  have x4' := hB4'.cell 0
  have y0' := hBY'.cell 0
  have y1' := hBY'.cell 1
  have f3 := hB3'.frozen 0
  have f4 := hB4'.frozen 0
  simp at x3' x4' y0' y1'

  have HE2 : ∀ L' : Array Bool,HeldT 8 9 (fun w' => w'.cell? ⟨Y,0,none⟩ = some (.int .i64 (a : Int)) ∧ w'.cell? ⟨Y,1,none⟩ = some (.int .i64 (m : Int))) (fun w' => w'.cell? ⟨H + 1 + 1,0,none⟩ = some (.slice A pre.length cp)) (fun w' => w'.cell? ⟨H + 1 + 1 + 1,0,none⟩ = some (.int .i64 (L : Int))) L' W7 := fun L' => ⟨⟨y0',y1'⟩,fun _ => x3',fun _ => x4'⟩
  refine ⟨HE2 _, ?_⟩
  try go_simp
  refine wpAnyT_all (rs := [8]) (by kernel_rfl) (by simp) ?_
  intro ix hix
  simp only [List.mem_cons,List.not_mem_nil,or_false] at hix
  subst hix
  unfold wpOp
  go_simp
  have hs8 : ∀ (j i : Nat),j ≠ H + 1 + 1 → (W7.setCell ⟨H + 1 + 1,0,none⟩ (.slice (some ⟨g3,0,none⟩) (pre.length + 1) c3)).cell? ⟨j,i,none⟩ = W7.cell? ⟨j,i,none⟩ := fun j i hj => World.cell?_of_block (Below.heap_setCell _ _ _ _ hj)
  have y0'' := (hs8 Y 0 (by omega)).trans y0'
  have y1'' := (hs8 Y 1 (by omega)).trans y1'
  have x4'' := (hs8 (H + 1 + 1 + 1) 0 (by omega)).trans x4'
  have f4' : (W7.setCell ⟨H + 1 + 1,0,none⟩ (.slice (some ⟨g3,0,none⟩) (pre.length + 1) c3)).frozen? ⟨H + 1 + 1 + 1,0,none⟩ = false := Blk.frozen (show Blk (W7.setCell ⟨H + 1 + 1,0,none⟩ (.slice (some ⟨g3,0,none⟩) (pre.length + 1) c3)) (H + 1 + 1 + 1) _ _ from (Below.heap_setCell _ _ _ _ (by simp)).trans hB4') 0
  have HE3 : ∀ L' : Array Bool,L'.getD 8 false = true → HeldT 8 9 (fun w' => w'.cell? ⟨Y,0,none⟩ = some (.int .i64 (a : Int)) ∧ w'.cell? ⟨Y,1,none⟩ = some (.int .i64 (m : Int))) (fun w' => w'.cell? ⟨H + 1 + 1,0,none⟩ = some (.slice A pre.length cp)) (fun w' => w'.cell? ⟨H + 1 + 1 + 1,0,none⟩ = some (.int .i64 (L : Int))) L' (W7.setCell ⟨H + 1 + 1,0,none⟩ (.slice (some ⟨g3,0,none⟩) (pre.length + 1) c3)) := fun L' h8 => ⟨⟨y0'',y1''⟩,(fun e => by rw [h8] at e;cases e),fun _ => x4''⟩
  first | refine .inl ⟨HE3 _ (by kernel_rfl), ?_⟩ | refine ⟨HE3 _ (by kernel_rfl), ?_⟩
  refine wpAnyT_all (rs := [9]) (by kernel_rfl) (by simp) ?_
  intro ix hix
  simp only [List.mem_cons,List.not_mem_nil,or_false] at hix
  subst hix
  unfold wpOp
  go_simp
  have y0x : ((W7.setCell ⟨H + 1 + 1,0,none⟩ (.slice (some ⟨g3,0,none⟩) (pre.length + 1) c3)).setCell ⟨H + 1 + 1 + 1,0,none⟩ (.int .i64 (d : Int))).cell? ⟨Y,0,none⟩ = some (.int .i64 (a : Int)) := (World.cell?_of_block (Below.heap_setCell _ _ _ _ (by simp only;omega))).trans y0''
  have y1x : ((W7.setCell ⟨H + 1 + 1,0,none⟩ (.slice (some ⟨g3,0,none⟩) (pre.length + 1) c3)).setCell ⟨H + 1 + 1 + 1,0,none⟩ (.int .i64 (d : Int))).cell? ⟨Y,1,none⟩ = some (.int .i64 (m : Int)) := (World.cell?_of_block (Below.heap_setCell _ _ _ _ (by simp only;omega))).trans y1''

  have HE4 : ∀ L' : Array Bool,L'.getD 8 false = true → L'.getD 9 false = true → HeldT 8 9 (fun w' => w'.cell? ⟨Y,0,none⟩ = some (.int .i64 (a : Int)) ∧ w'.cell? ⟨Y,1,none⟩ = some (.int .i64 (m : Int))) (fun w' => w'.cell? ⟨H + 1 + 1,0,none⟩ = some (.slice A pre.length cp)) (fun w' => w'.cell? ⟨H + 1 + 1 + 1,0,none⟩ = some (.int .i64 (L : Int))) L' ((W7.setCell ⟨H + 1 + 1,0,none⟩ (.slice (some ⟨g3,0,none⟩) (pre.length + 1) c3)).setCell ⟨H + 1 + 1 + 1,0,none⟩ (.int .i64 (d : Int))) := fun L' h8 h9 => ⟨⟨y0x,y1x⟩,(fun e => by rw [h8] at e;cases e),(fun e => by rw [h9] at e;cases e)⟩
  first | refine .inl ⟨HE4 _ (by kernel_rfl) (by kernel_rfl), ?_⟩ | refine ⟨HE4 _ (by kernel_rfl) (by kernel_rfl), ?_⟩
  refine wpAnyT_done (by kernel_rfl) ?_ _
  have hfin := round_end (w := w) (W := W) (W2 := W2) (w1 := W7) (N := n) (XX := X) (v := .slice A pre.length cp) (v' := .slice (some ⟨g3,0,none⟩) (pre.length + 1) c3) (k := L) (k' := d) (X := Y) (u := .int .i64 (m : Int)) (T := .cells #[.int .i64 a, .int .i64 m] 90) HS2.out (by rw [hH];exact HK2.out) HX.out (by rw [hH];exact hXl) HNE.out hown3 (by rw [HW5.out,HW6.out];exact hg3)
  rw [hH] at hfin
  have HFIN := Lib.hid hfin
  have q4 := hfin.2.2.2.2.2.1.cell 0
  have q5 := hfin.2.2.2.2.2.1.lt
  rw [hH] at q4 q5
  simp only [List.getElem?_toArray,List.getElem?_cons_zero] at q4

  have hec : ecells pre ++ [.int .i64 (a : Int), .int .i64 (m : Int)] = ecells (pre ++ [(a,m)]) := by simp [ecells]
  rw [hec] at HFIN
  obtain ⟨W9,hW9⟩ : ∃ u,(W7.setCell ⟨H + 1 + 1,0,none⟩ (.slice (some ⟨g3,0,none⟩) (pre.length + 1) c3)).setCell ⟨H + 1 + 1 + 1,0,none⟩ (.int .i64 (d : Int)) = u := ⟨_,rfl⟩
  rw [hW9] at HFIN q4 q5 ⊢
  have HKC := Lib.hid (show KeepCells 76 W0.heap.size W W9 from ⟨HFIN.out.2.1.1,fun j cs fr hj ho => HFIN.out.2.1.2 j cs fr (by omega) ho⟩)
  clear hW9 hec hfin HE0 HE1 HE2 HE3 HE4 y0x y1x f4' x4'' y1'' y0'' hs8 x3' x4' y0' y1' f3 f4 hB3' hB4' hBY' hne3 hne4 hneY hat3 hg3 hown3 x3 x4 y0 y1 hsz6 hBY hB4 hB3 hown2 hN wd hfrY hfr4 hfr3 hl4 hl3 hlY hsz5 hown hH4 hH3 hY1 hY0 hi0 hi1 hi2 hi3 hZ
  by_cases hd0 : d = 0
  ·subst hd0
   have HQ := Lib.hid (show ∃ v pre0 x0,pre ++ [(a,b)] = pre0 ++ [x0] ∧ sumN pre0 < k ∧ k ≤ sumN pre0 + x0.2 ∧ TSt w n X v 0 (pre ++ [(a,b)]).length (ecells (pre0 ++ [(x0.1,k - sumN pre0)])) W9 by
    obtain ⟨j1,j2,j3,j4,j5,j6,j7,j8⟩ := HINF.out
    have jd := HDD.out
    refine ⟨.slice (some ⟨g3,0,none⟩) (pre.length + 1) c3,pre,(a,b),rfl,j1,by show k ≤ sumN pre + b;omega, ?_⟩
    have := HFIN.out.2.2
    rw [show m = k - sumN pre by omega] at this
    rw [List.length_append]
    exact this)
   have HKO := Lib.hid HFIN.out.1
   clear HFIN HKC
   gi_wp2
   obtain ⟨v1,p0,x0,i1,i2,i3,i4⟩ := HQ.out
   exact ⟨HKO.out,rfl,v1,p0,x0.1,x0.2,i1,i2,i3,i4⟩
  ·have hd1 : ((d : Int) == 0) = false := beq_eq_false_iff_ne.2 (by omega)
   have hd2 : ¬ ((d : Int) = 0) := by omega
   have HQ := Lib.hid (show sumN (pre ++ [(a,b)]) < k ∧ pre ++ [(a,b)] <+: RR ∧ ∃ v,TSt w n X v ((k - sumN (pre ++ [(a,b)]) : Nat) : Int) (pre ++ [(a,b)]).length (ecells (pre ++ [(a,b)])) W9 by
    obtain ⟨j1,j2,j3,j4,j5,j6,j7,j8⟩ := HINF.out
    have jd := HDD.out
    rw [sumN_snoc]
    refine ⟨by show sumN pre + b < k;omega,j2, .slice (some ⟨g3,0,none⟩) (pre.length + 1) c3, ?_⟩
    have := HFIN.out.2.2
    rw [show m = b by omega,show d = k - (sumN pre + b) by omega] at this
    simp only
    rw [List.length_append]
    exact this)
   have HKO := Lib.hid HFIN.out.1
   clear HFIN
   gi_wp2
   exact ⟨HKO.out,HKC.out,HQ.out⟩
 case hdone =>
  rintro D xs W hD rfl ⟨hlt,hpf,v,hs⟩ hK
  obtain ⟨A,cp,rfl⟩ := row_form hs.2.2.2.2.1
  obtain ⟨L,hL⟩ : ∃ L,k - sumN xs = L := ⟨_,rfl⟩
  rw [hL] at hs
  have L0 : (0 : Int) < (L : Int) := by omega
  have HNONE := Lib.hid (show TS = none by rw [HTS.out,trimR_all _ _ hlt];simp only;rw [if_pos (.inl (by omega))])
  have HS := Lib.hid hs
  have d4 := hs.2.2.2.1.cell 0
  have d1 := hs.2.1.cell 0
  have d2 := hs.2.1.cell 1
  have e1 := hs.2.1.frozen 0
  have e2 := hs.2.1.frozen 1
  have z1 := hs.2.1.lt
  have z4 := hs.2.2.2.1.lt
  have HK := Lib.hid hK
  rw [hH] at d4 d1 d2 e1 e2 z1 z4
  simp at d4 d1 d2
  clear hs hK HST HRL HTC HCL HTS HRG hT0 hlt hpf
  go_wp2
  have hset : ∀ j,j ≠ H + 1 → ((W.setCell ⟨H + 1,0,none⟩ (.int .i64 0)).setCell ⟨H + 1,1,none⟩ (.string ⟨#[]⟩)).heap[j]? = W.heap[j]? := fun j hj => (Below.heap_setCell _ _ _ _ (by simpa using hj)).trans (Below.heap_setCell _ _ _ _ (by simpa using hj))
  have hK1 := (hset D (by omega)).trans HK.out
  refine ⟨by simp, .inl ⟨_,_,rfl,run_takeDeferred hK1, ?_⟩⟩
  have hR1 := ((by have := HS.out.2.1;rw [hH] at this;exact this : Blk W (H + 1) _ 76).set 0 (.int .i64 0)).set 1 (.string ⟨#[]⟩)
  have hR2 : Blk (((W.setCell ⟨H + 1,0,none⟩ (.int .i64 0)).setCell ⟨H + 1,1,none⟩ (.string ⟨#[]⟩)).putObj D (.deferred none)) (H + 1) _ 76 := (World.putObj_heap_other (by omega)).trans hR1
  have q0 := hR2.cell 0
  have q1 := hR2.cell 1
  simp at q0 q1
  refine ⟨.tuple #[.slice none 0 0, .agg #[.int .i64 0, .string ⟨#[]⟩], .int .i64 8], ?_,fun l T' h => (by rw [HNONE.out] at h;cases h),fun _ => rfl, ?_⟩
  ·simp [results,Tryz.f39,go_sem,q0,q1]
  ·have hb := HS.out.2.2.2.2.2
   have hb2 := below_set (below_set hb (H + 1) 0 (.int .i64 0) (by omega)) (H + 1) 1 (.string ⟨#[]⟩) (by omega)
   exact hb2.grown (grownBy_putObj' _ _ _) hb2.size (fun g e => by cases e;omega)
 case hstop =>
  rintro D c pre W hD hpre ⟨rfl,v,p0,x0,rfl,hlt,hle,hs⟩ hK
  obtain ⟨A,cp,rfl⟩ := row_form hs.2.2.2.2.1
  obtain ⟨rest,hrest⟩ := hpre
  have htr : trimR RR k = (p0 ++ [(x0.1,k - sumN p0)],0) := by
   rw [← hrest,List.append_assoc]
   exact trimR_stop p0 rest x0 k hlt hle
  obtain ⟨T',hT1,hT2,_⟩ := HTC.out
  have hts := HTS.out
  rw [htr] at hT1 hts
  simp only at hT1 hts
  have hlen : (p0 ++ [x0]).length = (p0 ++ [(x0.1,k - sumN p0)]).length := by simp
  have hll : (p0 ++ [(x0.1,k - sumN p0)]).length ≤ 5000 := by
   have h1 := congrArg List.length hrest
   have h2 := HRL.out.1
   rw [List.length_append] at h1
   omega
  have hbb : ∀ x ∈ p0 ++ [(x0.1,k - sumN p0)],x.1 ≤ 2199023255552 ∧ x.2 ≤ 2199023255552 := fun x hx => by
   rcases List.mem_append.1 hx with hx | hx
   ·have := HRG.out.2 x (by rw [← hrest];simp [hx])
    omega
   ·simp only [List.mem_singleton] at hx
    have := HRG.out.2 x0 (by rw [← hrest];simp)
    subst hx
    exact ⟨by show x0.1 ≤ _;omega,by show k - sumN p0 ≤ _;omega⟩
  rw [hlen] at hs
  obtain ⟨l,hl⟩ : ∃ l,p0 ++ [(x0.1,k - sumN p0)] = l := ⟨_,rfl⟩
  rw [hl] at hs
  rw [hl] at hT1 hts hll hbb
  rw [hT1,Option.map_some] at hts
  have HCK := Lib.hid (fun (W : World) (hW : Lies W A (ecells l)) => HCL.out l A cp W hW hbb (by omega))
  rw [hT1] at HCK
  rw [show turnV (some T') = .tuple #[spv T', .int .i64 0] from rfl] at HCK
  unfold spv at HCK
  rw [hT2] at HCK
  obtain ⟨X2,hX2⟩ : ∃ X2,mk (packB T') = X2 := ⟨_,rfl⟩
  obtain ⟨q,hq⟩ : ∃ q,l.length = q := ⟨_,rfl⟩
  have HX2 := Lib.hid hX2
  have HQ := Lib.hid hq
  have HT2 := Lib.hid hT2
  have HTSL := Lib.hid hts
  rw [hX2,hq] at HCK
  rw [hq] at hs hll hts
  have HS := Lib.hid hs
  have d3 := hs.2.2.1.cell 0
  have d4 := hs.2.2.2.1.cell 0
  have d1 := hs.2.1.cell 0
  have d2 := hs.2.1.cell 1
  have e1 := hs.2.1.frozen 0
  have e2 := hs.2.1.frozen 1
  have z1 := hs.2.1.lt
  have z3 := hs.2.2.1.lt
  have z4 := hs.2.2.2.1.lt
  have s0 := hs.1.cell 0
  have s1 := hs.1.cell 1
  have HK := Lib.hid hK
  have hKl := (Array.getElem?_eq_some_iff.1 hK).1
  rw [hH] at d3 d4 d1 d2 e1 e2 z1 z3 z4 s0 s1
  simp at d3 d4 d1 d2 s0 s1
  clear hs hK HST HRL HTC HCL HTS HRG hT0 hlt hle hrest htr hT1 hT2 hlen hl hbb hX2 hq
  refine wpIn_wide.2 ?_
  by_cases hmq : most < q
  ·have hm1 : (most : Int) < (q : Int) := by omega
   have HNONE := Lib.hid (show TS = none by rw [hts,if_pos (.inr hmq)])
   clear hts HCK
   go_wp2
   have hset : ∀ j,j ≠ H + 1 → ((W.setCell ⟨H + 1,0,none⟩ (.int .i64 0)).setCell ⟨H + 1,1,none⟩ (.string ⟨#[]⟩)).heap[j]? = W.heap[j]? := fun j hj => (Below.heap_setCell _ _ _ _ (by simpa using hj)).trans (Below.heap_setCell _ _ _ _ (by simpa using hj))
   have hK1 := (hset D (by omega)).trans HK.out
   refine ⟨by simp, .inl ⟨_,_,rfl,run_takeDeferred hK1, ?_⟩⟩
   have hR1 := ((by have := HS.out.2.1;rw [hH] at this;exact this : Blk W (H + 1) _ 76).set 0 (.int .i64 0)).set 1 (.string ⟨#[]⟩)
   have hR2 : Blk (((W.setCell ⟨H + 1,0,none⟩ (.int .i64 0)).setCell ⟨H + 1,1,none⟩ (.string ⟨#[]⟩)).putObj D (.deferred none)) (H + 1) _ 76 := (World.putObj_heap_other (by omega)).trans hR1
   have q0 := hR2.cell 0
   have q1 := hR2.cell 1
   simp at q0 q1
   refine ⟨.tuple #[.slice none 0 0, .agg #[.int .i64 0, .string ⟨#[]⟩], .int .i64 8], ?_,fun l T' h => (by rw [HNONE.out] at h;cases h),fun _ => rfl, ?_⟩
   ·simp [results,Tryz.f39,go_sem,q0,q1]
   ·have hb := HS.out.2.2.2.2.2
    have hb2 := below_set (below_set hb (H + 1) 0 (.int .i64 0) (by omega)) (H + 1) 1 (.string ⟨#[]⟩) (by omega)
    exact hb2.grown (grownBy_putObj' _ _ _) hb2.size (fun g e => by cases e;omega)
  ·have hm1 : ¬ ((most : Int) < (q : Int)) := by omega
   have HSOME := Lib.hid (show TS = some (l,T') by rw [hts,if_neg (by omega)])
   clear hts
   have HLI := Lib.hid (Lies.of_row HS.out.2.2.2.2.1)
   go_upto_region 14 with (go_at_call 78;refine (HCK.out _ HLI.out).mono ?_;rintro e w2 ⟨rfl,hb2⟩;have HB2 := Lib.hid hb2;have hw2 := hb2.size;clear hb2)
   have hb2 := HB2.out
   have d3 := (hb2.cell (p := ⟨H + 1 + 1,0,none⟩) z3).trans d3
   have d1 := (hb2.cell (p := ⟨H + 1,0,none⟩) z1).trans d1
   have d2 := (hb2.cell (p := ⟨H + 1,1,none⟩) z1).trans d2
   have hRB := ((by have := HS.out.2.1;rw [hH] at this;exact this : Blk W (H + 1) _ 76)).below hb2
   have e1 := hRB.frozen 0
   have e2 := hRB.frozen 1
   have HRB := Lib.hid hRB
   clear hRB hb2
   have z1' : H + 1 < w2.heap.size := by omega
   have z3' : H + 1 + 1 < w2.heap.size := by omega
   go_region
   all_goals go_wp2
   have hset : ∀ j,j ≠ H + 1 → j < w2.heap.size → (((w2.setCell ⟨H + 1,0,none⟩ (.int .i64 n)).setCell ⟨H + 1,1,none⟩ (.string X2)).alloc (.cells #[.int .i64 n, .string X2] 76)).drew.heap[j]? = w2.heap[j]? := fun j hj hlt => (Below.heap_alloc _ _ _ (by simpa using hlt)).trans ((Below.heap_setCell _ _ _ _ (by simpa using hj)).trans (Below.heap_setCell _ _ _ _ (by simpa using hj)))
   have hK1 := (hset D (by omega) (by omega)).trans ((HB2.out.block D hKl).trans HK.out)
   have hR1 := (((HRB.out.set 0 (.int .i64 n)).set 1 (.string X2)).alloc (.cells #[.int .i64 n, .string X2] 76)).drew
   have hO1 := (own_set (own_set (own_below HS.out.2.2.2.2.1 HB2.out) HRB.out (by decide) 0 (.int .i64 n)) (HRB.out.set 0 (.int .i64 n)) (by decide) 1 (.string X2)).alloc (.cells #[.int .i64 n, .string X2] 76)
   have hb1 := ((below_set (below_set (HS.out.2.2.2.2.2.trans (HB2.out.mono (by rw [hH];omega))) (H + 1) 0 (.int .i64 n) (by omega)) (H + 1) 1 (.string X2) (by omega)).alloc (by simp;omega) (.cells #[.int .i64 n, .string X2] 76)).drew
   obtain ⟨W8,hW8⟩ : ∃ u,(((w2.setCell ⟨H + 1,0,none⟩ (.int .i64 n)).setCell ⟨H + 1,1,none⟩ (.string X2)).alloc (.cells #[.int .i64 n, .string X2] 76)) = u := ⟨_,rfl⟩
   rw [hW8] at hK1 hR1 hO1 hb1 ⊢
   refine ⟨by simp, .inl ⟨_,_,rfl,run_takeDeferred hK1, ?_⟩⟩
   have hR2 : Blk (W8.drew.putObj D (.deferred none)) (H + 1) _ 76 := (World.putObj_heap_other (by omega)).trans hR1
   have hO2 : (W8.drew.putObj D (.deferred none)).ownsRow w.heap.size 90 2 (.slice A q cp) q (ecells l) := by
    refine World.ownsRow.kept (w := W8.drew) hO1 (grownBy_putObj' _ _ _) (.inr fun e => ?_)
    obtain ⟨c,fz,h⟩ := row_kind hO1 _ e
    have : W8.heap[D]? = some (.deferred (some [])) := hK1
    rw [this] at h
    cases h
   have q0 := hR2.cell 0
   have q1 := hR2.cell 1
   simp at q0 q1
   refine ⟨.tuple #[.slice A q cp, .agg #[.int .i64 n, .string X2], .int .i64 0], ?_,fun l1 T1 h => ?_,fun h => (by rw [HSOME.out] at h;cases h), ?_⟩
   ·simp [results,Tryz.f39,go_sem,q0,q1]
   ·rw [HSOME.out] at h
    cases h
    refine ⟨A,cp, ?_,by rw [HQ.out];exact hO2⟩
    rw [HQ.out,HT2.out,HX2.out]
   ·exact hb1.grown (grownBy_putObj' _ _ _) hb1.size (fun g e => by cases e;omega)
theorem take_zeroS (T : List Bool) (most : Nat) : takeS T 0 most = some ([],T) := by
 unfold takeS
 rw [trimR_zero,if_neg (by simp)]
 rfl
set_option maxRecDepth 100000 in
theorem take_zero (T : List Bool) (most : Nat) (w : World) (hn : T.length ≤ 4096) (hm : most ≤ 2199023255552) : Calls Tryz.prog 39 #[spv T, .int .i64 0, .int .i64 most] w fun e w' =>
  e = .returned (.tuple #[.slice none 0 0,spv T, .int .i64 0]) ∧ Below w.heap.size w w' := by
 have K := fun w => claim_any T [] none 0 w hn (fun h => by simp [ecells] at h) (fun x hx => by simp at hx) (by simp)
 rw [show turnV (turnS true T []) = .tuple #[spv T, .int .i64 0] from rfl] at K
 unfold spv at K ⊢
 obtain ⟨n,hn2⟩ : ∃ n,T.length = n := ⟨_,rfl⟩
 obtain ⟨X,hX⟩ : ∃ X,mk (packB T) = X := ⟨_,rfl⟩
 rw [hn2,hX] at K ⊢
 rw [List.length_nil] at K
 have m0 : ¬ ((most : Int) < 0) := by omega
 clear hn2 hX hn
 go_enter Tryz.func39,Tryz.ntmps39
 go_upto_region 5 with fail
 have hT0 := TSt.new w n 0 X
 obtain ⟨W0,hW0⟩ : ∃ u,(((w.alloc (.cells #[.int .i64 n, .string X] 76)).alloc (.cells #[.int .i64 0, .string ⟨#[]⟩] 76)).alloc (.cells #[.slice none 0 0] 67)).alloc (.cells #[.int .i64 0] 3) = u := ⟨_,rfl⟩
 rw [hW0] at hT0 ⊢
 obtain ⟨H,hH⟩ : ∃ H,w.heap.size = H := ⟨_,rfl⟩
 have HH := Lib.hid hH
 simp only [hH]
 have hs := hT0
 have d3 := hs.2.2.1.cell 0
 have d4 := hs.2.2.2.1.cell 0
 have d1 := hs.2.1.cell 0
 have d2 := hs.2.1.cell 1
 have e1 := hs.2.1.frozen 0
 have e2 := hs.2.1.frozen 1
 have z1 := hs.2.1.lt
 have z3 := hs.2.2.1.lt
 have z4 := hs.2.2.2.1.lt
 have s0 := hs.1.cell 0
 have s1 := hs.1.cell 1
 rw [hH] at d3 d4 d1 d2 e1 e2 z1 z3 z4 s0 s1
 simp at d3 d4 d1 d2 s0 s1
 have HS := Lib.hid hs
 clear hs hT0 hW0 hH
 go_upto_region 14 with (go_at_call 78;refine (K _).mono ?_;rintro e w2 ⟨rfl,hb2⟩;have HB2 := Lib.hid hb2;have hw2 := hb2.size;clear hb2)
 have hb2 := HB2.out
 have d3 := (hb2.cell (p := ⟨H + 1 + 1,0,none⟩) z3).trans d3
 have d1 := (hb2.cell (p := ⟨H + 1,0,none⟩) z1).trans d1
 have d2 := (hb2.cell (p := ⟨H + 1,1,none⟩) z1).trans d2
 have hRB := ((by have := HS.out.2.1;rw [HH.out] at this;exact this : Blk W0 (H + 1) _ 76)).below hb2
 have e1 := hRB.frozen 0
 have e2 := hRB.frozen 1
 have HRB := Lib.hid hRB
 clear hRB hb2
 have z1' : H + 1 < w2.heap.size := by omega
 have z3' : H + 1 + 1 < w2.heap.size := by omega
 go_region
 all_goals go_wp2
 have hR1 := (((HRB.out.set 0 (.int .i64 n)).set 1 (.string X)).alloc (.cells #[.int .i64 n, .string X] 76)).drew
 have hsb := HS.out.2.2.2.2.2
 rw [HH.out] at hsb
 have hb1 := ((below_set (below_set (hsb.trans (HB2.out.mono (by omega))) (H + 1) 0 (.int .i64 n) (by omega)) (H + 1) 1 (.string X) (by omega)).alloc (by simp;omega) (.cells #[.int .i64 n, .string X] 76)).drew
 obtain ⟨W8,hW8⟩ : ∃ u,(((w2.setCell ⟨H + 1,0,none⟩ (.int .i64 n)).setCell ⟨H + 1,1,none⟩ (.string X)).alloc (.cells #[.int .i64 n, .string X] 76)).drew = u := ⟨_,rfl⟩
 rw [hW8] at hR1 hb1 ⊢
 have q0 := hR1.cell 0
 have q1 := hR1.cell 1
 simp at q0 q1
 refine bodyPost_ret (v := .tuple #[.slice none 0 0, .agg #[.int .i64 n, .string X], .int .i64 0]) ?_ rfl ?_
 ·simp [results,Tryz.f39,go_sem,q0,q1]
 ·rw [HH.out];exact ⟨rfl,hb1⟩
open Go.RowKit Go.Maps
structure StoM where
 ds : DS
 F : List FileM
 T : List Bool
 most : Nat
 off : Bool
def Exts (w : World) (X : List Nat) (ad : AdM) (F : List FileM) : Prop := ∀ f ∈ F,Lies w (ad f.name).1 (ecells f.ext) ∧ Typed w (ad f.name).1 90 ∧ ∀ a,(ad f.name).1 = some a → a.block ∉ X
abbrev stoCells (D Lg M : Nat) (T : List Bool) (most : Nat) (off : Bool) : Array Value := #[.pointer (some ⟨D,0,none⟩), .pointer (some ⟨Lg,0,none⟩), .int .i64 T.length, .string (mk (packB T)), .map (some M), .int .i64 most, .bool off]
structure Sto (w : World) (X : List Nat) (S D Lg M : Nat) (m : StoM) : Prop where
 blk : Blk w S (stoCells D Lg M m.T m.most m.off) 79
 dsk : Dsk w X D m.ds
 log : WLog w Lg D (2 + m.most) 5
 map : ∃ ad,FM w M ad m.F ∧ Exts w X ad m.F
 apart : S ∉ X ∧ Lg ∉ X ∧ M ∉ X ∧ 0 ∉ X
 tb : TB w
 pos : 0 < w.heap.size
theorem Exts.mv {w w' : World} {X X' : List Nat} {ad : AdM} {F : List FileM} (h : Exts w X ad F) (hm : Mv X X' w w') : Exts w' X' ad F := by
 intro f hf
 obtain ⟨h1,h2,h3⟩ := h f hf
 refine ⟨hm.lies h1 h3,h2.frm hm.frm h3,fun a ha => ?_⟩
 obtain ⟨cs,fr,hc⟩ := h2 a ha
 exact hm.apart (h3 a ha) (Array.getElem?_eq_some_iff.1 hc).1
theorem Exts.grown {w w' : World} {X : List Nat} {ad : AdM} {F : List FileM} {r : Option Nat} (h : Exts w X ad F) (hg : w.grownBy w' r) (hr : ∀ g,r = some g → ∀ c fr,w.heap[g]? ≠ some (.cells c 90 fr)) : Exts w' X ad F := by
 intro f hf
 obtain ⟨h1,h2,h3⟩ := h f hf
 have hne : ∀ a,(ad f.name).1 = some a → some a.block ≠ r := fun a ha he => by
  obtain ⟨cs,fr,hc⟩ := h2 a ha
  exact hr a.block he.symm cs fr hc
 refine ⟨fun h0 => ?_,fun a ha => ?_,h3⟩
 ·obtain ⟨g,o,hA,hl,hc⟩ := h1 h0
  have := hg.block g hl (hne _ hA)
  exact ⟨g,o,hA,Nat.lt_of_lt_of_le hl hg.size,fun j u hu => (World.cell?_of_block (a := ⟨g,o + j,none⟩) this).trans (hc j u hu)⟩
 ·obtain ⟨cs,fr,hc⟩ := h2 a ha
  exact ⟨cs,fr,(hg.block _ (Array.getElem?_eq_some_iff.1 hc).1 (hne a ha)).trans hc⟩
theorem Sto.disk {w w' : World} {X X' : List Nat} {S D Lg M : Nat} {m : StoM} {d : DS} (h : Sto w X S D Lg M m) (hd : Dsk w' X' D d) (hm : Mv X X' w w') : Sto w' X' S D Lg M ⟨d,m.F,m.T,m.most,m.off⟩ := by
 obtain ⟨ad,h1,h2⟩ := h.map
 obtain ⟨a1,a2,a3,a4⟩ := h.apart
 exact ⟨hm.blk h.blk a1,hd,hm.blk h.log a2,⟨ad,h1.block (hm.frm.block M h1.lt a3),h2.mv hm⟩,⟨hm.apart a1 (Blk.lt h.blk),hm.apart a2 (Blk.lt h.log),hm.apart a3 h1.lt,hm.apart a4 h.pos⟩,(h.tb.mv hm h.pos a4).1,Nat.lt_of_lt_of_le h.pos hm.size⟩
theorem Sto.below {w w' : World} {X : List Nat} {S D Lg M : Nat} {m : StoM} (h : Sto w X S D Lg M m) (hb : Below w.heap.size w w') : Sto w' X S D Lg M m := h.disk (h.dsk.below hb) (.of_below X hb)
theorem Sto.ne {w : World} {X : List Nat} {S D Lg M : Nat} {m : StoM} (h : Sto w X S D Lg M m) : Lg ≠ S ∧ M ≠ S ∧ M ≠ Lg := by
 obtain ⟨ad,h1,h2⟩ := h.map
 refine ⟨fun e => ?_,fun e => (h1.not_cells h.blk) e.symm,fun e => (h1.not_cells h.log) e.symm⟩
 have a := h.blk
 have b := h.log
 unfold WLog Blk at b
 unfold Blk at a
 rw [e] at b
 rw [a] at b
 simp at b
theorem Sto.own {w : World} {X : List Nat} {S D Lg M : Nat} {m : StoM} (h : Sto w X S D Lg M m) {w' : World} {T : List Bool} {off : Bool} (hg : w.grownBy w' (some S)) (hB : Blk w' S (stoCells D Lg M T m.most off) 79) : Sto w' X S D Lg M ⟨m.ds,m.F,T,m.most,off⟩ := by
 obtain ⟨ad,h1,h2⟩ := h.map
 obtain ⟨a1,a2,a3,a4⟩ := h.apart
 obtain ⟨n1,n2,_⟩ := h.ne
 have hfr : Frm [S] w w' := ⟨hg.os,hg.tape,hg.output,hg.size,fun k hk hx => hg.block k hk (by simpa using hx)⟩
 refine ⟨hB,h.dsk.frm hfr (fun x hx e => a1 (by simp at e;rwa [← e])),hfr.blk h.log (by simpa using n1),⟨ad,h1.kept hg (by simpa using n2),h2.grown hg (fun g e c fr hc => ?_)⟩,⟨a1,a2,a3,a4⟩,fun k hk => ?_,Nat.lt_of_lt_of_le h.pos hg.size⟩
 ·cases e
  have a := h.blk
  unfold Blk at a
  rw [a] at hc
  simp at hc
 ·refine (hfr.cell (p := ⟨0,k,none⟩) h.pos ?_).trans (h.tb k hk)
  intro e
  simp at e
  subst e
  have a := h.blk.cell k
  rw [h.tb k hk] at a
  have hl := List.getElem?_eq_some_iff.1 (by simpa using a.symm : (stoCells D Lg M m.T m.most m.off).toList[k]? = some _)
  obtain ⟨hk7,he⟩ := hl
  simp at hk7
  match k,hk7 with
  | 0,_ => simp at he
  | 1,_ => simp at he
  | 2,_ => simp at he
  | 3,_ => simp at he
  | 4,_ => simp at he
  | 5,_ => simp at he
  | 6,_ => simp at he
set_option maxHeartbeats 1000000 in
theorem ready_ok (X : List Nat) (S D Lg M : Nat) (m : StoM) (w : World) (h : Sto w X S D Lg M m) (h1 : m.off = false) (h2 : m.ds.off = false) :
  Calls Tryz.prog 48 #[.pointer (some ⟨S,0,none⟩)] w fun e w' => e = .returned (.int .i64 0) ∧ w' = w := by
 have KO := off_any X D m.ds w h.dsk
 rw [h2] at KO
 have x0 := h.blk.cell 0
 have x6 := h.blk.cell 6
 simp at x0 x6
 rw [h1] at x6
 clear h h1 h2
 go_enter Tryz.func48,Tryz.ntmps48
 go_wp2_with (go_at_call 82;refine KO.mono ?_;rintro e w1 ⟨rfl,hw⟩;obtain rfl := hw.symm)
 go_ret
 exact ⟨rfl,rfl⟩
theorem grown_set2 (w : World) (b i j : Nat) (u v : Value) : w.grownBy ((w.setCell ⟨b,i,none⟩ u).setCell ⟨b,j,none⟩ v) (some b) := grown_trans (grown_set w b i u) (grown_set _ b j v)
theorem Mv.of_grown {w w' : World} {b : Nat} {X : List Nat} (hg : w.grownBy w' (some b)) (hb : b ∈ X) : Mv X X w w' :=
 .of_frm ⟨hg.os,hg.tape,hg.output,hg.size,fun k _ hx => hg.block k (by assumption) (fun e => hx (by cases e;exact hb))⟩
def findV (ad : AdM) (F : List FileM) (name : Bs) : Value := if goodF name then ((fileOf F name).map (inoV ad)).getD inoZ else inoZ
def findE (F : List FileM) (name : Bs) : Nat := if goodF name then (if (fileOf F name).isSome then 0 else 9) else 11
theorem inoV_form (ad : AdM) (o : Option FileM) : ∃ (a b : Int) (A : Option Addr) (k c : Nat),((o.map (inoV ad)).getD inoZ) = .agg #[.int .i64 a, .int .i64 b, .slice A k c] := by
 cases o with
 | none => exact ⟨_,_,_,_,_,rfl⟩
 | some f => exact ⟨_,_,_,_,_,rfl⟩
set_option maxRecDepth 100000 in
set_option maxHeartbeats 2000000 in
theorem find_ok (X : List Nat) (S D Lg M : Nat) (m : StoM) (ad : AdM) (name : Bs) (w : World) (h : Sto w X S D Lg M m) (hm : FM w M ad m.F) (h1 : m.off = false) (h2 : m.ds.off = false) (hn : name.length ≤ maxLen) :
  Calls Tryz.prog 37 #[.pointer (some ⟨S,0,none⟩), .string (mk name)] w fun e w' => e = .returned (.tuple #[findV ad m.F name, .int .i64 (findE m.F name : Nat)]) ∧ Below w.heap.size w w' := by
 have KR := ready_ok X S D Lg M m (w.alloc (.cells #[.int .i64 0, .int .i64 0, .slice none 0 0] 69)) (h.below (below_alloc _ _)) h1 h2
 have KG := good_any name (w.alloc (.cells #[.int .i64 0, .int .i64 0, .slice none 0 0] 69)) (by unfold maxLen at hn;omega)
 have x4 := h.blk.cell 4
 simp at x4
 have hSl := Blk.lt h.blk
 cases hg : goodF name with
 | false =>
  rw [hg] at KG
  have HV := Lib.hid (show findV ad m.F name = .agg #[.int .i64 0, .int .i64 0, .slice none 0 0] ∧ findE m.F name = 11 by unfold findV findE;rw [hg];exact ⟨rfl,rfl⟩)
  obtain ⟨X1,hX⟩ : ∃ q,mk name = q := ⟨_,rfl⟩
  rw [hX] at KG ⊢
  obtain ⟨V,hV⟩ : ∃ q,findV ad m.F name = q := ⟨_,rfl⟩
  obtain ⟨N,hN⟩ : ∃ q,findE m.F name = q := ⟨_,rfl⟩
  rw [hV,hN] at HV ⊢
  clear h hm h1 h2 hn hg hX hV hN
  obtain ⟨rfl,rfl⟩ := HV.out
  go_enter Tryz.func37,Tryz.ntmps37
  go_wp2_with (first
   | (go_at_call 48;refine KR.mono ?_;rintro e w1 ⟨rfl,hw⟩;obtain rfl := hw.symm)
   | (go_at_call 11;refine KG.mono ?_;rintro e w2 ⟨rfl,hb⟩;have hR := Blk.below (Blk.new w #[.int .i64 0, .int .i64 0, .slice none 0 0] 69) hb;have q0 := hR.frozen 0;have q1 := hR.frozen 1;have q2 := hR.frozen 2;have c0 := hR.cell 0;have c1 := hR.cell 1;have c2 := hR.cell 2;simp at c0 c1 c2;have hl := hR.lt;have HR := Lib.hid hR;have HB := Lib.hid hb;clear hb hR))
  have hR2 := ((HR.out.set 0 (.int .i64 0)).set 1 (.int .i64 0)).set 2 (.slice none 0 0)
  have p0 := hR2.cell 0
  have p1 := hR2.cell 1
  have p2 := hR2.cell 2
  simp at p0 p1 p2
  refine bodyPost_ret (v := .tuple #[.agg #[.int .i64 0, .int .i64 0, .slice none 0 0], .int .i64 11]) ?_ rfl ?_
  ·simp [results,Tryz.f37,go_sem,p0,p1,p2]
  ·exact ⟨rfl,below_set (below_set (below_set ((below_alloc w _).trans (HB.out.mono (by simp))) _ 0 _ (Nat.le_refl _)) _ 1 _ (Nat.le_refl _)) _ 2 _ (Nat.le_refl _)⟩
 | true =>
  rw [hg] at KG
  have hlk := fun (w2 : World) (hb : Below (w.alloc (.cells #[.int .i64 0, .int .i64 0, .slice none 0 0] 69)).heap.size (w.alloc (.cells #[.int .i64 0, .int .i64 0, .slice none 0 0] 69)) w2) => (hm.block ((hb.block M (by have := hm.lt;simp;omega)).trans (Below.heap_alloc _ _ M hm.lt))).look name hn
  have HV := Lib.hid (show findV ad m.F name = ((fileOf m.F name).map (inoV ad)).getD inoZ ∧ findE m.F name = if (fileOf m.F name).isSome then 0 else 9 by unfold findV findE;rw [hg];exact ⟨rfl,rfl⟩)
  obtain ⟨a,b,A,k,c,hf⟩ := inoV_form ad (fileOf m.F name)
  have hz := fun (h0 : (fileOf m.F name).isSome = false) => (show ((fileOf m.F name).map (inoV ad)).getD inoZ = inoZ by rw [show fileOf m.F name = none by simpa using h0];rfl)
  rw [hf] at HV hlk hz
  obtain ⟨o,ho⟩ : ∃ q,(fileOf m.F name).isSome = q := ⟨_,rfl⟩
  rw [ho] at HV hlk hz
  obtain ⟨X1,hX⟩ : ∃ q,mk name = q := ⟨_,rfl⟩
  rw [hX] at KG hlk ⊢
  obtain ⟨V,hV⟩ : ∃ q,findV ad m.F name = q := ⟨_,rfl⟩
  obtain ⟨N,hN⟩ : ∃ q,findE m.F name = q := ⟨_,rfl⟩
  rw [hV,hN] at HV ⊢
  clear h hm h1 h2 hn hg hX hV hN hf ho
  obtain ⟨rfl,rfl⟩ := HV.out
  cases o with
  | true =>
   clear HV hz
   go_enter Tryz.func37,Tryz.ntmps37
   go_wp2_with (first
    | (go_at_call 48;refine KR.mono ?_;rintro e w1 ⟨rfl,hw⟩;obtain rfl := hw.symm)
    | (go_at_call 11;refine KG.mono ?_;rintro e w2 ⟨rfl,hb⟩;have hR := Blk.below (Blk.new w #[.int .i64 0, .int .i64 0, .slice none 0 0] 69) hb;have q0 := hR.frozen 0;have q1 := hR.frozen 1;have q2 := hR.frozen 2;have c0 := hR.cell 0;have c1 := hR.cell 1;have c2 := hR.cell 2;simp at c0 c1 c2;have hl := hR.lt;have HR := Lib.hid hR;have hs4 := (hb.cell (p := ⟨S,4,none⟩) (by simp;omega)).trans ((cell_old w _ ⟨S,4,none⟩ hSl).trans x4);have hSl2 : S < w2.heap.size := (by have := hb.size;simp at this;omega);have hlk2 := hlk w2 hb;have HB := Lib.hid hb;clear hb hR))
   have hR2 := ((((HR.out.set 0 (.int .i64 a)).set 1 (.int .i64 b)).set 2 (.slice A k c)).alloc (.cells #[.int .i64 a, .int .i64 b, .slice A k c] 69))
   have p0 := hR2.cell 0
   have p1 := hR2.cell 1
   have p2 := hR2.cell 2
   simp at p0 p1 p2
   have hsz2 := HB.out.size
   refine bodyPost_ret (v := .tuple #[.agg #[.int .i64 a, .int .i64 b, .slice A k c], .int .i64 0]) ?_ rfl ?_
   ·simp [results,Tryz.f37,go_sem,p0,p1,p2]
   ·exact ⟨rfl,Below.alloc (below_set (below_set (below_set ((below_alloc w _).trans (HB.out.mono (by simp))) _ 0 _ (Nat.le_refl _)) _ 1 _ (Nat.le_refl _)) _ 2 _ (Nat.le_refl _)) (by simp at hsz2 ⊢;omega) _⟩
  | false =>
   have hz1 := hz rfl
   unfold inoZ at hz1
   simp only [Value.agg.injEq,Array.mk.injEq,List.cons.injEq,Value.int.injEq,Value.slice.injEq,true_and,and_true] at hz1
   obtain ⟨rfl,rfl,rfl,rfl,rfl⟩ := hz1
   clear HV hz
   go_enter Tryz.func37,Tryz.ntmps37
   go_wp2_with (first
    | (go_at_call 48;refine KR.mono ?_;rintro e w1 ⟨rfl,hw⟩;obtain rfl := hw.symm)
    | (go_at_call 11;refine KG.mono ?_;rintro e w2 ⟨rfl,hb⟩;have hR := Blk.below (Blk.new w #[.int .i64 0, .int .i64 0, .slice none 0 0] 69) hb;have q0 := hR.frozen 0;have q1 := hR.frozen 1;have q2 := hR.frozen 2;have c0 := hR.cell 0;have c1 := hR.cell 1;have c2 := hR.cell 2;simp at c0 c1 c2;have hl := hR.lt;have HR := Lib.hid hR;have hs4 := (hb.cell (p := ⟨S,4,none⟩) (by simp;omega)).trans ((cell_old w _ ⟨S,4,none⟩ hSl).trans x4);have hSl2 : S < w2.heap.size := (by have := hb.size;simp at this;omega);have hlk2 := hlk w2 hb;have HB := Lib.hid hb;clear hb hR))
   have hR2 := ((((HR.out.set 0 (.int .i64 0)).set 1 (.int .i64 0)).set 2 (.slice none 0 0)).alloc (.cells #[.int .i64 0, .int .i64 0, .slice none 0 0] 69))
   have p0 := hR2.cell 0
   have p1 := hR2.cell 1
   have p2 := hR2.cell 2
   simp at p0 p1 p2
   have hsz2 := HB.out.size
   refine bodyPost_ret (v := .tuple #[.agg #[.int .i64 0, .int .i64 0, .slice none 0 0], .int .i64 9]) ?_ rfl ?_
   ·simp [results,Tryz.f37,go_sem,p0,p1,p2]
   ·exact ⟨rfl,Below.alloc (below_set (below_set (below_set ((below_alloc w _).trans (HB.out.mono (by simp))) _ 0 _ (Nat.le_refl _)) _ 1 _ (Nat.le_refl _)) _ 2 _ (Nat.le_refl _)) (by simp at hsz2 ⊢;omega) _⟩
open Go.RowKit Go.Maps
def ncells (l : List Nat) : List Value := l.map fun i : Nat => Value.int .i64 (i : Int)
def secX (b : Nat) (x : Nat × Nat) : List Nat := (List.range x.2).map fun i => b + x.1 + i
def secL (b : Nat) (l : List (Nat × Nat)) : List Nat := l.flatMap (secX b)
theorem ncells_length (l : List Nat) : (ncells l).length = l.length := by simp [ncells]
theorem ncells_app (a b : List Nat) : ncells (a ++ b) = ncells a ++ ncells b := by simp [ncells]
theorem ncells_at (l : List Nat) (j : Nat) (h : j < l.length) : (ncells l)[j]? = some (.int .i64 (l[j] : Int)) := by simp [ncells,h]
theorem secL_snoc (b : Nat) (l : List (Nat × Nat)) (k : Nat) (h : k < l.length) : secL b (l.take (k + 1)) = secL b (l.take k) ++ secX b l[k] := by
 unfold secL;rw [List.take_succ_eq_append_getElem h,List.flatMap_append,List.flatMap_singleton]
theorem secL_take (b : Nat) (l : List (Nat × Nat)) (k : Nat) : (secL b (l.take k)).length ≤ (secL b l).length := by
 have : secL b l = secL b (l.take k) ++ secL b (l.drop k) := by unfold secL;rw [← List.flatMap_append,List.take_append_drop]
 rw [this,List.length_append];omega
theorem secX_snoc (b : Nat) (a j : Nat) : (List.range (j + 1)).map (fun i => b + a + i) = (List.range j).map (fun i => b + a + i) ++ [b + a + j] := by rw [List.range_succ,List.map_append];rfl
theorem info3 : (Tryz.prog.info? 3).map (fun i => (i.zero,i.size,i.bytes)) = some (some (.int .i64 0),1,8) := by kernel_rfl
set_option maxRecDepth 100000 in
set_option maxHeartbeats 4000000 in
theorem sectors_any (S : Nat) (most : Nat) (A : Option Addr) (cap : Nat) (l : List (Nat × Nat)) (w : World) (hS : w.cell? ⟨S,5,none⟩ = some (.int .i64 most)) (hm : most ≤ 1000) (hA : Lies w A (ecells l)) (hn : l.length ≤ 1000) (hl : ∀ x ∈ l,x.1 ≤ 10000 ∧ x.2 ≤ 10000) (ht : (secL (most + 7) l).length ≤ 100000) :
  Calls Tryz.prog 43 #[.pointer (some ⟨S,0,none⟩), .slice A l.length cap] w fun e w' => (∃ A' c,e = .returned (.slice A' (secL (most + 7) l).length c) ∧ w'.ownsRow w.heap.size 3 1 (.slice A' (secL (most + 7) l).length c) (secL (most + 7) l).length (ncells (secL (most + 7) l))) ∧ Below w.heap.size w w' := by
 obtain ⟨i3,hi0,hi1,hi2,hi3⟩ := info_parts info3
 have hSl := cell_lt hS
 simp only at hSl
 have KD := fun w => dataAt_any most w (by omega)
 obtain ⟨B,hB⟩ : ∃ q,most + 7 = q := ⟨_,rfl⟩
 rw [hB] at ht
 simp only [hB] at KD
 rw [hB]
 have hBb : B ≤ 1007 := by omega
 obtain ⟨n,hnn⟩ : ∃ q,l.length = q := ⟨_,rfl⟩
 rw [hnn] at hn ⊢
 have HN := Lib.hid hnn
 have HL := Lib.hid hA
 have HLX := Lib.hid hl
 have HT := Lib.hid ht
 have HTK := Lib.hid (secL_take B l)
 have mixed := mixedT
 clear hA hl ht hnn hB
 go_enter Tryz.func43,Tryz.ntmps43
 go_wp2
 go_loopw [5,11] (fun v i wr => ∃ k : Nat,k ≤ n ∧ i = .int .i64 k ∧ wr.ownsRow w.heap.size 3 1 v (secL B (l.take k)).length (ncells (secL B (l.take k))) ∧ Below w.heap.size w wr) (fun _ i _ => n - (intOf i).toNat)
 case atStart => exact ⟨0,Nat.zero_le _,rfl,by simpa [secL,ncells] using World.ownsRow_nil w w.heap.size 3 1,Below.refl _ _⟩
 case round =>
  obtain ⟨k,hk,rfl,hrow,hb⟩ := hrel
  by_cases hlt : k < n
  ·have hkl : k < l.length := by rw [HN.out];exact hlt
   obtain ⟨g,off,rfl,hgl,hcs⟩ := HL.out (by rw [ecells_length];omega)
   obtain ⟨s0,s1⟩ := ecells_at l k hkl
   have d0 := (hb.cell (p := ⟨g,off + k * 2,none⟩) hgl).trans (hcs _ _ s0)
   have d1 := (hb.cell (p := ⟨g,off + (k * 2 + 1),none⟩) hgl).trans (hcs _ _ s1)
   have hgr : g < wr.heap.size := Nat.lt_of_lt_of_le hgl hb.size
   obtain ⟨hq1,hq2⟩ := HLX.out l[k] (List.getElem_mem hkl)
   have hsn := secL_snoc B l k hkl
   have htk := HTK.out (k + 1)
   have htt := HT.out
   rw [hsn,List.length_append] at htk
   have hx : secX B l[k] = (List.range l[k].2).map (fun i => B + l[k].1 + i) := rfl
   rw [hx] at hsn htk
   obtain ⟨a,ha⟩ : ∃ z,l[k].1 = z := ⟨_,rfl⟩
   obtain ⟨c,hc⟩ : ∃ z,l[k].2 = z := ⟨_,rfl⟩
   rw [ha] at d0 hq1 hsn htk
   rw [hc, ← Nat.add_assoc] at d1
   rw [hc] at hq2 hsn htk
   rw [List.length_map,List.length_range] at htk
   obtain ⟨pre,hpre⟩ : ∃ z,secL B (l.take k) = z := ⟨_,rfl⟩
   rw [hpre] at hrow hsn htk
   have HSN := Lib.hid hsn
   have HROW := Lib.hid (World.ownsRow.alloc hrow (.cells #[.int .i64 a, .int .i64 c] 90))
   have HB := Lib.hid (hb.alloc hb.size (.cells #[.int .i64 a, .int .i64 c] 90))
   have HZ := Lib.hid (Blk.new wr #[.int .i64 a, .int .i64 c] 90)
   have hpl : pre.length + c ≤ 100000 := by omega
   have k0 : (0 : Int) ≤ (k : Int) := by omega
   have k1 : (k : Int) < (n : Int) := by omega
   clear hrow hb hcs s0 s1 hsn htk htt hx ha hc hpre hkl
   go_wp2
   obtain ⟨V,hV⟩ : ∃ V,wr.heap.size = V := ⟨_,rfl⟩
   rw [hV] at HZ
   simp only [hV]
   obtain ⟨W0,hW0⟩ : ∃ q,wr.alloc (.cells #[.int .i64 a, .int .i64 c] 90) = q := ⟨_,rfl⟩
   rw [hW0] at HROW HB HZ ⊢
   clear hW0 hV d0 d1
   go_loopw [5,17] (fun v i wr => ∃ j : Nat,j ≤ c ∧ i = .int .i64 j ∧ wr.ownsRow w.heap.size 3 1 v (pre ++ (List.range j).map (fun i => B + a + i)).length (ncells (pre ++ (List.range j).map (fun i => B + a + i))) ∧ Below w.heap.size w wr ∧ Blk wr V #[.int .i64 a, .int .i64 c] 90) (fun _ i _ => c - (intOf i).toNat)
   case atStart => exact ⟨0,Nat.zero_le _,rfl,by simpa using HROW.out,HB.out,HZ.out⟩
   case round =>
    obtain ⟨j,hj,rfl,hrow,hb,hz⟩ := hrel
    by_cases hjc : j < c
    ·have hlj : (pre ++ (List.range j).map (fun i => B + a + i)).length ≤ 100000 := by simp;omega
     have hsx := secX_snoc B a j
     obtain ⟨xs,hxs⟩ : ∃ q,pre ++ (List.range j).map (fun i => B + a + i) = q := ⟨_,rfl⟩
     have HXS := Lib.hid (show pre ++ (List.range (j + 1)).map (fun i => B + a + i) = xs ++ [B + a + j] by rw [hsx, ← hxs,List.append_assoc])
     rw [hxs] at hrow hlj
     have s5 := (hb.cell (p := ⟨S,5,none⟩) hSl).trans hS
     have hSw : S < wr.heap.size := Nat.lt_of_lt_of_le hSl hb.size
     have j0 : (0 : Int) ≤ (j : Int) := by omega
     have j1 : (j : Int) < (c : Int) := by omega
     have w1 : IntKind.i64.wrap ((B : Int) + (a : Int)) = (B : Int) + (a : Int) := by rw [Go.IntWalk.i64_left,Go.IntWalk.wrap64_in _ (by omega)]
     have w2 : IntKind.i64.wrap ((B : Int) + (a : Int) + (j : Int)) = (B : Int) + (a : Int) + (j : Int) := by rw [Go.IntWalk.i64_left,Go.IntWalk.wrap64_in _ (by omega)]
     have HW := Lib.hid (And.intro w1 w2)
     have HROW := Lib.hid hrow
     have HB := Lib.hid hb
     have HZ := Lib.hid hz
     have HS5 := Lib.hid s5
     clear hrow hb hz hxs hsx w1 w2 s5
     go_upto_region 8 with (fail)
     refine wp_region_held (S := fun w' => w'.cell? ⟨S,5,none⟩ = some (.int .i64 most) ∧ Blk w' V #[.int .i64 a, .int .i64 c] 90) mixed ?_
     change wpAnyH _ _ _ _ _ _ _ _ wr.drew
     have hrow0 : wr.drew.ownsRow w.heap.size 3 1 u5 xs.length (ncells xs) := HROW.out
     have hb0 : Below w.heap.size w wr.drew := HB.out.drew
     have hS0 : wr.drew.cell? ⟨S,5,none⟩ = some (.int .i64 most) ∧ Blk wr.drew V #[.int .i64 a, .int .i64 c] 90 := ⟨HS5.out,HZ.out⟩
     obtain ⟨W0,hW0⟩ : ∃ q,wr.drew = q := ⟨_,rfl⟩
     rw [hW0] at hrow0 hb0 hS0 ⊢
     clear hW0
     have HR0 := Lib.hid hrow0
     clear hrow0
     refine tkQ 0 (u5) rfl hS0 ?_
     try go_simp
     refine tkQ 1 (.pointer (some ⟨S,0,none⟩)) rfl hS0 ?_
     try go_simp
     refine tkQ 2 (.pointer (some ⟨S,0,none⟩)) rfl hS0 ?_
     try go_simp
     refine tkQ 3 (.pointer (some ⟨S,5,none⟩)) rfl hS0 ?_
     try go_simp
     refine tkH 4 (.int .i64 (most : Int)) rfl hS0 (fun w' hS => ?_) ?_
     ·have q0 := hS.1;go_simp
     try go_simp
     refine tkQ 6 (.pointer (some ⟨V,0,none⟩)) rfl hS0 ?_
     try go_simp
     refine tkH 7 (.int .i64 (a : Int)) rfl hS0 (fun w' hS => ?_) ?_
     ·have q0 := hS.2.cell 0;simp at q0;go_simp
     try go_simp
     refine tkQ 9 (.int .i64 (j : Int)) rfl hS0 ?_
     try go_simp
     refine alH 5 ?_
     unfold wpOp
     go_simp
     refine .inl ?_
     go_at_call 54
     refine (KD _).mono ?_
     rintro e W1 ⟨rfl,hw1⟩
     obtain rfl := hw1.symm
     refine ⟨hS0, ?_⟩
     refine tkH 8 (.int .i64 ((B : Int) + (a : Int))) rfl hS0 (fun w' hS => ?_) ?_
     ·clear hS;have w1 := HW.out.1;go_simp
     try go_simp
     refine tkH 10 (.int .i64 ((B : Int) + (a : Int) + (j : Int))) rfl hS0 (fun w' hS => ?_) ?_
     ·clear hS;have w2 := HW.out.2;go_simp
     try go_simp
     refine alH 11 ?_
     unfold wpOp
     go_simp
     have hN2 := World.news_of_block (cs := #[.int .i64 ((B : Int) + (a : Int) + (j : Int))]) (heap_alloc_new W0 (.cells #[.int .i64 ((B : Int) + (a : Int) + (j : Int))] 3))
     have hr2 := World.ownsRow.alloc HR0.out (.cells #[.int .i64 ((B : Int) + (a : Int) + (j : Int))] 3)
     have hb2 := hb0.alloc hb0.size (.cells #[.int .i64 ((B : Int) + (a : Int) + (j : Int))] 3)
     have hS2 : (W0.alloc (.cells #[.int .i64 ((B : Int) + (a : Int) + (j : Int))] 3)).cell? ⟨S,5,none⟩ = some (.int .i64 most) ∧ Blk (W0.alloc (.cells #[.int .i64 ((B : Int) + (a : Int) + (j : Int))] 3)) V #[.int .i64 a, .int .i64 c] 90 := ⟨(cell_old W0 _ ⟨S,5,none⟩ (Nat.lt_of_lt_of_le hSl hb0.size)).trans hS0.1,hS0.2.alloc _⟩
     obtain ⟨Z,hZ⟩ : ∃ Z,W0.heap.size = Z := ⟨_,rfl⟩
     obtain ⟨W2,hW2⟩ : ∃ u,W0.alloc (.cells #[.int .i64 ((B : Int) + (a : Int) + (j : Int))] 3) = u := ⟨_,rfl⟩
     rw [hZ] at hN2
     rw [hW2] at hN2 hr2 hb2 hS2
     try rw [hZ]
     rw [hW2]
     clear hW2 hZ
     first | refine .inl ⟨hS2, ?_⟩ | refine ⟨hS2, ?_⟩
     refine alH 12 ?_
     refine wpOp_of rfl rfl (wp_append_lies (P := Tryz.prog) W2 (.tmp 20) (.tmp 31) 58 rfl w.heap.size 3 i3 _ 1 8 Tryz.underlying58 hi0 hi1 hi2 hi3 (by rfl) (by decide) u5 xs.length (ncells xs) (by rfl) hr2 ⟨Z,0,none⟩ 1 1 [.int .i64 ((B : Int) + (a : Int) + (j : Int))] (by rfl) (by rfl) hN2 (by simp [Value.oneCell']) (by omega) (by unfold maxLen;omega) (by omega) hb2.size W2.heap.size rfl ?_)
     intro g3 c3 W3 hS3 hg3 hat3 _
     have hnS : u5.ownBlock ≠ some S := fun e => by have := (hr2.lt S e).1;omega
     have hnV : u5.ownBlock ≠ some V := own_ne_blk hr2 hS2.2 (by decide)
     have hS4 : W3.cell? ⟨S,5,none⟩ = some (.int .i64 most) ∧ Blk W3 V #[.int .i64 a, .int .i64 c] 90 :=
      ⟨(World.cell?_of_block (a := ⟨S,5,none⟩) (hg3.block S (Nat.lt_of_lt_of_le hSl hb2.size) (fun e => hnS e.symm))).trans hS2.1,hS2.2.grown hg3 hnV⟩
     have HFN := Lib.hid (show W3.ownsRow w.heap.size 3 1 (.slice (some ⟨g3,0,none⟩) (xs.length + 1) c3) (xs ++ [B + a + j]).length (ncells (xs ++ [B + a + j])) ∧ Below w.heap.size w W3 from by
      refine ⟨?_,hb2.grown hg3 hb2.size (fun g hg => (hr2.lt g hg).1)⟩
      rw [ncells_app,List.length_append]
      have e : ncells [B + a + j] = [.int .i64 ((B : Int) + (a : Int) + (j : Int))] := by simp [ncells]
      rw [e]
      exact hS3)
     have HZ4 := Lib.hid hS4.2
     refine ⟨hS4, ?_⟩
     refine tkQ 13 (.slice (some ⟨g3,0,none⟩) (xs.length + 1) c3) rfl hS4 ?_
     try go_simp
     refine wpAnyH_done (by kernel_rfl) ?_ _
     clear hN2 hr2 hb2 hS2 hS3 hg3 hat3 hS4 hnS hnV hS0 hb0
     go_wp2
     go_roundw
     case rel => exact ⟨j + 1,by omega,by go_num,by rw [HXS.out];exact HFN.out.1,HFN.out.2,HZ4.out⟩
     case measure => simp [intOf];omega
    ·obtain rfl : c = j := by omega
     rw [← HSN.out] at hrow
     have HROW := Lib.hid hrow
     have HB := Lib.hid hb
     clear hrow hb hz
     go_wp2
     go_roundw
     case rel => exact ⟨k + 1,by omega,by go_num,HROW.out,HB.out⟩
     case measure => simp [intOf];omega
  ·obtain rfl : n = k := by omega
   rw [List.take_of_length_le (by rw [HN.out];exact Nat.le_refl _)] at hrow
   obtain ⟨A',c',rfl⟩ := row_form hrow
   have HROW := Lib.hid hrow
   have HB := Lib.hid hb
   clear hrow hb
   go_wp2
   go_ret
   exact ⟨⟨A',c',rfl,HROW.out⟩,HB.out⟩
open Go.RowKit Go.Maps
def layX (l : List Nat) (data : Bs) : List (Nat × Bs) := l.zipIdx.map fun c => (c.1,(data.drop (512 * c.2)).take 512)
def layC (l : List Nat) (data : Bs) : List Cmd := if l = [] then [] else wrs (layX l data) ++ [.sy]
theorem layX_length (l : List Nat) (data : Bs) : (layX l data).length = l.length := by simp [layX]
theorem layX_at (l : List Nat) (data : Bs) (k : Nat) (h : k < l.length) (h2 : k < (layX l data).length) : (layX l data)[k] = (l[k],(data.drop (512 * k)).take 512) := by simp [layX]
set_option maxRecDepth 100000 in
set_option maxHeartbeats 4000000 in
theorem lay_any (X : List Nat) (S D Lg M : Nat) (m : StoM) (A : Option Addr) (cap : Nat) (l : List Nat) (data : Bs) (w : World) (h : Sto w X S D Lg M m) (hA : Lies w A (ncells l)) (hAX : ∀ a,A = some a → a.block ∉ X) (hl : ∀ i ∈ l,i < m.ds.L.length) (hn : l.length ≤ 100000) (hd : data.length ≤ 1099511627776) (hS : m.ds.S.length ≤ 800000) :
  Calls Tryz.prog 80 #[.pointer (some ⟨S,0,none⟩), .slice A l.length cap, .string (mk data)] w fun e w' => e = .returned (.int .i64 ((DS.run (layC l data) m.ds).1 : Nat)) ∧ ∃ X',Dsk w' X' D (DS.run (layC l data) m.ds).2 ∧ Mv X X' w w' := by
 have HNX := Lib.hid (fun k hk h0 => wrs_next (layX l data) [.sy] m.ds k hk h0)
 have HAL := Lib.hid (wrs_all (layX l data) m.ds)
 have HLN := Lib.hid (fun k => wrs_len (layX l data) k m.ds)
 have HC := Lib.hid (show layC l data = if l = [] then [] else wrs (layX l data) ++ [.sy] from rfl)
 obtain ⟨R,hR⟩ : ∃ q,DS.run (wrs (layX l data) ++ [.sy]) m.ds = q := ⟨_,rfl⟩
 rw [hR] at HNX HAL
 have HR := Lib.hid hR
 obtain ⟨R0,hR0⟩ : ∃ q,DS.run (layC l data) m.ds = q := ⟨_,rfl⟩
 rw [hR0]
 have HR0 := Lib.hid hR0
 have HXL := Lib.hid (layX_length l data)
 have HXA := Lib.hid (fun k hk h2 => layX_at l data k hk h2)
 obtain ⟨n,hnn⟩ : ∃ n,l.length = n := ⟨_,rfl⟩
 rw [hnn] at hn HXL ⊢
 have HN := Lib.hid hnn
 have HA := Lib.hid (And.intro hA hAX)
 have HLM := Lib.hid hl
 have HSB := Lib.hid (And.intro h.blk h.apart.1)
 have HD := Lib.hid h.dsk
 obtain ⟨ds,hds⟩ : ∃ q,m.ds = q := ⟨_,rfl⟩
 rw [hds] at HNX HAL HLN HR HR0 HLM HD hS
 have HDL := Lib.hid hd
 have HSS := Lib.hid hS
 obtain ⟨cells,hcells⟩ : ∃ q,stoCells D Lg M m.T m.most m.off = q := ⟨_,rfl⟩
 rw [hcells] at HSB
 have HC0 := Lib.hid (show cells[0]? = some (.pointer (some ⟨D,0,none⟩)) by rw [← hcells];rfl)
 have mixed := mixedT
 have hstart : (mk data) = mk (data.drop (512 * 0)) := rfl
 obtain ⟨S0,hS0⟩ : ∃ q,mk data = q := ⟨_,rfl⟩
 rw [hS0] at hstart ⊢
 have HST := Lib.hid hstart
 clear h hA hAX hl hnn hR hR0 hds hd hS hcells hstart hS0
 go_enter Tryz.func80,Tryz.ntmps80
 go_wp2
 go_loopw [2,13] (fun dv i wr => ∃ k : Nat,k ≤ n ∧ i = .int .i64 k ∧ dv = .string (mk (data.drop (512 * k))) ∧ (DS.run (wrs ((layX l data).take k)) ds).1 = 0 ∧ ∃ X',Dsk wr X' D (DS.run (wrs ((layX l data).take k)) ds).2 ∧ Mv X X' w wr) (fun _ i _ => n - (intOf i).toNat)
 case atStart => exact ⟨0,Nat.zero_le _,rfl,by rw [HST.out],rfl,X,HD.out,Mv.refl _ _⟩
 case round =>
  obtain ⟨k,hk,rfl,rfl,h0,X1,hD1,hM1⟩ := hrel
  by_cases hlt : k < n
  ·have hkl : k < l.length := by rw [HN.out];exact hlt
   have hki : k < (layX l data).length := by rw [HXL.out];exact hlt
   obtain ⟨g,off,rfl,hgl,hcs⟩ := HA.out.1 (by rw [ncells_length];omega)
   have hgX : g ∉ X := HA.out.2 _ rfl
   have d0 := (hM1.frm.cell (p := ⟨g,off + k,none⟩) hgl hgX).trans (hcs _ _ (ncells_at l k hkl))
   have hgr : g < wr.heap.size := Nat.lt_of_lt_of_le hgl hM1.size
   have hq1 := HLM.out l[k] (List.getElem_mem hkl)
   obtain ⟨hnx,hst⟩ := HNX.out k hki h0
   obtain ⟨hl1,hl2⟩ := HLN.out k
   rw [HXA.out k hkl hki] at hnx hst
   obtain ⟨dk,hdk⟩ : ∃ q,(DS.run (wrs ((layX l data).take k)) ds).2 = q := ⟨_,rfl⟩
   rw [hdk] at hD1 hnx hst hl1 hl2
   obtain ⟨z,hz⟩ : ∃ z,l[k] = z := ⟨_,rfl⟩
   rw [hz] at d0 hq1 hnx hst
   dsimp only at hnx hst
   obtain ⟨dd,hdd⟩ : ∃ q,data.drop (512 * k) = q := ⟨_,rfl⟩
   have hdl : dd.length ≤ 1099511627776 := by rw [← hdd,List.length_drop];have := HDL.out;omega
   have hnext : data.drop (512 * (k + 1)) = dd.drop 512 := by rw [← hdd,List.drop_drop];congr 1
   rw [hdd] at hnx hst
   rw [hdd]
   have HNXT := Lib.hid hnext
   have zq := mk_size dd
   obtain ⟨q,hq⟩ : ∃ q,dd.length = q := ⟨_,rfl⟩
   rw [hq] at zq hdl
   obtain ⟨nn,hnn⟩ : ∃ t,min q 512 = t := ⟨_,rfl⟩
   have hmin : min (q : Int) 512 = (nn : Int) := by omega
   have hnq : nn ≤ q := by omega
   have hn5 : nn ≤ 512 := by omega
   have hsl1 := fun (w : World) => run_slice_string_h (P := Tryz.prog) (w := w) (t := 9) (s := mk dd) Tryz.underlying9 .i64 (nn : Int) (by omega) (by rw [zq];omega)
   have hsl2 := fun (w : World) => run_slice_string_l (P := Tryz.prog) (w := w) (t := 9) (s := mk dd) Tryz.underlying9 .i64 (nn : Int) (by omega) (by rw [zq];omega)
   have e1 : (mk dd).extract 0 nn = mk (dd.take 512) := by
    have := ext_mk' (mk dd) 0 nn
    rw [Nat.zero_add,mk_data,List.drop_zero] at this
    rw [this]
    by_cases h5 : q ≤ 512
    ·rw [List.take_of_length_le (by omega),List.take_of_length_le (by omega)]
    ·rw [show nn = 512 by omega]
   have e2 : (mk dd).extract nn q = mk (dd.drop 512) := by
    have := ext_mk' (mk dd) nn (q - nn)
    rw [Nat.add_sub_cancel' hnq,mk_data] at this
    rw [this,List.take_of_length_le (by rw [List.length_drop];omega)]
    by_cases h5 : q ≤ 512
    ·rw [List.drop_eq_nil_of_le (by omega),List.drop_eq_nil_of_le (by omega)]
    ·rw [show nn = 512 by omega]
   rw [Int.toNat_natCast,e1] at hsl1
   rw [Int.toNat_natCast,zq,e2] at hsl2
   obtain ⟨pc,hpc⟩ : ∃ t,dd.take 512 = t := ⟨_,rfl⟩
   have hpl : pc.length ≤ 512 := by rw [← hpc,List.length_take];omega
   rw [hpc] at hnx hst hsl1
   obtain ⟨DD,hDD⟩ : ∃ t,mk dd = t := ⟨_,rfl⟩
   obtain ⟨PC,hPC⟩ : ∃ t,mk pc = t := ⟨_,rfl⟩
   obtain ⟨NX,hNX⟩ : ∃ t,mk (dd.drop 512) = t := ⟨_,rfl⟩
   rw [hDD] at hsl1 hsl2 zq ⊢
   rw [hPC] at hsl1
   rw [hNX] at hsl2
   have HNX2 := Lib.hid hNX
   have hB1 := hM1.blk HSB.out.1 HSB.out.2
   have hSX1 := hM1.apart HSB.out.2 (Blk.lt HSB.out.1)
   have hx0 := (hB1.cell 0).trans HC0.out
   have hSl := hB1.lt
   have hnum := write_num dk z pc
   have hD2 := hD1.drew
   have KW := write_any X1 D dk z pc wr.drew hD2 (by rw [hl1];exact hq1) hpl (by have := HSS.out;omega)
   rw [hPC] at KW
   obtain ⟨d1p,hd1p⟩ : ∃ q,dk.write z pc = q := ⟨_,rfl⟩
   rw [hd1p] at KW hnum hnx hst
   obtain ⟨num,d2⟩ := d1p
   dsimp only at KW hnum hst
   have HRK := Lib.hid hnx
   have HSTP := Lib.hid hst
   have HM1 := Lib.hid hM1
   have k0 : (0 : Int) ≤ (k : Int) := by omega
   have k1 : (k : Int) < (n : Int) := by omega
   have hX0 := hx0
   have hZ := Lib.hid (And.intro hB1 hSX1)
   have q0i : (0 : Int) ≤ (q : Int) := by omega
   have HSL2 := Lib.hid hsl2
   have HSL1 := Lib.hid hsl1
   clear hnx hst hdk hz hdd hnext hdl hq hnn e1 e2 hpc hDD hPC hNX hd1p hD1 hM1 hcs hq1 hl1 hl2 hD2 h0 hgX hkl hki hpl hB1 hSX1 hX0
   go_upto_region 5 with (fail)
   refine wp_region_held (S := fun w' => w'.cell? ⟨S,0,none⟩ = some (.pointer (some ⟨D,0,none⟩))) mixed ?_
   change wpAnyH _ _ _ _ _ _ _ _ wr.drew
   have hS1 : wr.drew.cell? ⟨S,0,none⟩ = some (.pointer (some ⟨D,0,none⟩)) := hx0
   clear hx0 hsl1 hsl2
   refine tkQ 0 (.pointer (some ⟨S,0,none⟩)) rfl hS1 ?_
   try go_simp
   refine tkQ 1 (.pointer (some ⟨S,0,none⟩)) rfl hS1 ?_
   try go_simp
   refine tkQ 2 (.pointer (some ⟨S,0,none⟩)) rfl hS1 ?_
   try go_simp
   refine tkH 3 (.pointer (some ⟨D,0,none⟩)) rfl hS1 (fun w' hS => ?_) ?_
   ·have q0 := hS;go_simp
   try go_simp
   refine tkQ 4 (.int .i64 (z : Int)) rfl hS1 ?_
   try go_simp
   refine tkQ 5 (.string DD) rfl hS1 ?_
   try go_simp
   refine tkQ 6 (.int .i64 (nn : Int)) rfl hS1 ?_
   try go_simp
   refine tkH 7 (.string PC) rfl hS1 (fun w' hS => ?_) ?_
   ·clear hS;have hs1 := HSL1.out;go_simp
   try go_simp
   refine alH 8 ?_
   unfold wpOp
   go_simp
   refine .inl ?_
   go_at_call 56
   refine KW.mono ?_
   rintro e W1 ⟨rfl,X2,hD3,hM2⟩
   have hS2 : W1.cell? ⟨S,0,none⟩ = some (.pointer (some ⟨D,0,none⟩)) := (hM2.frm.cell (p := ⟨S,0,none⟩) hSl hZ.out.2).trans hS1
   refine ⟨hS2, ?_⟩
   rcases hnum with rfl | rfl
   ·
    refine tkQ 9 (.int .i64 0) rfl hS2 ?_
    try go_simp
    refine wpAnyH_done (by kernel_rfl) ?_ _
    have HD3 := Lib.hid hD3
    have HMF := Lib.hid (HM1.out.trans hM2.of_drew)
    have hsl2 := HSL2.out
    clear hS1 hS2 hD3 hM2 KW HSTP hnq hn5
    go_wp2
    go_roundw
    case rel => exact ⟨k + 1,by omega,by go_num,by rw [HNXT.out,HNX2.out],by rw [HRK.out],X2,by rw [HRK.out];exact HD3.out,HMF.out⟩
    case measure => simp [intOf];omega
   ·
    refine tkQ 9 (.int .i64 7) rfl hS2 ?_
    try go_simp
    refine wpAnyH_done (by kernel_rfl) ?_ _
    have HD3 := Lib.hid hD3
    have HMF := Lib.hid (HM1.out.trans hM2.of_drew)
    have HRE := Lib.hid (show R0 = (7,d2) by
     rw [← HR0.out,HC.out,if_neg (fun e => by have := HN.out;rw [e] at this;simp at this;omega),HR.out,HSTP.out (by decide)])
    clear hS1 hS2 hD3 hM2 KW HSTP hnq hn5
    go_wp2
    go_ret
    obtain rfl := HRE.out
    exact ⟨rfl,X2,HD3.out,HMF.out⟩
  ·obtain rfl : n = k := by omega
   have hal := HAL.out (by rw [HXL.out];exact h0)
   rw [HXL.out] at hal
   obtain ⟨dk,hdk⟩ : ∃ q,(DS.run (wrs ((layX l data).take n)) ds).2 = q := ⟨_,rfl⟩
   rw [hdk] at hD1 hal
   obtain ⟨DD,hDD⟩ : ∃ t,mk (data.drop (512 * n)) = t := ⟨_,rfl⟩
   rw [hDD]
   by_cases hn0 : n = 0
   ·have HRE := Lib.hid (show R0 = (0,dk) by
     rw [← HR0.out,HC.out,if_pos (List.eq_nil_of_length_eq_zero (by rw [HN.out];exact hn0)), ← hdk,hn0];rfl)
    have b1 : (n : Int) = 0 := by omega
    subst hn0
    have HD1 := Lib.hid hD1
    have HM1 := Lib.hid hM1
    clear hD1 hM1 hal hdk hDD h0 hlt
    go_wp2
    go_ret
    obtain rfl := HRE.out
    exact ⟨rfl,X1,HD1.out,HM1.out⟩
   ·have HRE := Lib.hid (show R0 = dk.sync by
     rw [← HR0.out,HC.out,if_neg (fun e => by have := HN.out;rw [e] at this;simp at this;omega),HR.out,hal])
    have b1 : ¬ ((n : Int) = 0) := by omega
    have b1b : ((n : Int) == 0) = false := by simpa using b1
    have KS := sync_any X1 D dk wr hD1
    have hB1 := hM1.blk HSB.out.1 HSB.out.2
    have hx0 := (hB1.cell 0).trans HC0.out
    have hSl := hB1.lt
    have HM1 := Lib.hid hM1
    clear hD1 hM1 hal hdk hDD h0 hlt hB1
    go_wp2_with (go_at_call 57;refine KS.mono ?_;rintro e W2 ⟨rfl,hD2,hF2⟩)
    go_ret
    obtain rfl := HRE.out
    exact ⟨rfl,X1,hD2,HM1.out.trans (.of_frm hF2)⟩
open Go.RowKit Go.Maps
theorem keyLaw3 : Keyed Tryz.prog 3 := int_keyed Tryz.underlying3
theorem zero9 (w : World) : (zeroValue 9).run Tryz.prog w = .ok (.string ⟨#[]⟩) w := by kernel_rfl
theorem wf64 (i : Int) (h0 : -9223372036854775808 ≤ i) (h1 : i ≤ 9223372036854775807) : (Lit.int .i64 i).wf = true := by
 have e0 : IntKind.i64.min = -9223372036854775808 := by decide
 have e1 : IntKind.i64.max = 9223372036854775807 := by decide
 simp [Lit.wf,e0,e1];omega
def chOf (C : List (Nat × Bs)) (i : Int) : Option Bs := (C.find? fun c => (c.1 : Int) == i).map (·.2)
def CM (w : World) (Mc : Nat) (C : List (Nat × Bs)) : Prop :=
 ∃ Dc : DataW Value,w.ownsMap Tryz.prog 3 rawE Mc C.length Dc ∧ C.Pairwise (fun a b => a.1 < b.1) ∧ Maps.size Dc = C.length ∧
  ∀ i : Int,Maps.has Dc (.int .i64 i) = (chOf C i).isSome ∧ ∀ z,Dc.atKey (.int .i64 i) z = ((chOf C i).map fun t => DataW.held (.string (mk t))).getD z
theorem CM.lt {w : World} {Mc : Nat} {C : List (Nat × Bs)} (h : CM w Mc C) : Mc < w.heap.size := by obtain ⟨Dc,h1,_⟩ := h;exact h1.lt
theorem CM.block {w w' : World} {Mc : Nat} {C : List (Nat × Bs)} (h : CM w Mc C) (hb : w'.heap[Mc]? = w.heap[Mc]?) : CM w' Mc C := by
 obtain ⟨Dc,⟨es,clock,h1,h3⟩,h2⟩ := h
 exact ⟨Dc,⟨es,clock,hb.trans h1,h3⟩,h2⟩
theorem CM.not_cells {w : World} {Mc g : Nat} {C : List (Nat × Bs)} (h : CM w Mc C) {cs : Array Value} {t : TypeId} {fr : Nat × Nat} (hg : w.heap[g]? = some (.cells cs t fr)) : g ≠ Mc := by
 obtain ⟨Dm,⟨es,clock,h1,_⟩,_⟩ := h
 rintro rfl
 rw [h1] at hg
 cases hg
theorem CM.made (w : World) : CM (w.alloc (.map #[] 0)) w.heap.size [] := ⟨.map [],World.ownsMap_made _ _ _ _,List.Pairwise.nil,rfl,fun _ => ⟨rfl,fun _ => rfl⟩⟩
theorem CM.look {w : World} {Mc : Nat} {C : List (Nat × Bs)} (h : CM w Mc C) (i : Nat) (hi : i ≤ 1000000) : (Instr.lookup 102 (.map (some Mc)) (.int .i64 (i : Int)) false).run Tryz.prog w = .ok (.string (mk ((chOf C i).getD []))) w := by
 obtain ⟨Dc,h1,_,_,h4⟩ := h
 obtain ⟨v,ps,hrun,hv⟩ := h1.lookup keyLaw3 Tryz.underlying102 (zero9 w) (zd := .held (.string ⟨#[]⟩)) (zp := []) rfl (keyOf_int_mk (a := (i : Int)) Tryz.underlying3 (wf64 i (by omega) (by omega)))
 rw [(h4 i).2] at hv
 have hv' := rawE_inv hv
 rw [hrun]
 cases hf : chOf C (i : Int) with
 | none => rw [hf] at hv';simp at hv';rw [← hv'];rfl
 | some t => rw [hf] at hv';simp at hv';rw [← hv'];rfl
theorem chOf_mem {C : List (Nat × Bs)} (h : C.Pairwise (fun a b => a.1 < b.1)) {c : Nat × Bs} (hc : c ∈ C) : chOf C (c.1 : Int) = some c.2 := by
 unfold chOf
 induction C with
 | nil => cases hc
 | cons a C ih =>
  rw [List.pairwise_cons] at h
  rw [List.find?_cons]
  rcases List.mem_cons.1 hc with rfl | hc
  ·simp
  ·have := h.1 c hc
   rw [beq_eq_false_iff_ne.2 (by omega)]
   exact ih h.2 hc
theorem chOf_some {C : List (Nat × Bs)} {i : Int} (h : (chOf C i).isSome = true) : ∃ c ∈ C,(c.1 : Int) = i := by
 unfold chOf at h
 rw [Option.isSome_map] at h
 obtain ⟨c,hc⟩ := Option.isSome_iff_exists.1 h
 exact ⟨c,List.mem_of_find?_eq_some hc,by simpa using List.find?_some hc⟩
theorem CM.keys {w : World} {Mc : Nat} {C : List (Nat × Bs)} {Dc : DataW Value} (hown : w.ownsMap Tryz.prog 3 rawE Mc C.length Dc) (hp : C.Pairwise (fun a b => a.1 < b.1)) (hh : ∀ i : Int,Maps.has Dc (.int .i64 i) = (chOf C i).isSome) (ss : List Int) (hs : ss.Perm (intKeys Dc)) :
  ss.mergeSort (fun x y => decide (x ≤ y)) = C.map fun c => (c.1 : Int) := by
 have hpw : (C.map fun c => (c.1 : Int)).Pairwise (fun a b => a < b) := List.pairwise_map.2 (hp.imp fun h => by omega)
 have h1 : (C.map fun c => (c.1 : Int)).Perm (intKeys Dc) := CollectedI.perm (left := fun _ => false) ⟨hpw.imp fun h => Int.ne_of_lt h,fun x => by
  rw [hh x]
  simp only [and_true]
  constructor
  ·intro hx
   obtain ⟨c,hc,rfl⟩ := List.mem_map.1 hx
   rw [chOf_mem hp hc];rfl
  ·intro hx
   obtain ⟨c,hc,rfl⟩ := chOf_some hx
   exact List.mem_map.2 ⟨c,hc,rfl⟩⟩ hown keyLaw3 Tryz.underlying3 (fun _ => rfl)
 have h2 := mergeSort_of_perm_i (hs.trans h1.symm)
 have h3 : (C.map fun c => (c.1 : Int)).mergeSort leI = C.map fun c => (c.1 : Int) := List.mergeSort_of_pairwise (hpw.imp fun h => by simp only [leI,decide_eq_true_eq];omega)
 exact h2.trans h3
theorem CM.store {w : World} {Mc : Nat} {C C' : List (Nat × Bs)} (h : CM w Mc C) (i : Nat) (t : Bs) (hi : i ≤ 1000000) (hl : C.length ≤ 1000) (hp : C'.Pairwise (fun a b => a.1 < b.1)) (hlen : C'.length = C.length + 1) (hnew : chOf C (i : Int) = none) (hC : ∀ k : Int,chOf C' k = if k = (i : Int) then some t else chOf C k) :
  ∃ w',(Instr.mapUpdate 102 (.map (some Mc)) (.int .i64 (i : Int)) (.string (mk t))).run Tryz.prog w = .ok () w' ∧ CM w' Mc C' ∧ w.grownBy w' (some Mc) := by
 obtain ⟨Dc,h1,h2,h3,h4⟩ := h
 obtain ⟨w',hrun,hown,hg⟩ := h1.update keyLaw3 Tryz.underlying102 (by unfold maxLen;omega) (keyOf_int_mk (a := (i : Int)) Tryz.underlying3 (wf64 i (by omega) (by omega))) (val := .string (mk t)) (d := .held (.string (mk t))) (ps := []) rfl
 have hsz : Maps.size (Dc.put (.int .i64 (i : Int)) (.held (.string (mk t)))) = C'.length := by rw [size_put (h1.tidy keyLaw3),(h4 i).1,hnew,h3,hlen];rfl
 refine ⟨w',hrun,⟨_,by rw [← hsz];exact own_tight hown,hp,hsz,fun k => ?_⟩,hg⟩
 by_cases hk : k = (i : Int)
 ·subst hk
  rw [hC,if_pos rfl]
  refine ⟨by rw [has_put_same (k := .int .i64 (i : Int)) h1.isMap trivial];rfl,fun z => ?_⟩
  rw [atKey_put_same (k := .int .i64 (i : Int)) h1.isMap trivial];rfl
 ·rw [hC,if_neg hk]
  have hne : (Lit.int .i64 k) ≠ .int .i64 (i : Int) := fun e => hk (by injection e)
  exact ⟨by rw [has_put_other hne,(h4 k).1],fun z => by rw [atKey_put_other hne,(h4 k).2 z]⟩
theorem chOf_one (i : Nat) (t : Bs) (k : Int) : chOf [(i,t)] k = if k = (i : Int) then some t else none := by
 unfold chOf
 rw [List.find?_cons]
 by_cases h : k = (i : Int)
 ·subst h;simp
 ·rw [if_neg h,beq_eq_false_iff_ne.2 (fun e => h e.symm)];rfl
theorem CM.one {w : World} {Mc : Nat} (h : CM w Mc []) (i : Nat) (t : Bs) (hi : i ≤ 1000000) :
  ∃ w',(Instr.mapUpdate 102 (.map (some Mc)) (.int .i64 (i : Int)) (.string (mk t))).run Tryz.prog w = .ok () w' ∧ CM w' Mc [(i,t)] ∧ w.grownBy w' (some Mc) :=
 h.store i t hi (by simp) (by simp) rfl rfl (fun k => by rw [chOf_one];rfl)
def two2 (i : Nat) (t : Bs) (j : Nat) (u : Bs) : List (Nat × Bs) := if i < j then [(i,t),(j,u)] else [(j,u),(i,t)]
theorem CM.two {w : World} {Mc : Nat} (i j : Nat) (t u : Bs) (h : CM w Mc [(i,t)]) (hj : j ≤ 1000000) (hne : i ≠ j) :
  ∃ w',(Instr.mapUpdate 102 (.map (some Mc)) (.int .i64 (j : Int)) (.string (mk u))).run Tryz.prog w = .ok () w' ∧ CM w' Mc (two2 i t j u) ∧ w.grownBy w' (some Mc) := by
 refine h.store j u hj (by simp) ?_ ?_ ?_ (fun k => ?_)
 ·unfold two2
  split
  ·simp;assumption
  ·simp;omega
 ·unfold two2;split <;> rfl
 ·rw [chOf_one,if_neg (by omega)]
 ·rw [chOf_one]
  unfold two2 chOf
  split
  ·rw [List.find?_cons,List.find?_cons]
   by_cases h1 : k = (i : Int)
   ·subst h1;rw [if_neg (by omega)];simp
   ·rw [beq_eq_false_iff_ne.2 (fun e => h1 e.symm)]
    by_cases h2 : k = (j : Int)
    ·subst h2;simp
    ·rw [if_neg h2,if_neg h1]
     simp only [beq_eq_false_iff_ne.2 (fun e => h2 e.symm : (j : Int) ≠ k)]
     rfl
  ·rw [List.find?_cons,List.find?_cons]
   by_cases h2 : k = (j : Int)
   ·subst h2;simp
   ·rw [if_neg h2]
    simp only [beq_eq_false_iff_ne.2 (fun e => h2 e.symm : (j : Int) ≠ k)]
    by_cases h1 : k = (i : Int)
    ·subst h1;simp
    ·rw [if_neg h1]
     simp only [beq_eq_false_iff_ne.2 (fun e => h1 e.symm : (i : Int) ≠ k)]
     rfl
theorem keysOf_any (Mc : Nat) (w : World) : Calls Tryz.prog 89 #[.map (some Mc)] w fun e w' => e = .returned (.func (.func 114) #[] #[.pointer (some ⟨w.heap.size,0,none⟩)]) ∧ w' = w.alloc (.cells #[.map (some Mc)] 102) :=
 callsIn_wide.1 (Tryz.maps_Keys_89 (some Mc) w)
theorem sorted_any (Mc : Nat) (C : List (Nat × Bs)) (w : World) (h : CM w Mc C) (hl : C.length ≤ 1000) :
  Calls Tryz.prog 88 #[.func (.func 114) #[] #[.pointer (some ⟨w.heap.size,0,none⟩)]] (w.alloc (.cells #[.map (some Mc)] 102)) fun e w' =>
   ∃ A c,e = .returned (.slice A C.length c) ∧ w'.ownsRow (w.heap.size + 1) 3 1 (.slice A C.length c) C.length (ncells (C.map (·.1))) ∧ Below (w.heap.size + 1) (w.alloc (.cells #[.map (some Mc)] 102)) w' := by
 obtain ⟨Dc,h1,h2,h3,h4⟩ := h
 refine (callsIn_wide.1 (Tryz.slices_Sorted_keys_88_89 Mc C.length Dc rawE w h1 (by rw [h3];unfold maxLen;omega) (by omega))).mono ?_
 rintro e w' ⟨v,ss,rfl,hp,hrow,_,hb⟩
 have hk := CM.keys h1 h2 (fun i => (h4 i).1) ss hp
 have hlen : ss.length = C.length := by have := congrArg List.length hk;simpa using this
 rw [hk,hlen,World.size_alloc] at hrow
 rw [World.size_alloc] at hb
 obtain ⟨A,c,rfl⟩ := row_form hrow
 refine ⟨A,c,rfl, ?_,hb⟩
 have e : (C.map fun c => (c.1 : Int)).map encZ = ncells (C.map (·.1)) := by simp [ncells]
 rw [e] at hrow
 exact hrow
open Go.RowKit Go.Maps
def settleX (T : List Bool) (C : List (Nat × Bs)) : List (Nat × Bs) := (1,packB T) :: C.map fun c => (2 + c.1,c.2)
def settleC (most : Nat) (T : List Bool) (C : List (Nat × Bs)) : List Cmd := commitC (settleX T C) (2 + most)
theorem settleX_length (T : List Bool) (C : List (Nat × Bs)) : (settleX T C).length = C.length + 1 := by simp [settleX]
theorem settleX_take (T : List Bool) (C : List (Nat × Bs)) (k : Nat) (h : k < C.length) : (settleX T C).take (k + 1 + 1) = (settleX T C).take (k + 1) ++ [(2 + C[k].1,C[k].2)] := by
 unfold settleX
 rw [List.take_succ_cons,List.take_succ_cons, ← List.map_take, ← List.map_take,List.take_succ_eq_append_getElem h,List.map_append];rfl
theorem own_new {w : World} {B g c : Nat} {e : TypeId} {cs : List Value} {size n : Nat} (h : w.heap[g]? = some (.cells cs.toArray e (0,0))) (hB : B ≤ g) (hl : cs.length = c * size) (hn : n = c) (hc : c ≤ 1000000) : w.ownsRow B e size (.slice (some ⟨g,0,none⟩) n c) n cs := by
 subst hn
 exact ⟨hl, .inr ⟨g,n,cs.toArray,rfl,hB,h,Nat.le_refl _,by unfold maxLen;omega,by simp [hl],by simp [← hl]⟩⟩
def SetP (X : List Nat) (S D Lg M : Nat) (m : StoM) (T : List Bool) (C : List (Nat × Bs)) (w : World) (e : Ending) (w' : World) : Prop :=
 e = .returned (.int .i64 ((DS.run (settleC m.most T C) m.ds).1 : Nat)) ∧ ∃ X',Mv (S :: X) (S :: X') w w' ∧
  ((DS.run (settleC m.most T C) m.ds).1 = 0 → Sto w' X' S D Lg M ⟨(DS.run (settleC m.most T C) m.ds).2,m.F,T,m.most,m.off⟩) ∧
  ((DS.run (settleC m.most T C) m.ds).1 ≠ 0 → Sto w' X' S D Lg M ⟨(DS.run (settleC m.most T C) m.ds).2,m.F,m.T,m.most,true⟩)
theorem Mv.cons {X X' : List Nat} {w w' : World} (h : Mv X X' w w') (S : Nat) : Mv (S :: X) (S :: X') w w' :=
 ⟨h.frm.mono (fun x hx => List.mem_cons_of_mem _ hx),fun x hx => by
  rcases List.mem_cons.1 hx with rfl | hx
  ·exact .inl (List.mem_cons_self ..)
  ·exact (h.sub x hx).imp (List.mem_cons_of_mem _) id⟩
set_option maxRecDepth 100000 in
set_option maxHeartbeats 4000000 in
theorem settle_any (X : List Nat) (S D Lg M Mc : Nat) (m : StoM) (T : List Bool) (C : List (Nat × Bs)) (w : World) (h : Sto w X S D Lg M m) (hC : CM w Mc C) (hT : T.length = m.T.length) (hTb : T.length ≤ 4096) (hn : C.length ≤ 2) (hcx : ∀ c ∈ C,c.1 < m.most ∧ c.2.length ≤ 512)
  (hm : 1 ≤ m.most ∧ m.most ≤ 256) (hL : m.most + 7 ≤ m.ds.L.length) (hS : m.ds.S.length ≤ 900000) :
  Calls Tryz.prog 50 #[.pointer (some ⟨S,0,none⟩),spv T, .map (some Mc)] w (SetP X S D Lg M m T C w) := by
 obtain ⟨i156,hi0,hi1,hi2,hi3⟩ := info_parts info156
 have KB := bytes_any T (w.alloc (.cells #[.int .i64 T.length, .string (mk (packB T))] 76))
 unfold spv at KB ⊢
 unfold SetP settleC
 have KK := keysOf_any Mc
 have KS := fun (w2 : World) (hc : CM w2 Mc C) => sorted_any Mc C w2 hc (by omega)
 have HX0 := Lib.hid (show (settleX T C).take 1 = [(1,packB T)] from rfl)
 have HXK := Lib.hid (fun k hk => settleX_take T C k hk)
 have HXL := Lib.hid (settleX_length T C)
 have HLK := Lib.hid (fun (c : Nat × Bs) hc (w2 : World) (hcm : CM w2 Mc C) => (show (Instr.lookup 102 (.map (some Mc)) (.int .i64 (c.1 : Int)) false).run Tryz.prog w2 = .ok (.string (mk c.2)) w2 by
  have := hcm.look c.1 (by have := (hcx c hc).1;omega)
  obtain ⟨_,_,hp,_⟩ := hcm
  rwa [chOf_mem hp hc] at this))
 have hxv : ∀ c ∈ settleX T C,mayB m.ds.L.length (2 + m.most) 5 c.1 = true ∧ c.2.length ≤ 512 := fun c hc => by
  unfold settleX at hc
  rcases List.mem_cons.1 hc with rfl | hc
  ·refine ⟨?_,by rw [packB_length];omega⟩
   unfold mayB ownB;simp;omega
  ·obtain ⟨d,hd,rfl⟩ := List.mem_map.1 hc
   have := hcx d hd
   refine ⟨?_,this.2⟩
   unfold mayB ownB;simp;omega
 have KC := fun (A : Option Addr) (cap : Nat) (w1 : World) (hD : Dsk w1 X D m.ds) hW hb hA hAX hT hw h0 => commit_any X D m.ds Lg (2 + m.most) 5 A cap (settleX T C) w1 hD hW hb hA hAX hxv (by rw [HXL.out];omega) (by rw [HXL.out];omega) (by rw [HXL.out];omega) (by omega) (by omega) hT hw h0
 unfold RunP at KC
 have HSTO := Lib.hid h
 have HCM := Lib.hid hC
 have HCX := Lib.hid hcx
 have x1 := h.blk.cell 1
 simp at x1
 have hSl := h.blk.lt
 obtain ⟨R,hR⟩ : ∃ q,DS.run (commitC (settleX T C) (2 + m.most)) m.ds = q := ⟨_,rfl⟩
 have hnum := run_num (commitC (settleX T C) (2 + m.most)) m.ds
 rw [hR] at hnum
 simp only [hR] at KC ⊢
 obtain ⟨num,d2⟩ := R
 dsimp only at KC hnum ⊢
 obtain ⟨tl,htl⟩ : ∃ q,T.length = q := ⟨_,rfl⟩
 obtain ⟨PB,hPB⟩ : ∃ q,mk (packB T) = q := ⟨_,rfl⟩
 rw [htl,hPB] at KB ⊢
 have HPB := Lib.hid (And.intro htl hPB)
 obtain ⟨n,hnn⟩ : ∃ q,C.length = q := ⟨_,rfl⟩
 rw [hnn] at hn HXL
 simp only [hnn] at KS
 have HN := Lib.hid hnn
 have HM := Lib.hid (And.intro hm hT)
 have hmb : m.most ≤ 256 := hm.2
 clear h hC hT hTb hcx hm hL hS hxv hR htl hPB hnn
 go_enter Tryz.func50,Tryz.ntmps50
 have hbx := below_alloc w (.cells #[.int .i64 tl, .string PB] 76)
 have HBX := Lib.hid (And.intro hbx (Blk.new w #[.int .i64 tl, .string PB] 76))
 clear hbx
 go_upto_region 2 with (go_at_call 87;refine KB.mono ?_;rintro e w1 ⟨rfl,hb1⟩;have HB1 := Lib.hid hb1;have hs1 := hb1.size;clear hb1)
 have hbw1 := HBX.out.1.trans (HB1.out.mono (by simp))
 have hbw2 := hbw1.alloc hbw1.size (.cells #[.int .i64 1, .string PB] 156)
 have hrow2 : (w1.alloc (.cells #[.int .i64 1, .string PB] 156)).ownsRow w.heap.size 156 2 (.slice (some ⟨w1.heap.size,0,none⟩) 1 1) 1 (scells ((settleX T C).take 1)) := by
  rw [HX0.out]
  have e : scells [((1 : Nat),packB T)] = [.int .i64 1, .string PB] := by rw [← HPB.out.2];rfl
  rw [e]
  exact own_new (heap_alloc_new w1 _) hbw1.size rfl rfl (by omega)
 have hbx2 := (Blk.below HBX.out.2 (by simpa using HB1.out)).alloc (.cells #[.int .i64 1, .string PB] 156)
 have hcm2 : CM (w1.alloc (.cells #[.int .i64 1, .string PB] 156)) Mc C := HCM.out.block (hbw2.block Mc HCM.out.lt)
 have hz2 : w.heap.size < (w1.alloc (.cells #[.int .i64 1, .string PB] 156)).heap.size := hbx2.lt
 obtain ⟨Z,hZ⟩ : ∃ q,w1.heap.size = q := ⟨_,rfl⟩
 obtain ⟨H,hH⟩ : ∃ q,w.heap.size = q := ⟨_,rfl⟩
 obtain ⟨W2,hW2⟩ : ∃ q,w1.alloc (.cells #[.int .i64 1, .string PB] 156) = q := ⟨_,rfl⟩
 rw [hZ] at hrow2
 simp only [hZ,hH,hW2] at hrow2 hbw2 hbx2 hcm2 hz2 ⊢
 have HH := Lib.hid hH
 have HR2 := Lib.hid hrow2
 have HB2 := Lib.hid hbw2
 have HX2 := Lib.hid hbx2
 have HC2 := Lib.hid hcm2
 have K2 := KS W2 hcm2
 clear hrow2 hbw1 hbw2 hbx2 hcm2 hZ hH hW2 hs1 HB1 HBX KB
 go_wp2_with (first
  | (go_at_call 89;refine (KK _).mono ?_;rintro e w3 ⟨rfl,rfl⟩)
  | (go_at_call 88;refine K2.mono ?_;rintro e w4 ⟨Ak,ck,rfl,hkr,hb4⟩;have HKR := Lib.hid hkr;have HB4 := Lib.hid hb4;clear hkr hb4 K2))
 have hba := (below_alloc W2 (.cells #[.map (some Mc)] 102)).trans (HB4.out.mono (Nat.le_succ _))
 have hst4 : w4.ownsRow H 156 2 (.slice (some ⟨Z,0,none⟩) 1 1) (0 + 1) (scells ((settleX T C).take (0 + 1))) ∧ Below H w w4 ∧ Lies w4 Ak (ncells (C.map (·.1))) ∧ Typed w4 Ak 3 ∧ Blk w4 H #[.int .i64 tl, .string PB] 76 :=
  ⟨own_below HR2.out hba,HB2.out.trans (hba.mono (by have := HB2.out.size;rw [HH.out] at this;exact this)),Lies.of_row HKR.out,Typed.of_row HKR.out,HX2.out.below hba⟩
 have HST4 := Lib.hid hst4
 clear hba hst4
 go_loopw [7,19] (fun v i wr => ∃ k : Nat,k ≤ n ∧ i = .int .i64 k ∧ wr.ownsRow H 156 2 v (k + 1) (scells ((settleX T C).take (k + 1))) ∧ Below H w wr ∧ Lies wr Ak (ncells (C.map (·.1))) ∧ Typed wr Ak 3 ∧ Blk wr H #[.int .i64 tl, .string PB] 76) (fun _ i _ => n - (intOf i).toNat)
 case atStart => exact ⟨0,Nat.zero_le _,rfl,HST4.out⟩
 case round =>
  obtain ⟨k,hk,rfl,hrow,hb,hl,ht,hbx⟩ := hrel
  by_cases hlt : k < n
  ·have hkl : k < C.length := by rw [HN.out];exact hlt
   obtain ⟨g,off,rfl,hgl,hcs⟩ := hl (by rw [ncells_length,List.length_map];omega)
   have d0 := hcs k _ (ncells_at (C.map (·.1)) k (by rw [List.length_map];exact hkl))
   rw [List.getElem_map] at d0
   have hcm : CM wr Mc C := HCM.out.block (hb.block Mc (by rw [← HH.out];exact HCM.out.lt))
   have hcx := HCX.out C[k] (List.getElem_mem hkl)
   have hlk := HLK.out C[k] (List.getElem_mem hkl) wr hcm
   have HTX := Lib.hid (HXK.out k hkl)
   obtain ⟨c,hc⟩ : ∃ q,C[k] = q := ⟨_,rfl⟩
   rw [hc] at d0 hcx hlk HTX
   obtain ⟨z,t⟩ := c
   dsimp only at d0 hcx hlk HTX
   obtain ⟨Y,hY⟩ : ∃ q,mk t = q := ⟨_,rfl⟩
   rw [hY] at hlk
   have HY := Lib.hid hY
   have hzb : z ≤ 256 := by omega
   have HROW := Lib.hid hrow
   have HB := Lib.hid hb
   have HTL := Lib.hid (And.intro hl (And.intro ht hbx))
   have k0 : (0 : Int) ≤ (k : Int) := by omega
   have k1 : (k : Int) < (n : Int) := by omega
   have z0 : (0 : Int) ≤ (z : Int) := by omega
   have z1 : (z : Int) ≤ 256 := by omega
   have hnw := World.news_of_block (cs := #[.int .i64 (2 + (z : Int)), .string Y]) (heap_alloc_new wr (.cells #[.int .i64 (2 + (z : Int)), .string Y] 156))
   have hr2 := World.ownsRow.alloc hrow (.cells #[.int .i64 (2 + (z : Int)), .string Y] 156)
   have hb2 := hb.alloc (by have := hb.size;rw [HH.out] at this;exact this) (.cells #[.int .i64 (2 + (z : Int)), .string Y] 156)
   have hl2 : Lies (wr.alloc (.cells #[.int .i64 (2 + (z : Int)), .string Y] 156)) (some ⟨g,off,none⟩) (ncells (C.map (·.1))) := hl.below (Nat.le_refl _) (below_alloc _ _)
   have ht2 : Typed (wr.alloc (.cells #[.int .i64 (2 + (z : Int)), .string Y] 156)) (some ⟨g,off,none⟩) 3 := ht.below (below_alloc _ _)
   have hbx2 := hbx.alloc (.cells #[.int .i64 (2 + (z : Int)), .string Y] 156)
   have HNW := Lib.hid (And.intro hnw (And.intro hr2 (And.intro hb2 (And.intro hl2 (And.intro ht2 hbx2)))))
   have hszw : H ≤ wr.heap.size := by have := hb.size;rw [HH.out] at this;exact this
   clear hrow hb hl ht hbx hcs hc hcm hcx hY hnw hr2 hb2 hl2 ht2 hbx2 hkl
   go_wp2_with (at_builtin;refine wpList_append_lies _ rfl (.tmp 23) (.tmp 30) 157 rfl H 156 i156 _ 2 24 Tryz.underlying157 hi0 hi1 hi2 hi3 rfl (by decide) u7 (k + 1) _ rfl HNW.out.2.1 ⟨_,0,none⟩ 1 1 [.int .i64 (2 + (z : Int)), .string Y] rfl rfl HNW.out.1 (by simp [Value.oneCell']) (by omega) (by unfold maxLen;omega) (by omega) (by simp;omega) _ rfl ?_;intro g3 c3 W3 hS3 hg3 _ _;have HS3 := Lib.hid hS3;have HG3 := Lib.hid hg3;clear hS3 hg3)
   have hnw := HNW.out
   have hlt3 := hnw.2.2.2.1.grown hnw.2.2.2.2.1 HG3.out (fun x hx => by
    obtain ⟨cs,fr,hc⟩ := row_kind hnw.2.1 x hx
    exact ⟨cs,156,fr,hc,by decide⟩)
   have hbx3 := hnw.2.2.2.2.2.grown HG3.out (own_ne_blk hnw.2.1 hnw.2.2.2.2.2 (by decide))
   have hb3 := hnw.2.2.1.grown HG3.out (by simp;have := HH.out;omega) (fun x hx => (hnw.2.1.lt x hx).1)
   have hrow3 : W3.ownsRow H 156 2 (.slice (some ⟨g3,0,none⟩) (k + 1 + 1) c3) (k + 1 + 1) (scells ((settleX T C).take (k + 1 + 1))) := by
    rw [HTX.out,scells_snoc,HY.out]
    have := HS3.out
    rw [show ((2 + z : Nat) : Int) = 2 + (z : Int) by omega]
    exact this
   have HF := Lib.hid (And.intro hrow3 (And.intro hb3 (And.intro hlt3.1 (And.intro hlt3.2 hbx3))))
   clear hnw hlt3 hbx3 hb3 hrow3
   go_roundw
   case rel => exact ⟨k + 1,by omega,by go_num,HF.out⟩
   case measure => simp [intOf];omega
  ·obtain rfl : n = k := by omega
   obtain ⟨A',c',rfl⟩ := row_form hrow
   rw [List.take_of_length_le (by rw [HXL.out];exact Nat.le_refl _)] at hrow
   have hbw : Below w.heap.size w wr := by rw [HH.out];exact hb
   have hst := HSTO.out.below hbw
   have hrl := Lies.of_row hrow
   have hAX : ∀ a,(A' : Option Addr) = some a → a.block ∉ X := fun a ha hx => by
    have h1 := HSTO.out.dsk.lt _ hx
    have h2 := (hrow.lt a.block (by rw [ha];rfl)).1
    have := HH.out
    omega
   have KCM := KC A' c' wr hst.dsk hst.log hst.apart.2.1 hrl hAX hst.tb hst.pos hst.apart.2.2.2
   rw [HXL.out] at KCM
   have x1w := (hbw.cell (p := ⟨S,1,none⟩) hSl).trans x1
   have hSw : S < wr.heap.size := Nat.lt_of_lt_of_le hSl hbw.size
   have HST := Lib.hid hst
   have HBW := Lib.hid hbw
   have HBXR := Lib.hid hbx
   clear hrow hb hl ht hbx hbw hst hrl hAX KC x1
   go_upto_region 8 with (go_at_call 90;refine KCM.mono ?_;rintro e W4 ⟨rfl,X2,hD4,hM4⟩)
   have hst4 := HST.out.disk hD4 hM4
   have hHX : H ∉ X := fun hx => by have := HSTO.out.dsk.lt _ hx;have := HH.out;omega
   have hbx4 := hM4.blk HBXR.out hHX
   have hmv := (((Mv.of_below X HBW.out).trans hM4).cons S)
   have c5 := hst4.blk.cell 6
   have c2 := hst4.blk.cell 2
   have c3 := hst4.blk.cell 3
   have f5 := hst4.blk.frozen 6
   have f2 := hst4.blk.frozen 2
   have f3 := hst4.blk.frozen 3
   simp at c5 c2 c3
   have hS4 := hst4.blk.lt
   have b0 := hbx4.cell 0
   have b1 := hbx4.cell 1
   simp at b0 b1
   have hH4 := hbx4.lt
   rcases hnum with rfl | rfl
   ·have hg := grown_set2 W4 S 2 3 (.int .i64 tl) (.string PB)
    have hbS := (hst4.blk.set 2 (.int .i64 tl)).set 3 (.string PB)
    have hfin := hst4.own hg (T := T) (off := m.off) (by
     rw [HPB.out.1.symm] at hbS ⊢
     rw [← HPB.out.2] at hbS ⊢
     simpa using hbS)
    have HF := Lib.hid (And.intro hfin (hmv.trans (Mv.of_grown hg (List.mem_cons_self ..))))
    clear hst4 hD4 hM4 hbx4 hmv hg hbS hfin hHX KCM
    go_wp2
    go_ret
    exact ⟨rfl,X2,HF.out.2,HF.out.1⟩
   ·have hg := grown_set W4 S 6 (.bool true)
    have hbS := hst4.blk.set 6 (.bool true)
    have hfin := hst4.own hg (T := m.T) (off := true) (by simpa using hbS)
    have HF := Lib.hid (And.intro hfin (hmv.trans (Mv.of_grown hg (List.mem_cons_self ..))))
    clear hst4 hD4 hM4 hbx4 hmv hg hbS hfin hHX KCM
    go_wp2
    go_ret
    exact ⟨rfl,X2,HF.out.2,HF.out.1⟩
open Go.RowKit Go.Maps
def vacN (F : List FileM) (most : Nat) : Option Nat := ((List.range most).map fun i => F.any fun f => f.entry == i).findIdx? (· == false)
def vacI (F : List FileM) (most : Nat) : Int := match vacN F most with
 | some i => i
 | none => -1
theorem wpList_next_files {w : World} {ops : Array Oper} {rest : List Oper} {o : Oper} {a : Act} {Q : Exit → Act → World → Prop} (hg : o.guard = none) (it : Operand) (hop : o.op = Op.next it false) (M r n : Nat) (Dm : DataW Value) (ad : AdM) (F : List FileM) (left : Lit → Bool) (cnt : Nat)
  (hit : a.eval it = .pointer (some ⟨r,0,none⟩)) (h : w.ranges Tryz.prog 9 rawE M r n Dm left cnt) (hF : ∀ t : Bs,Maps.has Dm (.string t) = (fileOf F t).isSome ∧ ∀ z,Dm.atKey (.string t) z = ((fileOf F t).map fun f => DataW.held (inoV ad f)).getD z)
  (hDone : (∀ kl,left kl = false) → wpList Tryz.prog ops Q rest (a.put o.dst (.tuple #[.bool false])) w)
  (hMore : ∀ (f : FileM) (w' : World) (cnt' : Nat),f ∈ F → w'.ranges Tryz.prog 9 rawE M r n Dm (fun z => left z && !z.sameKey (.string f.name)) cnt' → cnt' < cnt → w.grownBy w' (some r) → w'.heap.size = w.heap.size →
   (Instr.entry (.pointer (some ⟨r,0,none⟩))).run Tryz.prog w' = .ok (.tuple #[.string (mk f.name),inoV ad f]) w' → wpList Tryz.prog ops Q rest (a.put o.dst (.tuple #[.bool true, .string (mk f.name),inoV ad f])) w') :
  wpList Tryz.prog ops Q (o :: rest) a w := by
 refine wpList_plain hg fun K' hK' => ?_
 unfold Oper.wp
 rcases h.next keyLaw9 o.type with ⟨_,hl,hrun⟩ | ⟨key,v,kl,y,w',cnt',hkey,_,hv,hat,hrun,hrg,hlt,hgr,hsz,hen⟩
 ·simp [execOp,hop,hit,hrun,Result.andThen]
  exact hK' _ _ (hDone hl)
 ·obtain ⟨x,rfl,rfl,_⟩ := Maps.keyOf_str Tryz.underlying9 hkey
  have hhas : Maps.has Dm (.string x) = true := has_true_of_atKey hat
  rw [(hF x).1] at hhas
  obtain ⟨f,hf⟩ := Option.isSome_iff_exists.1 hhas
  have hx := fileOf_name hf
  subst hx
  have hv2 : y.1 = .held v := rawE_inv (ps := y.2) hv
  have h3 := hat (.held inoZ)
  rw [(hF f.name).2,hf,hv2] at h3
  simp only [Option.map_some,Option.getD_some,DataW.held.injEq] at h3
  subst h3
  have hms : (encStr f.name) = .string (mk f.name) := rfl
  rw [hms] at hrun hen
  simp [execOp,hop,hit,hrun,Result.andThen]
  exact hK' _ _ (hMore f w' cnt' (fileOf_mem hf) hrg hlt hgr hsz hen)
def tkB (F : List FileM) (left : Lit → Bool) (most : Nat) : List Value := (List.range most).map fun i => .bool (F.any fun f => f.entry == i && !left (.string f.name))
theorem tkB_length (F : List FileM) (left : Lit → Bool) (most : Nat) : (tkB F left most).length = most := by simp [tkB]
theorem tkB_start (F : List FileM) (left : Lit → Bool) (most : Nat) (h : ∀ f ∈ F,left (.string f.name) = true) : tkB F left most = List.replicate most (.bool false) := by
 unfold tkB
 rw [List.eq_replicate_iff]
 refine ⟨by simp,fun v hv => ?_⟩
 obtain ⟨i,_,rfl⟩ := List.mem_map.1 hv
 rw [List.any_eq_false.2 (fun f hf => by rw [h f hf];simp)]
theorem name_inj : ∀ {F : List FileM},(F.map (·.name)).Nodup → ∀ {f g : FileM},f ∈ F → g ∈ F → f.name = g.name → f = g
 | [],_,_,_,h,_,_ => by cases h
 | a :: F,hnd,f,g,hf,hg,he => by
  rw [List.map_cons,List.nodup_cons] at hnd
  rcases List.mem_cons.1 hf with e1 | hf
  ·rcases List.mem_cons.1 hg with e2 | hg
   ·rw [e1,e2]
   ·exact absurd (show a.name ∈ F.map (·.name) from List.mem_map.2 ⟨g,hg,by rw [← he,e1]⟩) hnd.1
  ·rcases List.mem_cons.1 hg with e2 | hg
   ·exact absurd (show a.name ∈ F.map (·.name) from List.mem_map.2 ⟨f,hf,by rw [he,e2]⟩) hnd.1
   ·exact name_inj hnd.2 hf hg he
theorem tkB_step (F : List FileM) (left : Lit → Bool) (most : Nat) (f : FileM) (hf : f ∈ F) (hnd : (F.map (·.name)).Nodup) (he : f.entry < most) :
  tkB F (fun z => left z && !z.sameKey (.string f.name)) most = (tkB F left most).set f.entry (.bool true) := by
 unfold tkB
 refine List.ext_getElem (by simp) fun i h1 h2 => ?_
 simp only [List.length_map,List.length_range] at h1
 rw [List.getElem_set]
 simp only [List.getElem_map,List.getElem_range]
 by_cases hi : f.entry = i
 ·subst hi
  rw [if_pos rfl,List.any_eq_true.2 ⟨f,hf,by simp [Lit.sameKey]⟩]
 ·rw [if_neg hi]
  congr 1
  rw [Bool.eq_iff_iff,List.any_eq_true,List.any_eq_true]
  constructor
  ·rintro ⟨g,hg,hc⟩
   refine ⟨g,hg, ?_⟩
   simp only [Bool.and_eq_true,Bool.not_eq_true',Bool.and_eq_false_iff,Bool.not_eq_false',beq_iff_eq] at hc ⊢
   obtain ⟨h3,h4⟩ := hc
   refine ⟨h3,h4.elim id fun h5 => ?_⟩
   exfalso
   have hn : g.name = f.name := by simpa [Lit.sameKey] using h5
   have : g = f := name_inj hnd hg hf hn
   subst this
   exact hi h3
  ·rintro ⟨g,hg,hc⟩
   refine ⟨g,hg, ?_⟩
   simp only [Bool.and_eq_true,Bool.not_eq_true',beq_iff_eq] at hc ⊢
   exact ⟨hc.1,by rw [hc.2];rfl⟩
theorem tkB_end (F : List FileM) (left : Lit → Bool) (most : Nat) (h : ∀ kl,left kl = false) : tkB F left most = (List.range most).map fun i => .bool (F.any fun f => f.entry == i) := by
 unfold tkB
 refine List.map_congr_left fun i _ => ?_
 congr 2
 funext f
 rw [h];simp
theorem made_bool (m : Nat) : madeCells (Value.bool false).cells m = (List.replicate m (Value.bool false)).toArray := by
 refine Array.ext (by simp [madeCells]) fun i h1 h2 => ?_
 simp [madeCells,Value.cells,Nat.mod_one]
theorem info4 : (Tryz.prog.info? 4).map (fun i => (i.zero,i.size,i.bytes)) = some (some (.bool false),1,1) := by kernel_rfl
set_option maxHeartbeats 1000000 in
theorem index_any (G cap : Nat) (bs : List Bool) (w : World) (hrow : w.ownsRow 0 4 1 (.slice (some ⟨G,0,none⟩) bs.length cap) bs.length (bs.map .bool)) :
  Calls Tryz.prog 76 #[.slice (some ⟨G,0,none⟩) bs.length cap, .bool false] w fun e w' => e = .returned (.int .i64 (match bs.findIdx? (· == false) with | some i => (i : Int) | none => -1)) ∧ w' = w := by
 have hn63 := len63 hrow
 obtain ⟨n,hn⟩ : ∃ q,bs.length = q := ⟨_,rfl⟩
 rw [hn] at hrow hn63 ⊢
 have HN := Lib.hid hn
 have HR := Lib.hid hrow
 obtain ⟨R,hR⟩ : ∃ q,(match bs.findIdx? (· == false) with | some i => (i : Int) | none => -1) = q := ⟨_,rfl⟩
 rw [hR]
 have HRR := Lib.hid hR
 clear hn hrow hR
 go_enter Tryz.func76,Tryz.ntmps76
 go_wp2
 go_loopw [8] (fun i wr => ∃ k : Nat,k ≤ n ∧ i = .int .i64 k ∧ (∀ j (hj : j < bs.length),j < k → bs[j] = true) ∧ wr = w) (fun i _ => n - (intOf i).toNat)
 case atStart => exact ⟨0,Nat.zero_le _,rfl,fun j _ h => absurd h (by omega),rfl⟩
 case round =>
  obtain ⟨k,hk,rfl,hall,rfl⟩ := hrel
  by_cases hlt : k < n
  ·have hkl : k < bs.length := by rw [HN.out];exact hlt
   have d0 := HR.out.cellAt k (by omega)
   rw [List.getElem?_map,List.getElem?_eq_getElem hkl,Option.map_some] at d0
   have hgl := (HR.out.lt G rfl).2
   have k0 : (0 : Int) ≤ (k : Int) := by omega
   have k1 : (k : Int) < (n : Int) := by omega
   have HALL := Lib.hid hall
   cases hb : bs[k] with
   | true =>
    rw [hb] at d0
    have HB := Lib.hid hb
    clear hall hb
    go_wp2
    go_roundw
    case rel => exact ⟨k + 1,by omega,by go_num,fun j hj hjk => (by
     by_cases e : j = k
     ·subst e;exact HB.out
     ·exact HALL.out j hj (by omega)),trivial⟩
    case measure => simp [intOf];omega
   | false =>
    rw [hb] at d0
    have HFN := Lib.hid (show R = (k : Int) by
     rw [← HRR.out,show bs.findIdx? (· == false) = some k from List.findIdx?_eq_some_iff_getElem.2 ⟨hkl,by rw [hb];rfl,fun j hj => by rw [hall j (by omega) hj];decide⟩])
    clear hall hb hkl
    go_wp2
    go_ret
    obtain rfl := HFN.out
    exact ⟨rfl,rfl⟩
  ·obtain rfl : n = k := by omega
   have HFN := Lib.hid (show R = -1 by
    rw [← HRR.out,show bs.findIdx? (· == false) = none from List.findIdx?_eq_none_iff.2 fun b hb => by
     obtain ⟨j,hj,rfl⟩ := List.getElem_of_mem hb
     rw [hall j hj (by have := HN.out;omega)];rfl])
   clear hall
   go_wp2
   go_ret
   obtain rfl := HFN.out
   exact ⟨rfl,rfl⟩
set_option maxRecDepth 100000 in
set_option maxHeartbeats 2000000 in
theorem vacant_any (X : List Nat) (S D Lg M : Nat) (m : StoM) (w : World) (h : Sto w X S D Lg M m) (hm : 1 ≤ m.most ∧ m.most ≤ 256) (he : ∀ f ∈ m.F,f.entry < m.most) :
  Calls Tryz.prog 38 #[.pointer (some ⟨S,0,none⟩)] w fun e w' => e = .returned (.tuple #[.int .i64 (vacI m.F m.most), .bool (decide (0 ≤ vacI m.F m.most))]) ∧ Below w.heap.size w w' := by
 obtain ⟨i4,hi0,hi1,hi2,hi3⟩ := info_parts info4
 obtain ⟨ad,⟨Dm,hown,hnd,hsz,hat⟩,hex⟩ := h.map
 have x4 := h.blk.cell 4
 have x5 := h.blk.cell 5
 simp at x4 x5
 have hSl := h.blk.lt
 obtain ⟨F,hF⟩ : ∃ q,m.F = q := ⟨_,rfl⟩
 obtain ⟨n,hn⟩ : ∃ q,m.most = q := ⟨_,rfl⟩
 rw [hF,hn] at he
 rw [hF] at hown hnd hsz hat
 rw [hn] at x5 hm
 rw [hF,hn]
 have hmk := fun (w : World) => run_make (P := Tryz.prog) w 125 4 i4 _ Tryz.underlying125 hi0 hi1 .i64 .i64 (n : Int) (n : Int) (by omega) (by omega) (by rw [hi3];omega) (by omega)
 have hmc : madeCells (Value.cells (.bool false)) ((n : Int).toNat * i4.size) = (List.replicate n (Value.bool false)).toArray := by
  rw [hi2,Nat.mul_one,Int.toNat_natCast]
  exact made_bool n
 rw [hmc,Int.toNat_natCast] at hmk
 have HAT := Lib.hid hat
 have HND := Lib.hid hnd
 have HE := Lib.hid he
 have HOWN := Lib.hid hown
 have HB0 := Lib.hid (below_alloc w (.cells (List.replicate n (Value.bool false)).toArray 4))
 have hown1 : (w.alloc (.cells (List.replicate n (Value.bool false)).toArray 4)).ownsMap Tryz.prog 9 rawE M F.length Dm := hown.alloc _
 have HLFT := Lib.hid (show ∀ f ∈ F,Maps.has Dm (.string f.name) = true from fun f hf => by
  rw [(hat f.name).1]
  cases hc : fileOf F f.name with
  | some g => rfl
  | none => exact absurd rfl (fileOf_none.1 hc f hf))
 have hrow1 : (w.alloc (.cells (List.replicate n (Value.bool false)).toArray 4)).heap[w.heap.size]? = some (.cells (tkB F (Maps.has Dm) n).toArray 4 (0,0)) := by
  rw [tkB_start F _ n HLFT.out];exact heap_alloc_new w _
 have y4 := (cell_old w (.cells (List.replicate n (Value.bool false)).toArray 4) ⟨S,4,none⟩ hSl).trans x4
 have hW1 : (w.alloc (.cells (List.replicate n (Value.bool false)).toArray 4)).heap.size = w.heap.size + 1 := by simp
 replace hmk := hmk w
 obtain ⟨G,hG⟩ : ∃ q,w.heap.size = q := ⟨_,rfl⟩
 have HG := Lib.hid hG
 rw [hG] at hmk hW1 hrow1
 obtain ⟨W1,hW⟩ : ∃ q,w.alloc (.cells (List.replicate n (Value.bool false)).toArray 4) = q := ⟨_,rfl⟩
 rw [hW] at hmk hW1 hrow1 y4 HB0 hown1
 have HRW := Lib.hid hrow1
 have HW1 := Lib.hid hW1
 have HB1 := Lib.hid (show Below G w W1 by rw [← hG];exact HB0.out)
 have HSL := Lib.hid (show S < G by rw [← hG];exact hSl)
 have HML := Lib.hid (show M < G by rw [← hG];exact hown.lt)
 rw [hG]
 clear h he hown hnd hsz hat hex hF hn hmc hrow1 hW1 hG hW HB0 hSl
 obtain ⟨V,hV⟩ : ∃ q,vacI F n = q := ⟨_,rfl⟩
 have HV := Lib.hid (show (match ((List.range n).map fun i => F.any fun f => f.entry == i).findIdx? (· == false) with | some i => (i : Int) | none => -1) = V from hV)
 rw [hV]
 clear hV
 go_enter Tryz.func38,Tryz.ntmps38
 go_wp2_with (first | (at_range;refine wpList_range_own _ rfl _ 77 rfl 9 69 keyLaw9 Tryz.underlying77 rawE M F.length Dm rfl hown1 ?_;intro w0 hrg0 hg0 hs0;have hsz0 := hs0.trans (congrArg (· + 1) HW1.out);have hb0 := (hg0.block G (by rw [HW1.out];omega) (by simp)).trans HRW.out;have HG0 := Lib.hid hg0;have HS0 := Lib.hid hsz0;have HB00 := Lib.hid hb0;rw [HW1.out] at hrg0 ⊢;clear hg0 hs0 hsz0 hb0) | go_in)
 go_frame
 go_loopw [18] (fun _ wr => ∃ left cnt,wr.ranges Tryz.prog 9 rawE M (G + 1) F.length Dm left cnt ∧ wr.heap[G]? = some (.cells (tkB F left n).toArray 4 (0,0)) ∧ Below G w wr ∧ G + 2 ≤ wr.heap.size) (fun _ wr => wr.rangeLeft M (G + 1))
 case atStart => exact ⟨_,_,hrg0,HB00.out,HB1.out.trans ⟨HG0.out.os,HG0.out.tape,HG0.out.output,HG0.out.size,fun k hk => HG0.out.block k (by rw [HW1.out];omega) (by simp)⟩,by rw [HS0.out];omega⟩
 case round =>
  obtain ⟨left,cnt,hrg,hrow,hbl,hsz⟩ := hrel
  go_wp2_with (first | (at_next;refine wpList_next_files rfl _ rfl M (G + 1) F.length Dm ad F left cnt rfl hrg HAT.out ?_ ?_) | go_in)
  ·intro hl0
   rw [tkB_end F left n hl0] at hrow
   have KI := index_any G n ((List.range n).map fun i => F.any fun f => f.entry == i) wr (by
    rw [List.length_map,List.length_range,List.map_map]
    refine own_new (cs := (List.range n).map (Value.bool ∘ fun i => F.any fun f => f.entry == i)) ?_ (Nat.zero_le _) (by simp) rfl (by omega)
    exact hrow)
   rw [List.length_map,List.length_range] at KI
   rw [HV.out] at KI
   have HBL := Lib.hid hbl
   clear hrow hbl
   go_wp2_with (first | (go_at_call 76;refine KI.mono ?_;rintro e w2 ⟨rfl,rfl⟩))
   go_ret2
   exact ⟨rfl,HBL.out⟩
  ·intro f w1 cnt1 hfm hrg1 hlt hg1 hs1 hen
   unfold inoV at hen
   have hfe := HE.out f hfm
   have hst := tkB_step F left n f hfm HND.out hfe
   obtain ⟨c,hc⟩ : ∃ c,(tkB F left n)[f.entry]? = some c := ⟨_,List.getElem?_eq_getElem (by rw [tkB_length];exact hfe)⟩
   have hrow1 := (hg1.block G (by omega) (by simp)).trans hrow
   have d0 : w1.cell? ⟨G,f.entry,none⟩ = some c := by rw [World.cell?,hrow1];simpa using hc
   have q0 : w1.frozen? ⟨G,f.entry,none⟩ = false := by rw [World.frozen?,hrow1];rfl
   obtain ⟨E,hE⟩ : ∃ q,f.entry = q := ⟨_,rfl⟩
   rw [hE] at hen d0 q0 hfe hst
   have k0 : (0 : Int) ≤ (E : Int) := by omega
   have k1 : (E : Int) < (n : Int) := by omega
   have HST := Lib.hid hst
   have HR1 := Lib.hid hrow1
   have HG1 := Lib.hid hg1
   clear hc hst hrow1 hE hg1
   have hl1 : G < w1.heap.size := by omega
   have q1 : ∀ o,(w1.alloc o).frozen? ⟨G,E,none⟩ = false := fun o => by rw [World.frozen?,Below.heap_alloc _ _ G hl1,HR1.out];rfl
   have hl2 : G < wr.heap.size := by omega
   go_wp2
   go_roundw
   case rel =>
    have hg := HG1.out
    have hrgA : (w1.setCell ⟨G,E,none⟩ (.bool true)).ranges Tryz.prog 9 rawE M (G + 1) F.length Dm (fun z => left z && !z.sameKey (Lit.string f.name)) cnt1 := hrg1.kept (grown_set w1 G E _) (by have := HML.out;simp;omega) (by simp)
    refine ⟨_,_,hrgA.alloc _, ?_, ?_, ?_⟩
    ·rw [Below.heap_alloc _ _ G (by simp;omega),HST.out]
     have := Blk.set (show Blk w1 G _ 4 from HR1.out) E (.bool true)
     rw [List.setIfInBounds_toArray] at this
     exact this
    ·exact Below.alloc (below_set (hbl.trans ⟨hg.os,hg.tape,hg.output,hg.size,fun k hk => hg.block k (by omega) (by simp;omega)⟩) G E _ (Nat.le_refl _)) (by simp;omega) _
    ·simp;omega
   case measure =>
    rw [hrg.left_eq,((hrg1.kept (grown_set w1 G E (.bool true)) (by have := HML.out;simp;omega) (by simp)).alloc _).left_eq]
    exact hlt
open Go.RowKit Go.Maps
theorem wpOp_insert {P : Program} {ops : Array Oper} {Q : Exit → Act → World → Prop} {i : Nat} {K : Act → World → Prop} {a : Act} {w w' : World} {o : Oper} (ho : ops[i]? = some o) (hg : o.guard = none) (t : TypeId) (m x v : Operand) (hop : o.op = .insert t m x v) (mv kv vv : Value)
  (hm : a.eval m = mv) (hx : a.eval x = kv) (hv : a.eval v = vv) (hrun : (Instr.mapUpdate t mv kv vv).run P w = .ok () w') (hK : K (a.put o.dst undef) w') : wpOp P ops Q i K a w := by
 refine wpOp_of ho hg ?_
 unfold Oper.wp
 simp [execOp,hop,hm,hx,hv,hrun,Result.andThen]
 exact hK
theorem wpOp_mapUpdate {P : Program} {ops : Array Oper} {Q : Exit → Act → World → Prop} {i : Nat} {K : Act → World → Prop} {a : Act} {w w' : World} {o : Oper} (ho : ops[i]? = some o) (hg : o.guard = none) (t : TypeId) (m x v : Operand) (hop : o.op = .mapUpdate t m x v) (mv kv vv : Value)
  (hm : a.eval m = mv) (hx : a.eval x = kv) (hv : a.eval v = vv) (hrun : (Instr.mapUpdate t mv kv vv).run P w = .ok () w') (hK : K (a.put o.dst undef) w') : wpOp P ops Q i K a w := by
 refine wpOp_of ho hg ?_
 unfold Oper.wp
 simp [execOp,hop,hm,hx,hv,hrun,Result.andThen]
 exact hK
def putC (most : Nat) (T : List Bool) (l : List Nat) (data : Bs) (f : FileM) : List Cmd := layC l data ++ settleC most T [(f.entry,entryB f.name f.size f.ext)]
def PutP (X : List Nat) (S D Lg M : Nat) (m : StoM) (T : List Bool) (l : List Nat) (data : Bs) (f : FileM) (w : World) (e : Ending) (w' : World) : Prop :=
 e = .returned (.int .i64 ((DS.run (putC m.most T l data f) m.ds).1 : Nat)) ∧ ∃ X',Mv (S :: M :: X) (S :: M :: X') w w' ∧
  ((DS.run (putC m.most T l data f) m.ds).1 = 0 → Sto w' X' S D Lg M ⟨(DS.run (putC m.most T l data f) m.ds).2,putF m.F f,T,m.most,m.off⟩) ∧
  ((DS.run (putC m.most T l data f) m.ds).1 ≠ 0 → Sto w' X' S D Lg M ⟨(DS.run (putC m.most T l data f) m.ds).2,m.F,m.T,m.most,true⟩)
theorem Mv.cons2 {X X' : List Nat} {w w' : World} {S : Nat} (h : Mv (S :: X) (S :: X') w w') (M : Nat) : Mv (S :: M :: X) (S :: M :: X') w w' :=
 ⟨h.frm.mono (fun x hx => by rcases List.mem_cons.1 hx with rfl | hx <;> simp [*]),fun x hx => by
  rcases List.mem_cons.1 hx with rfl | hx
  ·exact .inl (List.mem_cons_self ..)
  ·rcases List.mem_cons.1 hx with rfl | hx
   ·exact .inl (by simp)
   ·rcases h.sub x (List.mem_cons_of_mem _ hx) with h1 | h1
    ·rcases List.mem_cons.1 h1 with rfl | h1
     ·exact .inl (List.mem_cons_self ..)
     ·exact .inl (by simp [h1])
    ·exact .inr h1⟩
theorem Sto.store {w w' : World} {X : List Nat} {S D Lg M : Nat} {m : StoM} {F : List FileM} {ad : AdM} (h : Sto w X S D Lg M m) (hg : w.grownBy w' (some M)) (hF : FM w' M ad F) (hE : Exts w' X ad F) : Sto w' X S D Lg M ⟨m.ds,F,m.T,m.most,m.off⟩ := by
 obtain ⟨ad0,h1,_⟩ := h.map
 obtain ⟨a1,a2,a3,a4⟩ := h.apart
 obtain ⟨_,n2,n3⟩ := h.ne
 have hfr : Frm [M] w w' := ⟨hg.os,hg.tape,hg.output,hg.size,fun k hk hx => hg.block k hk (by simpa using hx)⟩
 refine ⟨hfr.blk h.blk (by simpa using n2.symm),h.dsk.frm hfr (fun x hx e => a3 (by simp at e;rwa [← e])),hfr.blk h.log (by simpa using n3.symm),⟨ad,hF,hE⟩,⟨a1,a2,a3,a4⟩,fun k hk => ?_,Nat.lt_of_lt_of_le h.pos hg.size⟩
 refine (hfr.cell (p := ⟨0,k,none⟩) h.pos ?_).trans (h.tb k hk)
 intro e
 simp at e
 have a := h.tb k hk
 unfold World.cell? at a
 rw [e] at a
 obtain ⟨Dm,⟨es,clock,hh,_⟩,_⟩ := h1
 rw [hh] at a
 cases a
theorem putF_mem {F : List FileM} {f g : FileM} (h : g ∈ putF F f) : g = f ∨ (g ∈ F ∧ g.name ≠ f.name) := by
 unfold putF at h
 split at h
 ·obtain ⟨a,ha,he⟩ := List.mem_map.1 h
  by_cases hn : a.name = f.name
  ·rw [if_pos (by simpa using hn)] at he;exact .inl he.symm
  ·rw [if_neg (by simpa using hn)] at he;subst he;exact .inr ⟨ha,hn⟩
 ·rename_i hn
  rcases List.mem_append.1 h with h | h
  ·exact .inr ⟨h,fileOf_none.1 (by simpa using hn) g h⟩
  ·exact .inl (by simpa using h)
theorem Exts.put {w : World} {X : List Nat} {ad : AdM} {F : List FileM} {f : FileM} {A : Option Addr} {c : Nat} (h : Exts w X ad F) (h1 : Lies w A (ecells f.ext)) (h2 : Typed w A 90) (h3 : ∀ a,A = some a → a.block ∉ X) : Exts w X (setAd ad f.name (A,c)) (putF F f) := by
 intro g hg
 rcases putF_mem hg with rfl | ⟨hg,hn⟩
 ·rw [setAd_same];exact ⟨h1,h2,h3⟩
 ·rw [setAd_other _ _ _ _ hn];exact h g hg
set_option maxRecDepth 100000 in
set_option maxHeartbeats 4000000 in
theorem put_any' (X : List Nat) (S D Lg M : Nat) (m : StoM) (f : FileM) (A : Option Addr) (cap : Nat) (T : List Bool) (Al : Option Addr) (capl : Nat) (l : List Nat) (data : Bs) (w : World) (h : Sto w X S D Lg M m)
  (hA : Lies w A (ecells f.ext)) (hAT : Typed w A 90) (hAX : ∀ a,A = some a → a.block ∉ X) (hAl : Lies w Al (ncells l)) (hAlX : ∀ a,Al = some a → a.block ∉ X) (hl : ∀ i ∈ l,i < m.ds.L.length) (hln : l.length ≤ 100000) (hd : data.length ≤ 1099511627776)
  (hT : T.length = m.T.length) (hTb : T.length ≤ 4096) (hfe : f.entry < m.most) (hfn : f.name.length ≤ 80) (hfs : f.size ≤ 1099511627776) (hfx : f.ext.length ≤ 1000) (hfb : ∀ x ∈ f.ext,x.1 ≤ 1099511627776 ∧ x.2 ≤ 1099511627776) (hbody : (bodyB f.name f.size f.ext).length ≤ 508)
  (hF : m.F.length ≤ 1000) (hm : 1 ≤ m.most ∧ m.most ≤ 256) (hL : m.most + 7 ≤ m.ds.L.length) (hS : m.ds.S.length ≤ 700000) :
  Calls Tryz.prog 42 #[.pointer (some ⟨S,0,none⟩), .string (mk f.name), .agg #[.int .i64 f.entry, .int .i64 f.size, .slice A f.ext.length cap],spv T, .slice Al l.length capl, .string (mk data)] w (PutP X S D Lg M m T l data f w) := by
 have hb0 := (below_alloc w (.cells #[.int .i64 f.entry, .int .i64 f.size, .slice A f.ext.length cap] 69)).alloc (by simp) (.cells #[.int .i64 T.length, .string (mk (packB T))] 76)
 have hst0 := h.below hb0
 have hB0 := (Blk.new w #[.int .i64 f.entry, .int .i64 f.size, .slice A f.ext.length cap] 69).alloc (.cells #[.int .i64 T.length, .string (mk (packB T))] 76)
 have hB1 := Blk.new (w.alloc (.cells #[.int .i64 f.entry, .int .i64 f.size, .slice A f.ext.length cap] 69)) #[.int .i64 T.length, .string (mk (packB T))] 76
 rw [World.size_alloc] at hB1
 have KL := lay_any X S D Lg M m Al capl l data _ hst0 (hAl.below (Nat.le_refl _) hb0) hAlX hl hln hd (by omega)
 have hA0 := hA.below (Nat.le_refl _) hb0
 have hAT0 := hAT.below hb0
 unfold PutP putC spv
 have hput : DS.run (layC l data ++ settleC m.most T [(f.entry,entryB f.name f.size f.ext)]) m.ds = if (DS.run (layC l data) m.ds).1 = 0 then DS.run (settleC m.most T [(f.entry,entryB f.name f.size f.ext)]) (DS.run (layC l data) m.ds).2 else DS.run (layC l data) m.ds := run_append _ _ _
 have hn1 := run_num (layC l data) m.ds
 have hl1 := run_len (layC l data) m.ds
 have hlc : (layC l data).length ≤ 100001 := by
  unfold layC
  split
  ·simp
  ·rw [List.length_append,wrs_length,layX_length];simp;omega
 have hel : (entryB f.name f.size f.ext).length ≤ 512 := by unfold entryB;rw [full_length _ (by rw [List.length_append,sumB_length];omega)];omega
 have KE := fun (w1 : World) hA1 hT1 hw1 => entry_any f.name f.entry f.size A cap f.ext w1 hA1 hfs hfx hfb hbody hT1 hw1
 have KST := fun (X1 : List Nat) (Mc : Nat) (w1 : World) (h1 : Sto w1 X1 S D Lg M ⟨(DS.run (layC l data) m.ds).2,m.F,m.T,m.most,m.off⟩) (hC : CM w1 Mc [(f.entry,entryB f.name f.size f.ext)]) =>
  settle_any X1 S D Lg M Mc _ T [(f.entry,entryB f.name f.size f.ext)] w1 h1 hC hT hTb (by simp) (fun c hc => by
   have : c = (f.entry,entryB f.name f.size f.ext) := by simpa using hc
   subst this;exact ⟨hfe,hel⟩) hm (by simp only;rw [hl1.1];exact hL) (by have := hl1.2;simp only;omega)
 unfold SetP spv at KST
 dsimp only at KST
 obtain ⟨R,hR⟩ : ∃ q,DS.run (layC l data ++ settleC m.most T [(f.entry,entryB f.name f.size f.ext)]) m.ds = q := ⟨_,rfl⟩
 rw [hR] at hput ⊢
 obtain ⟨r1,hr1⟩ : ∃ q,DS.run (layC l data) m.ds = q := ⟨_,rfl⟩
 rw [hr1] at hput hn1 KL
 simp only [hr1] at KST
 obtain ⟨n1,d1⟩ := r1
 dsimp only at hput hn1 KL KST
 have hn2 := run_num (settleC m.most T [(f.entry,entryB f.name f.size f.ext)]) d1
 obtain ⟨r2,hr2⟩ : ∃ q,DS.run (settleC m.most T [(f.entry,entryB f.name f.size f.ext)]) d1 = q := ⟨_,rfl⟩
 rw [hr2] at hput hn2
 simp only [hr2] at KST
 obtain ⟨n2,d2⟩ := r2
 dsimp only at hn2 KST
 have HSTF := Lib.hid (fun (w1 : World) (ad : AdM) (hf : FM w1 M ad m.F) => hf.store f A cap (by unfold maxLen;omega) (by unfold maxLen;omega))
 obtain ⟨EB,hEB⟩ : ∃ q,entryB f.name f.size f.ext = q := ⟨_,rfl⟩
 rw [hEB] at KE
 simp only [hEB] at KST
 obtain ⟨ES,hES⟩ : ∃ q,mk EB = q := ⟨_,rfl⟩
 simp only [hES] at KE
 have HES := Lib.hid hES
 obtain ⟨en,hen⟩ : ∃ q,f.entry = q := ⟨_,rfl⟩
 obtain ⟨sz,hsz⟩ : ∃ q,f.size = q := ⟨_,rfl⟩
 obtain ⟨xl,hxl⟩ : ∃ q,f.ext.length = q := ⟨_,rfl⟩
 obtain ⟨NM,hNM⟩ : ∃ q,mk f.name = q := ⟨_,rfl⟩
 obtain ⟨tl,htl⟩ : ∃ q,T.length = q := ⟨_,rfl⟩
 obtain ⟨PB,hPB⟩ : ∃ q,mk (packB T) = q := ⟨_,rfl⟩
 obtain ⟨ll,hll⟩ : ∃ q,l.length = q := ⟨_,rfl⟩
 obtain ⟨DT,hDT⟩ : ∃ q,mk data = q := ⟨_,rfl⟩
 rw [hen,hsz,hxl,hNM] at HSTF
 simp only [hen,hsz,hxl,hNM,htl,hPB,hll,hDT] at KL KE KST hB0 hB1 hst0 hA0 hAT0 hb0 ⊢
 rw [hen] at hfe
 have HSTO := Lib.hid hst0
 have HA := Lib.hid (And.intro hA0 (And.intro hAT0 hAX))
 have HB0 := Lib.hid hb0
 have HBX := Lib.hid (And.intro hB0 hB1)
 have HENB := Lib.hid (show en ≤ 1000000 by omega)
 have HSLT := Lib.hid (And.intro h.blk.lt h.dsk.lt)
 obtain ⟨H,hH⟩ : ∃ q,w.heap.size = q := ⟨_,rfl⟩
 rw [hH] at HBX HSLT
 have HH := Lib.hid hH
 have hHle : H ≤ w.heap.size := by omega
 have mixed := mixedT
 clear h hA hAT hAX hAl hAlX hl hln hd hT hTb hfn hfs hfx hfb hbody hF hm hL hS hb0 hst0 hB0 hB1 hA0 hAT0 hl1 hlc hel hR hr1 hr2 hEB hES hen hsz hxl hNM htl hPB hll hDT hHle
 rcases hn1 with rfl | rfl
 case inr =>
  rw [if_neg (by decide)] at hput
  subst hput
  go_enter Tryz.func42,Tryz.ntmps42
  go_upto_region 2 with (go_at_call 80;refine KL.mono ?_;rintro e W1 ⟨rfl,X1,hD1,hM1⟩)
  have hst1 := HSTO.out.disk hD1 hM1
  have c6 := hst1.blk.cell 6
  have f6 := hst1.blk.frozen 6
  simp at c6
  have hSl := hst1.blk.lt
  have hg := grown_set W1 S 6 (.bool true)
  have hbS := hst1.blk.set 6 (.bool true)
  have hfin := hst1.own hg (T := m.T) (off := true) (by simpa using hbS)
  have hmv := ((((Mv.of_below X HB0.out).trans hM1).cons S).trans (Mv.of_grown hg (List.mem_cons_self ..))).cons2 M
  have HF := Lib.hid (And.intro hfin hmv)
  clear hst1 hD1 hM1 hg hbS hfin hmv KL
  go_wp2
  go_ret
  exact ⟨rfl,X1,HF.out.2,HF.out.1⟩
 rw [if_pos rfl] at hput
 subst hput
 go_enter Tryz.func42,Tryz.ntmps42
 go_upto_region 5 with (go_at_call 80;refine KL.mono ?_;rintro e W1 ⟨rfl,X1,hD1,hM1⟩)
 have hst1 := HSTO.out.disk hD1 hM1
 have hHX : H ∉ X := fun hx => by have := HSLT.out.2 _ hx;omega
 have hHX1 : H + 1 ∉ X := fun hx => by have := HSLT.out.2 _ hx;omega
 have hbx1 : Blk W1 H #[.int .i64 en, .int .i64 sz, .slice A xl cap] 69 ∧ Blk W1 (H + 1) #[.int .i64 tl, .string PB] 76 := ⟨hM1.blk HBX.out.1 hHX,hM1.blk HBX.out.2 hHX1⟩
 have hA1 := hM1.lies HA.out.1 HA.out.2.2
 have hAT1 := HA.out.2.1.frm hM1.frm HA.out.2.2
 have hAX1 : ∀ a,A = some a → a.block ∉ X1 := fun a ha => by
  obtain ⟨cs,fr,hc⟩ := HA.out.2.1 a ha
  exact hM1.apart (HA.out.2.2 a ha) (Array.getElem?_eq_some_iff.1 hc).1
 have HM1 := Lib.hid ((Mv.of_below X HB0.out).trans hM1)
 have HST1 := Lib.hid (And.intro hst1 (And.intro hA1 (And.intro hAT1 (And.intro hAX1 hbx1))))
 have HHX1 := Lib.hid (show H ∉ X1 ∧ H + 1 ∉ X1 from ⟨hM1.apart hHX HBX.out.1.lt,hM1.apart hHX1 HBX.out.2.lt⟩)
 have HHS := Lib.hid (show H ≠ S ∧ H + 1 ≠ S by have := HSLT.out.1;omega)
 clear hst1 hHX hHX1 hA1 hAT1 hAX1 hD1 hM1 KL
 refine wp_region_held (S := fun w' => Blk w' H #[.int .i64 en, .int .i64 sz, .slice A xl cap] 69 ∧ Blk w' (H + 1) #[.int .i64 tl, .string PB] 76) mixed ?_
 change wpAnyH _ _ _ _ _ _ _ _ W1.drew
 have hS1 : Blk W1.drew H #[.int .i64 en, .int .i64 sz, .slice A xl cap] 69 ∧ Blk W1.drew (H + 1) #[.int .i64 tl, .string PB] 76 := hbx1
 have hb1 : Below W1.heap.size W1 W1.drew := (Below.refl _ _).drew
 obtain ⟨W0,hW0⟩ : ∃ q,W1.drew = q := ⟨_,rfl⟩
 rw [hW0] at hS1 hb1 ⊢
 clear hW0 hbx1
 refine tkQ 0 (.pointer (some ⟨S,0,none⟩)) rfl hS1 ?_
 try go_simp
 refine tkH 1 (.agg #[.int .i64 tl, .string PB]) rfl hS1 (fun w' hS => ?_) ?_
 ·have q0 := hS.2.cell 0;have q1 := hS.2.cell 1;simp at q0 q1;go_simp
 try go_simp
 refine tkQ 3 (.pointer (some ⟨H,0,none⟩)) rfl hS1 ?_
 try go_simp
 refine tkH 4 (.int .i64 (en : Int)) rfl hS1 (fun w' hS => ?_) ?_
 ·have q0 := hS.1.cell 0;simp at q0;go_simp
 try go_simp
 refine tkQ 5 (.string NM) rfl hS1 ?_
 try go_simp
 refine tkH 6 (.agg #[.int .i64 en, .int .i64 sz, .slice A xl cap]) rfl hS1 (fun w' hS => ?_) ?_
 ·have q0 := hS.1.cell 0;have q1 := hS.1.cell 1;have q2 := hS.1.cell 2;simp at q0 q1 q2;go_simp
 try go_simp
 refine wpAnyH_all (rs := [2,7]) (by kernel_rfl) (by simp) ?_
 intro i hi
 simp only [List.mem_cons,List.not_mem_nil,or_false] at hi
 rcases hi with rfl | rfl
 ·
  unfold wpOp
  have hmm := @run_makeMap Tryz.prog
  go_simp
  clear hmm
  have hS2 : Blk (W0.alloc (.map #[] 0)) H #[.int .i64 en, .int .i64 sz, .slice A xl cap] 69 ∧ Blk (W0.alloc (.map #[] 0)) (H + 1) #[.int .i64 tl, .string PB] 76 := ⟨hS1.1.alloc _,hS1.2.alloc _⟩
  have hb2 := hb1.alloc hb1.size (.map #[] 0)
  have hcm2 := CM.made W0
  have hMc : W1.heap.size ≤ W0.heap.size := hb1.size
  have hml := hcm2.lt
  obtain ⟨Mc,hMcE⟩ : ∃ q,W0.heap.size = q := ⟨_,rfl⟩
  rw [hMcE] at hcm2 hMc hml
  obtain ⟨W2,hW2⟩ : ∃ q,W0.alloc (.map #[] 0) = q := ⟨_,rfl⟩
  rw [hW2] at hS2 hb2 hcm2 hml ⊢
  try rw [hMcE]
  clear hW2 hMcE
  first | refine .inl ⟨hS2, ?_⟩ | refine ⟨hS2, ?_⟩
  refine alH 7 ?_
  unfold wpOp
  go_simp
  refine .inl ?_
  go_at_call 49
  refine (KE W2 (HST1.out.2.1.below (Nat.le_refl _) hb2) ((HST1.out.1.below hb2).tb) ((HST1.out.1.below hb2).pos)).mono ?_
  rintro e W3 ⟨rfl,hbe⟩
  have hS3 : Blk W3 H #[.int .i64 en, .int .i64 sz, .slice A xl cap] 69 ∧ Blk W3 (H + 1) #[.int .i64 tl, .string PB] 76 := ⟨hS2.1.below hbe,hS2.2.below hbe⟩
  have hb3 := hb2.trans (hbe.mono hb2.size)
  have hcm3 := hcm2.block (hbe.block Mc hml)
  refine ⟨hS3, ?_⟩
  clear hS2 hb2 hcm2 hml hbe hS1 hb1
  have hbel4 := fun (W4 : World) (hg4 : W3.grownBy W4 (some Mc)) => hb3.grown hg4 hb3.size (fun g e => by cases e;exact hMc)
  obtain ⟨W4,hrun4,hcm4,hg4⟩ := hcm3.one en EB HENB.out
  rw [HES.out] at hrun4
  have hb4 := hbel4 W4 hg4
  have HW4 := Lib.hid (And.intro hrun4 (And.intro hcm4 (And.intro (HST1.out.1.below hb4) (And.intro (show Blk W4 H #[.int .i64 en, .int .i64 sz, .slice A xl cap] 69 ∧ Blk W4 (H + 1) #[.int .i64 tl, .string PB] 76 from ⟨HST1.out.2.2.2.2.1.below hb4,HST1.out.2.2.2.2.2.below hb4⟩) (And.intro (HST1.out.2.1.below (Nat.le_refl _) hb4) (HST1.out.2.2.1.below hb4))))))
  have HX5 := Lib.hid (show H ∉ S :: X1 ∧ H + 1 ∉ S :: X1 from ⟨fun hx => by rcases List.mem_cons.1 hx with e | e;exact HHS.out.1 e;exact HHX1.out.1 e,fun hx => by rcases List.mem_cons.1 hx with e | e;exact HHS.out.2 e;exact HHX1.out.2 e⟩)
  have HX5A := Lib.hid (show ∀ a,A = some a → a.block ∉ S :: X1 from fun a ha hx => by
   rcases List.mem_cons.1 hx with e | e
   ·obtain ⟨cs,fr,hc⟩ := HST1.out.2.2.1 a ha
    have hb := HST1.out.1.blk
    unfold Blk at hb
    rw [e,hb] at hc
    simp at hc
   ·exact HST1.out.2.2.2.1 a ha e)
  have HMV4 := Lib.hid ((HM1.out.below hb4).cons S)
  clear hrun4 hcm4 hg4 hb4 hbel4 hcm3 hMc hb3
  refine alH 8 ?_
  refine wpOp_insert rfl rfl 102 (.tmp 27) (.tmp 29) (.tmp 32) rfl _ _ _ (by rfl) (by rfl) (by rfl) HW4.out.1 ?_
  refine ⟨HW4.out.2.2.2.1, ?_⟩
  refine tkQ 9 (.map (some Mc)) rfl HW4.out.2.2.2.1 ?_
  try go_simp
  refine alH 10 ?_
  unfold wpOp
  go_simp
  refine .inl ?_
  go_at_call 50
  refine (KST X1 Mc W4 HW4.out.2.2.1 HW4.out.2.1).mono ?_
  rintro e W5 ⟨rfl,X2,hM5,hS0,hS7⟩
  have hBX5 : Blk W5 H #[.int .i64 en, .int .i64 sz, .slice A xl cap] 69 ∧ Blk W5 (H + 1) #[.int .i64 tl, .string PB] 76 := ⟨hM5.blk HW4.out.2.2.2.1.1 HX5.out.1,hM5.blk HW4.out.2.2.2.1.2 HX5.out.2⟩
  refine ⟨hBX5, ?_⟩
  rcases hn2 with rfl | rfl
  case inr =>
   refine tkQ 11 (.int .i64 7) rfl hBX5 ?_
   try go_simp
   refine wpAnyH_done (by kernel_rfl) ?_ _
   have HF := Lib.hid (And.intro (hS7 (by decide)) ((HMV4.out.trans hM5).cons2 M))
   clear hBX5 hM5 hS0 hS7 KST KE
   go_wp2
   go_ret
   exact ⟨rfl,X2,HF.out.2,by first | exact HF.out.1 | exact ⟨(fun h => by cases h),fun _ => HF.out.1⟩ | exact ⟨fun _ => HF.out.1,fun h => absurd rfl h⟩⟩
  refine tkQ 11 (.int .i64 0) rfl hBX5 ?_
  try go_simp
  refine wpAnyH_done (by kernel_rfl) ?_ _
  have hst5 := hS0 rfl
  have hA5 := hM5.lies HW4.out.2.2.2.2.1 HX5A.out
  have hAT5 := HW4.out.2.2.2.2.2.frm hM5.frm HX5A.out
  have hAX5 : ∀ a,A = some a → a.block ∉ X2 := fun a ha hx => by
   obtain ⟨cs,fr,hc⟩ := HW4.out.2.2.2.2.2 a ha
   exact hM5.apart (HX5A.out a ha) (Array.getElem?_eq_some_iff.1 hc).1 (List.mem_cons_of_mem _ hx)
  obtain ⟨ad,hFM,hEX⟩ := hst5.map
  have hFM' : FM W5.drew M ad m.F := hFM
  obtain ⟨W6,hrun6,hFM6,hg6'⟩ := HSTF.out W5.drew ad hFM'
  have hg6 : W5.grownBy W6 (some M) := ⟨hg6'.os,hg6'.tape,hg6'.output,hg6'.size,hg6'.block⟩
  have HRUN6D := Lib.hid hrun6
  have hS9 : W6.cell? ⟨S,4,none⟩ = some (.map (some M)) ∧ Blk W6 H #[.int .i64 en, .int .i64 sz, .slice A xl cap] 69 := by
   have x4 := hst5.blk.cell 4
   simp at x4
   exact ⟨(World.cell?_of_block (a := ⟨S,4,none⟩) (hg6.block S hst5.blk.lt (fun e => hst5.ne.2.1 (by cases e;rfl)))).trans x4,hBX5.1.grown hg6 (fun e => (hFM.not_cells hBX5.1) (by cases e;rfl))⟩
  have hne6 : ∀ g,some M = some g → ∀ c fr,W5.heap[g]? ≠ some (.cells c 90 fr) := fun g e c fr hc => by cases e;exact (hFM.not_cells hc) rfl
  have hE6 := (hEX.grown hg6 hne6).put (f := f) (c := cap) (fun h0 => by
   obtain ⟨g,o,e,hl,hc⟩ := hA5 h0
   obtain ⟨cs,fr,hh⟩ := hAT5 _ e
   have := hg6.block g hl (fun e2 => hne6 g e2.symm cs fr hh)
   exact ⟨g,o,e,Nat.lt_of_lt_of_le hl hg6.size,fun j u hu => (World.cell?_of_block (a := ⟨g,o + j,none⟩) this).trans (hc j u hu)⟩) (fun a ha => by
   obtain ⟨cs,fr,hh⟩ := hAT5 a ha
   exact ⟨cs,fr,(hg6.block _ (Array.getElem?_eq_some_iff.1 hh).1 (fun e2 => hne6 _ e2.symm cs fr hh)).trans hh⟩) hAX5
  have hst6 := hst5.store hg6 hFM6 hE6
  have HF := Lib.hid (And.intro hst6 (((HMV4.out.trans hM5).cons2 M).trans (Mv.of_grown hg6 (by simp))))
  have x4 := hst5.blk.cell 4
  simp at x4
  have HX4 := Lib.hid x4
  have HBX5 := Lib.hid hBX5.1
  clear hM5 hS0 hS7 hst5 hA5 hAT5 hAX5 hFM hEX hFM6 hg6 hg6' hFM' hne6 hE6 hst6 hrun6 hBX5 x4 KST KE
  go_upto_region 8 with (fail)
  refine wp_region_held (S := fun w' => w'.cell? ⟨S,4,none⟩ = some (.map (some M)) ∧ Blk w' H #[.int .i64 en, .int .i64 sz, .slice A xl cap] 69) mixed ?_
  change wpAnyH _ _ _ _ _ _ _ _ W5.drew
  have hS8 : W5.drew.cell? ⟨S,4,none⟩ = some (.map (some M)) ∧ Blk W5.drew H #[.int .i64 en, .int .i64 sz, .slice A xl cap] 69 := ⟨HX4.out,HBX5.out⟩
  refine tkQ 0 (.pointer (some ⟨S,0,none⟩)) rfl hS8 ?_
  try go_simp
  refine tkQ 1 (.pointer (some ⟨S,0,none⟩)) rfl hS8 ?_
  try go_simp
  refine tkQ 2 (.pointer (some ⟨S,4,none⟩)) rfl hS8 ?_
  try go_simp
  refine tkH 3 (.map (some M)) rfl hS8 (fun w' hS => ?_) ?_
  ·have q0 := hS.1;go_simp
  try go_simp
  refine tkQ 4 (.string NM) rfl hS8 ?_
  try go_simp
  refine tkH 5 (.agg #[.int .i64 en, .int .i64 sz, .slice A xl cap]) rfl hS8 (fun w' hS => ?_) ?_
  ·have q0 := hS.2.cell 0;have q1 := hS.2.cell 1;have q2 := hS.2.cell 2;simp at q0 q1 q2;go_simp
  try go_simp
  refine alH 6 ?_
  refine wpOp_mapUpdate rfl rfl 77 (.tmp 41) (.tmp 42) (.tmp 43) rfl _ _ _ (by rfl) (by rfl) (by rfl) HRUN6D.out ?_
  refine ⟨hS9, ?_⟩
  refine wpAnyH_done (by kernel_rfl) ?_ _
  clear hS8 hS9
  go_wp2
  go_ret
  exact ⟨rfl,X2,HF.out.2,by first | exact HF.out.1 | exact ⟨(fun h => by cases h),fun _ => HF.out.1⟩ | exact ⟨fun _ => HF.out.1,fun h => absurd rfl h⟩⟩

 ·
  unfold wpOp
  go_simp
  refine .inl ?_
  go_at_call 49
  refine (KE W0 (HST1.out.2.1.below (Nat.le_refl _) hb1) ((HST1.out.1.below hb1).tb) ((HST1.out.1.below hb1).pos)).mono ?_
  rintro e W2 ⟨rfl,hbe⟩
  have hS2 : Blk W2 H #[.int .i64 en, .int .i64 sz, .slice A xl cap] 69 ∧ Blk W2 (H + 1) #[.int .i64 tl, .string PB] 76 := ⟨hS1.1.below hbe,hS1.2.below hbe⟩
  have hb2 := hb1.trans (hbe.mono hb1.size)
  refine ⟨hS2, ?_⟩
  refine alH 2 ?_
  unfold wpOp
  have hmm := @run_makeMap Tryz.prog
  go_simp
  clear hmm
  have hS3 : Blk (W2.alloc (.map #[] 0)) H #[.int .i64 en, .int .i64 sz, .slice A xl cap] 69 ∧ Blk (W2.alloc (.map #[] 0)) (H + 1) #[.int .i64 tl, .string PB] 76 := ⟨hS2.1.alloc _,hS2.2.alloc _⟩
  have hb3 := hb2.alloc hb2.size (.map #[] 0)
  have hcm3 := CM.made W2
  have hMc : W1.heap.size ≤ W2.heap.size := hb2.size
  obtain ⟨Mc,hMcE⟩ : ∃ q,W2.heap.size = q := ⟨_,rfl⟩
  rw [hMcE] at hcm3 hMc
  obtain ⟨W3,hW3⟩ : ∃ q,W2.alloc (.map #[] 0) = q := ⟨_,rfl⟩
  rw [hW3] at hS3 hb3 hcm3 ⊢
  try rw [hMcE]
  clear hW3 hMcE
  first | refine .inl ⟨hS3, ?_⟩ | refine ⟨hS3, ?_⟩
  clear hS2 hb2 hbe hS1 hb1
  have hbel4 := fun (W4 : World) (hg4 : W3.grownBy W4 (some Mc)) => hb3.grown hg4 hb3.size (fun g e => by cases e;exact hMc)
  obtain ⟨W4,hrun4,hcm4,hg4⟩ := hcm3.one en EB HENB.out
  rw [HES.out] at hrun4
  have hb4 := hbel4 W4 hg4
  have HW4 := Lib.hid (And.intro hrun4 (And.intro hcm4 (And.intro (HST1.out.1.below hb4) (And.intro (show Blk W4 H #[.int .i64 en, .int .i64 sz, .slice A xl cap] 69 ∧ Blk W4 (H + 1) #[.int .i64 tl, .string PB] 76 from ⟨HST1.out.2.2.2.2.1.below hb4,HST1.out.2.2.2.2.2.below hb4⟩) (And.intro (HST1.out.2.1.below (Nat.le_refl _) hb4) (HST1.out.2.2.1.below hb4))))))
  have HX5 := Lib.hid (show H ∉ S :: X1 ∧ H + 1 ∉ S :: X1 from ⟨fun hx => by rcases List.mem_cons.1 hx with e | e;exact HHS.out.1 e;exact HHX1.out.1 e,fun hx => by rcases List.mem_cons.1 hx with e | e;exact HHS.out.2 e;exact HHX1.out.2 e⟩)
  have HX5A := Lib.hid (show ∀ a,A = some a → a.block ∉ S :: X1 from fun a ha hx => by
   rcases List.mem_cons.1 hx with e | e
   ·obtain ⟨cs,fr,hc⟩ := HST1.out.2.2.1 a ha
    have hb := HST1.out.1.blk
    unfold Blk at hb
    rw [e,hb] at hc
    simp at hc
   ·exact HST1.out.2.2.2.1 a ha e)
  have HMV4 := Lib.hid ((HM1.out.below hb4).cons S)
  clear hrun4 hcm4 hg4 hb4 hbel4 hcm3 hMc hb3
  refine alH 8 ?_
  refine wpOp_insert rfl rfl 102 (.tmp 27) (.tmp 29) (.tmp 32) rfl _ _ _ (by rfl) (by rfl) (by rfl) HW4.out.1 ?_
  refine ⟨HW4.out.2.2.2.1, ?_⟩
  refine tkQ 9 (.map (some Mc)) rfl HW4.out.2.2.2.1 ?_
  try go_simp
  refine alH 10 ?_
  unfold wpOp
  go_simp
  refine .inl ?_
  go_at_call 50
  refine (KST X1 Mc W4 HW4.out.2.2.1 HW4.out.2.1).mono ?_
  rintro e W5 ⟨rfl,X2,hM5,hS0,hS7⟩
  have hBX5 : Blk W5 H #[.int .i64 en, .int .i64 sz, .slice A xl cap] 69 ∧ Blk W5 (H + 1) #[.int .i64 tl, .string PB] 76 := ⟨hM5.blk HW4.out.2.2.2.1.1 HX5.out.1,hM5.blk HW4.out.2.2.2.1.2 HX5.out.2⟩
  refine ⟨hBX5, ?_⟩
  rcases hn2 with rfl | rfl
  case inr =>
   refine tkQ 11 (.int .i64 7) rfl hBX5 ?_
   try go_simp
   refine wpAnyH_done (by kernel_rfl) ?_ _
   have HF := Lib.hid (And.intro (hS7 (by decide)) ((HMV4.out.trans hM5).cons2 M))
   clear hBX5 hM5 hS0 hS7 KST KE
   go_wp2
   go_ret
   exact ⟨rfl,X2,HF.out.2,by first | exact HF.out.1 | exact ⟨(fun h => by cases h),fun _ => HF.out.1⟩ | exact ⟨fun _ => HF.out.1,fun h => absurd rfl h⟩⟩
  refine tkQ 11 (.int .i64 0) rfl hBX5 ?_
  try go_simp
  refine wpAnyH_done (by kernel_rfl) ?_ _
  have hst5 := hS0 rfl
  have hA5 := hM5.lies HW4.out.2.2.2.2.1 HX5A.out
  have hAT5 := HW4.out.2.2.2.2.2.frm hM5.frm HX5A.out
  have hAX5 : ∀ a,A = some a → a.block ∉ X2 := fun a ha hx => by
   obtain ⟨cs,fr,hc⟩ := HW4.out.2.2.2.2.2 a ha
   exact hM5.apart (HX5A.out a ha) (Array.getElem?_eq_some_iff.1 hc).1 (List.mem_cons_of_mem _ hx)
  obtain ⟨ad,hFM,hEX⟩ := hst5.map
  have hFM' : FM W5.drew M ad m.F := hFM
  obtain ⟨W6,hrun6,hFM6,hg6'⟩ := HSTF.out W5.drew ad hFM'
  have hg6 : W5.grownBy W6 (some M) := ⟨hg6'.os,hg6'.tape,hg6'.output,hg6'.size,hg6'.block⟩
  have HRUN6D := Lib.hid hrun6
  have hS9 : W6.cell? ⟨S,4,none⟩ = some (.map (some M)) ∧ Blk W6 H #[.int .i64 en, .int .i64 sz, .slice A xl cap] 69 := by
   have x4 := hst5.blk.cell 4
   simp at x4
   exact ⟨(World.cell?_of_block (a := ⟨S,4,none⟩) (hg6.block S hst5.blk.lt (fun e => hst5.ne.2.1 (by cases e;rfl)))).trans x4,hBX5.1.grown hg6 (fun e => (hFM.not_cells hBX5.1) (by cases e;rfl))⟩
  have hne6 : ∀ g,some M = some g → ∀ c fr,W5.heap[g]? ≠ some (.cells c 90 fr) := fun g e c fr hc => by cases e;exact (hFM.not_cells hc) rfl
  have hE6 := (hEX.grown hg6 hne6).put (f := f) (c := cap) (fun h0 => by
   obtain ⟨g,o,e,hl,hc⟩ := hA5 h0
   obtain ⟨cs,fr,hh⟩ := hAT5 _ e
   have := hg6.block g hl (fun e2 => hne6 g e2.symm cs fr hh)
   exact ⟨g,o,e,Nat.lt_of_lt_of_le hl hg6.size,fun j u hu => (World.cell?_of_block (a := ⟨g,o + j,none⟩) this).trans (hc j u hu)⟩) (fun a ha => by
   obtain ⟨cs,fr,hh⟩ := hAT5 a ha
   exact ⟨cs,fr,(hg6.block _ (Array.getElem?_eq_some_iff.1 hh).1 (fun e2 => hne6 _ e2.symm cs fr hh)).trans hh⟩) hAX5
  have hst6 := hst5.store hg6 hFM6 hE6
  have HF := Lib.hid (And.intro hst6 (((HMV4.out.trans hM5).cons2 M).trans (Mv.of_grown hg6 (by simp))))
  have x4 := hst5.blk.cell 4
  simp at x4
  have HX4 := Lib.hid x4
  have HBX5 := Lib.hid hBX5.1
  clear hM5 hS0 hS7 hst5 hA5 hAT5 hAX5 hFM hEX hFM6 hg6 hg6' hFM' hne6 hE6 hst6 hrun6 hBX5 x4 KST KE
  go_upto_region 8 with (fail)
  refine wp_region_held (S := fun w' => w'.cell? ⟨S,4,none⟩ = some (.map (some M)) ∧ Blk w' H #[.int .i64 en, .int .i64 sz, .slice A xl cap] 69) mixed ?_
  change wpAnyH _ _ _ _ _ _ _ _ W5.drew
  have hS8 : W5.drew.cell? ⟨S,4,none⟩ = some (.map (some M)) ∧ Blk W5.drew H #[.int .i64 en, .int .i64 sz, .slice A xl cap] 69 := ⟨HX4.out,HBX5.out⟩
  refine tkQ 0 (.pointer (some ⟨S,0,none⟩)) rfl hS8 ?_
  try go_simp
  refine tkQ 1 (.pointer (some ⟨S,0,none⟩)) rfl hS8 ?_
  try go_simp
  refine tkQ 2 (.pointer (some ⟨S,4,none⟩)) rfl hS8 ?_
  try go_simp
  refine tkH 3 (.map (some M)) rfl hS8 (fun w' hS => ?_) ?_
  ·have q0 := hS.1;go_simp
  try go_simp
  refine tkQ 4 (.string NM) rfl hS8 ?_
  try go_simp
  refine tkH 5 (.agg #[.int .i64 en, .int .i64 sz, .slice A xl cap]) rfl hS8 (fun w' hS => ?_) ?_
  ·have q0 := hS.2.cell 0;have q1 := hS.2.cell 1;have q2 := hS.2.cell 2;simp at q0 q1 q2;go_simp
  try go_simp
  refine alH 6 ?_
  refine wpOp_mapUpdate rfl rfl 77 (.tmp 41) (.tmp 42) (.tmp 43) rfl _ _ _ (by rfl) (by rfl) (by rfl) HRUN6D.out ?_
  refine ⟨hS9, ?_⟩
  refine wpAnyH_done (by kernel_rfl) ?_ _
  clear hS8 hS9
  go_wp2
  go_ret
  exact ⟨rfl,X2,HF.out.2,by first | exact HF.out.1 | exact ⟨(fun h => by cases h),fun _ => HF.out.1⟩ | exact ⟨fun _ => HF.out.1,fun h => absurd rfl h⟩⟩

theorem trimR_sum : ∀ (l : List (Nat × Nat)) (k : Nat),sumN (trimR l k).1 + (trimR l k).2 = k := by
 intro l
 induction l with
 | nil => intro k;simp [trimR,sumN]
 | cons x l ih =>
  intro k
  rw [trimR]
  by_cases h0 : k = 0
  ·rw [if_pos h0];simp [sumN,h0]
  ·rw [if_neg h0]
   have := ih (k - min x.2 k)
   simp only [sumN_cons]
   omega
theorem takeS_facts {T T' : List Bool} {k most : Nat} {l : List (Nat × Nat)} (h : takeS T k most = some (l,T')) :
  l.length ≤ most ∧ Rise 0 l ∧ (∀ x ∈ l,1 ≤ x.2 ∧ x.1 + x.2 ≤ T.length ∧ ∀ j,x.1 ≤ j → j < x.1 + x.2 → T.getD j true = false) ∧ T'.length = T.length ∧ sumN l = k ∧ ∀ j,T'.getD j true = (T.getD j true || l.any fun x => decide (x.1 ≤ j ∧ j < x.1 + x.2)) := by
 obtain ⟨T2,h1,h2,h3⟩ := take_claims T k
 obtain ⟨g1,g2⟩ := runs_all T
 obtain ⟨g3,g4⟩ := trimR_good (fun j => T.getD j true = false) T.length _ _ k g1 g2
 have h4 := trimR_sum (runs T 0 0) k
 unfold takeS at h
 split at h
 ·cases h
 ·rename_i hc
  rw [h1] at h
  simp only [Option.map_some,Option.some.injEq,Prod.mk.injEq] at h
  obtain ⟨rfl,rfl⟩ := h
  exact ⟨by omega,g3,g4,h2,by omega,h3⟩
theorem turnS_len (taken : Bool) : ∀ (l : List (Nat × Nat)) (T T' : List Bool),turnS taken T l = some T' → T'.length = T.length := by
 intro l
 induction l with
 | nil => intro T T' h;cases h;rfl
 | cons x l ih =>
  intro T T' h
  rw [turnS] at h
  split at h
  ·cases h
  ·obtain ⟨T1,h1,h2⟩ := Option.bind_eq_some_iff.1 h
   rw [ih _ _ h2,turn1_len _ _ _ _ _ h1]
def needsN (n : Nat) : Nat := (n + 511) / 512
theorem secL_length (b : Nat) : ∀ (l : List (Nat × Nat)),(secL b l).length = sumN l := by
 intro l
 induction l with
 | nil => rfl
 | cons x l ih =>
  rw [sumN_cons, ← ih]
  simp [secL,secX]
theorem secL_mem {b i : Nat} {l : List (Nat × Nat)} (h : i ∈ secL b l) : ∃ x ∈ l,b + x.1 ≤ i ∧ i < b + x.1 + x.2 := by
 unfold secL at h
 obtain ⟨x,hx,hi⟩ := List.mem_flatMap.1 h
 refine ⟨x,hx, ?_⟩
 unfold secX at hi
 simp at hi
 omega
theorem kOf_small (n : Nat) (h : n ≤ 4096) : kOf n ≤ 2 := by
 unfold kOf
 by_cases h0 : n = 0
 ·subst h0;decide
 ·have := (Nat.log2_lt (k := 13) h0).2 (by omega)
  omega
theorem kOf_mid (n : Nat) (h : n ≤ 1048576) : kOf n ≤ 3 := by
 unfold kOf
 by_cases h0 : n = 0
 ·subst h0;decide
 ·have := (Nat.log2_lt (k := 21) h0).2 (by omega)
  omega
theorem extB_len : ∀ (l : List (Nat × Nat)),(∀ x ∈ l,x.1 ≤ 4096 ∧ x.2 ≤ 4096) → (extB l).length ≤ 6 * l.length := by
 intro l
 induction l with
 | nil => intro _;simp [extB]
 | cons x l ih =>
  intro h
  have h1 := ih (fun y hy => h y (List.mem_cons_of_mem _ hy))
  have h2 := h x (List.mem_cons_self ..)
  have h3 := kOf_small _ h2.1
  have h4 := kOf_small _ h2.2
  unfold extB at h1 ⊢
  rw [List.flatMap_cons,List.length_append,List.length_append,putB_length,putB_length,List.length_cons]
  omega
theorem bodyB_len (name : Bs) (size : Nat) (l : List (Nat × Nat)) (hn : name.length ≤ 80) (hs : size ≤ 1048576) (hl : l.length ≤ 64) (hx : ∀ x ∈ l,x.1 ≤ 4096 ∧ x.2 ≤ 4096) : (bodyB name size l).length ≤ 508 := by
 have h1 := extB_len l hx
 have h2 := kOf_mid _ hs
 have h3 := kOf_small name.length (by omega)
 have h4 := kOf_small l.length (by omega)
 unfold bodyB joinB
 simp only [List.flatMap_cons,List.flatMap_nil,List.length_append,putB_length,List.length_nil]
 omega
structure StoB (m : StoM) : Prop where
 ent : ∀ f ∈ m.F,f.entry < m.most
 nam : ∀ f ∈ m.F,f.name.length ≤ 80
 siz : ∀ f ∈ m.F,f.size ≤ 1048576
 exl : ∀ f ∈ m.F,f.ext.length ≤ 64
 exb : ∀ f ∈ m.F, ∀ x ∈ f.ext,x.1 + x.2 ≤ m.T.length
 len : m.F.length ≤ 1000
 mo : 1 ≤ m.most ∧ m.most ≤ 256
 tl : m.T.length ≤ 4096
 ll : m.T.length + m.most + 7 = m.ds.L.length
 sl : m.ds.S.length ≤ 500000
def oldX (F : List FileM) (name : Bs) : List (Nat × Nat) := ((fileOf F name).map (·.ext)).getD []
def slotW (m : StoM) (name : Bs) : Option Nat := match fileOf m.F name with
 | some f => some f.entry
 | none => vacN m.F m.most
def preW (m : StoM) (name data : Bs) : Nat × Option (List Bool × FileM) :=
 if goodF name = false then (11,none) else if 1048576 < data.length then (6,none) else
 match slotW m name with
 | none => (8,none)
 | some i => match takeS m.T (needsN data.length) 64 with
  | none => (8,none)
  | some (l,T1) => match turnS false T1 (oldX m.F name) with
   | none => (14,none)
   | some T2 => (0,some (T2,⟨name,i,data.length,l⟩))
theorem goodF_len {s : Bs} (h : goodF s = true) : s.length ≤ 80 := by
 unfold goodF at h
 simp only [Bool.and_eq_true,decide_eq_true_eq] at h
 exact h.1.2
theorem vacN_lt {F : List FileM} {most i : Nat} (h : vacN F most = some i) : i < most ∧ ∀ f ∈ F,f.entry ≠ i := by
 unfold vacN at h
 obtain ⟨h1,h2,_⟩ := List.findIdx?_eq_some_iff_getElem.1 h
 simp at h1 h2
 exact ⟨h1,h2⟩
theorem slotW_lt {m : StoM} (hb : StoB m) {name : Bs} {i : Nat} (h : slotW m name = some i) : i < m.most := by
 unfold slotW at h
 split at h
 ·rename_i f hf
  cases h
  exact hb.ent _ (fileOf_mem hf)
 ·exact (vacN_lt h).1
end Go.Proofs.YtcmcdddnckcpcaaGreatDoor
