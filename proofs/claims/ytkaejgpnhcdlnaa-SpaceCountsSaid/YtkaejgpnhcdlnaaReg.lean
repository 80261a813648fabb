/- Take's one drawn statement, out, left = append(out, x), left-x.N, inside a round: by an invariant over which operations have been carried out. -/
import Derived.Test.YtkaejgpnhcdlnaaInv
import Derived.Test.YtkaejgpnhcdlnaaScD
namespace Go.Proofs.Ytkaejgpnhcdlnaa
open Go.RowKit Go.Shelf
def T9 (H X z : Nat) (c26 c28 c29 c30 vo v1 : Value) (xa xb k kn : Int) (l0 l1 l2 l3 l4 l5 l6 l7 : Bool) : Array Value := #[S2, .int .i64 2, .int .i64 2, .pointer (some ⟨H, 0, none⟩), undef, undef, .slice none 0 0, .pointer (some ⟨H + 1, 0, none⟩), .int .i64 0, .pointer (some ⟨H + 1 + 1, 0, none⟩), .pointer (some ⟨H + 1 + 1 + 1, 0, none⟩), .pointer (some ⟨X, 0, none⟩), undef, undef, .int .i64 2, .bool false, .bool false, .int .i64 2, .bool false, .bool false, undef, .int .i64 2, .int .i64 2, .bool true, .agg #[.int .i64 5, .string ⟨#[2]⟩], .func (.func 12) #[.agg #[.int .i64 5, .string ⟨#[2]⟩]] #[], c26, .pointer (some ⟨X, 1, none⟩), c28, c29, c30, .pointer (some ⟨X, 1, none⟩), (bif l0 then vo else undef), (bif l1 then .agg #[.int .i64 xa, .int .i64 xb] else undef), (bif l2 then .slice (some ⟨z, 0, none⟩) 1 1 else undef), (bif l3 then v1 else undef), (bif l4 then .int .i64 k else undef), (bif l5 then .pointer (some ⟨X, 1, none⟩) else undef), (bif l6 then .int .i64 xb else undef), (bif l7 then .int .i64 kn else undef), undef, undef, undef, undef, undef, undef, undef, undef, undef, undef, undef, undef, undef, undef, undef, undef, undef, undef, undef, undef]
theorem wpOpIn_val {F : Fence} {n : Nat} {P : Program} {ops : Array Oper} {Q : Exit → Act → World → Prop} {i : Nat} {o : Oper} {a : Act} {w w' : World} {K : Act → World → Prop} {v : Value} (ho : ops[i]? = some o) (hg : o.guard = none)
    (hab : ∀ f, o.about P w a.eval = some f → F.fn f) (hnd : ∀ c, o.op ≠ .defer c) (hrun : (execOp a.eval o).run P w = .ok (.value v) w') (hK : K (a.put o.dst v) w') : wpOpIn F n P ops Q i K a w := by
  have hw : Region.wanted o (yielded ops a.tmps) = true := by simp [Region.wanted, hg]
  unfold wpOpIn
  simp only [ho, hw, if_true]
  refine ⟨hab, ?_⟩
  rw [Oper.semAt_eq _ _ _ hnd, hrun]
  exact hK
theorem wpOpIn_skip {F : Fence} {n : Nat} {P : Program} {ops : Array Oper} {Q : Exit → Act → World → Prop} {i : Nat} {o : Oper} {a : Act} {w w' : World} {K : Act → World → Prop} (ho : ops[i]? = some o) (hg : o.guard = none)
    (hab : ∀ f, o.about P w a.eval = some f → F.fn f) (hnd : ∀ c, o.op ≠ .defer c) (hrun : (execOp a.eval o).run P w = .ok .skip w') (hK : K (a.put o.dst undef) w') : wpOpIn F n P ops Q i K a w := by
  have hw : Region.wanted o (yielded ops a.tmps) = true := by simp [Region.wanted, hg]
  unfold wpOpIn
  simp only [ho, hw, if_true]
  refine ⟨hab, ?_⟩
  rw [Oper.semAt_eq _ _ _ hnd, hrun]
  exact hK

def Inv9 (H X z : Nat) (c26 c28 c29 c30 vo v1 : Value) (xa xb k kn : Int) (W0 W1 W2 W3 W4 : World) (l : Array Bool) (a : Act) (w : World) : Prop :=
  ∃ l0 l1 l2 l3 l4 l5 l6 l7 l8 l9 : Bool, l = #[l0, l1, l2, l3, l4, l5, l6, l7, l8, l9] ∧ (l2 = true → l1 = true) ∧ (l3 = true → l0 = true ∧ l2 = true) ∧ (l6 = true → l5 = true) ∧ (l7 = true → l4 = true ∧ l6 = true) ∧ (l8 = true → l3 = true) ∧ (l9 = true → l7 = true ∧ l8 = true) ∧
    a = ⟨T9 H X z c26 c28 c29 c30 vo v1 xa xb k kn l0 l1 l2 l3 l4 l5 l6 l7, []⟩ ∧ w = (bif l9 then W4 else bif l8 then W3 else bif l3 then W2 else bif l2 then W1 else W0)

/-- The operations of region id in a code. -/
def regOps (id : Nat) : Code → Option (Array Oper)
  | .region i o _ => if i = id then some o else none
  | .seq a b => (regOps id a).or (regOps id b)
  | .cond _ a b => (regOps id a).or (regOps id b)
  | .loop c => regOps id c
  | .block _ c => regOps id c
  | .scope c => regOps id c
  | .rangeFunc _ _ a b => (regOps id a).or (regOps id b)
  | _ => none
noncomputable def ops9 : Array Oper := (Try.f8.body.bind (regOps 9)).getD #[]

set_option maxHeartbeats 1000000 in
theorem step9 {F : Fence} {n : Nat} {Q : Exit → Act → World → Prop} (H X z : Nat) (c26 c28 c29 c30 vo v1 : Value) (xa xb k kn : Int) (W0 W1 W2 W3 W4 : World)
    (r0 : (Instr.loadAt 24 (.pointer (some ⟨H + 1 + 1, 0, none⟩))).run Try.prog W0 = .ok vo W0) (r0' : (Instr.loadAt 24 (.pointer (some ⟨H + 1 + 1, 0, none⟩))).run Try.prog W1 = .ok vo W1)
    (r1 : (Instr.loadAt 26 (.pointer (some ⟨X, 0, none⟩))).run Try.prog W0 = .ok (.agg #[.int .i64 xa, .int .i64 xb]) W0)
    (r2 : (Instr.buildSlice 24 1 #[(0, .agg #[.int .i64 xa, .int .i64 xb])]).run Try.prog W0 = .ok (.slice (some ⟨z, 0, none⟩) 1 1) W1)
    (r3 : (Builtin.append_ #[24, 24] 24 #[vo, .slice (some ⟨z, 0, none⟩) 1 1]).run Try.prog W1 = .ok v1 W2)
    (r4 : ∀ W, W = W0 ∨ W = W1 ∨ W = W2 ∨ W = W3 → (Instr.loadAt 3 (.pointer (some ⟨H + 1 + 1 + 1, 0, none⟩))).run Try.prog W = .ok (.int .i64 k) W)
    (r5 : ∀ W, (Instr.fieldAt 26 (.pointer (some ⟨X, 0, none⟩)) 1).run Try.prog W = .ok (.pointer (some ⟨X, 1, none⟩)) W)
    (r6 : ∀ W, W = W0 ∨ W = W1 ∨ W = W2 ∨ W = W3 → (Instr.loadAt 3 (.pointer (some ⟨X, 1, none⟩))).run Try.prog W = .ok (.int .i64 xb) W)
    (r7 : ∀ W, (do eqGuard .sub 3 (.tmp 36) (.tmp 38) (.int .i64 k) (.int .i64 xb); binOp .sub 3 (.int .i64 k) (.int .i64 xb) : Sem Value).run Try.prog W = .ok (.int .i64 kn) W)
    (r8 : (Instr.storeAt 24 (.pointer (some ⟨H + 1 + 1, 0, none⟩)) v1).run Try.prog W2 = .ok () W3)
    (r9 : (Instr.storeAt 3 (.pointer (some ⟨H + 1 + 1 + 1, 0, none⟩)) (.int .i64 kn)).run Try.prog W3 = .ok () W4)
    (l : Array Bool) (a : Act) (w : World) (i : Nat) (hI : Inv9 H X z c26 c28 c29 c30 vo v1 xa xb k kn W0 W1 W2 W3 W4 l a w) (hi : i ∈ Region.ready .any ops9 l) :
    wpOpIn F n Try.prog ops9 Q i (Inv9 H X z c26 c28 c29 c30 vo v1 xa xb k kn W0 W1 W2 W3 W4 (l.setIfInBounds i true)) a w := by
  obtain ⟨l0, l1, l2, l3, l4, l5, l6, l7, l8, l9, rfl, e2, e3, e6, e7, e8, e9, rfl, rfl⟩ := hI
  obtain ⟨h0, o, ho, he⟩ := mem_ready.1 hi
  have hlt : i < 10 := (Array.getElem?_eq_some_iff.1 ho).1
  match i, hlt with
  | 0, _ =>
    simp at h0
    subst h0
    have f3 : l3 = false := Bool.eq_false_iff.2 (fun h => absurd (e3 h).1 (by decide))
    subst f3
    have f8 : l8 = false := Bool.eq_false_iff.2 (fun h => absurd (e8 h) (by decide))
    subst f8
    have f9 : l9 = false := Bool.eq_false_iff.2 (fun h => absurd (e9 h).2 (by decide))
    subst f9
    have hq : (Instr.loadAt 24 (.pointer (some ⟨H + 1 + 1, 0, none⟩))).run Try.prog (bif false then W4 else bif false then W3 else bif false then W2 else bif l2 then W1 else W0) = .ok (vo) (bif false then W4 else bif false then W3 else bif false then W2 else bif l2 then W1 else W0) := (by cases l2 <;> first | exact r0 | exact r0')
    have hr : (execOp (Act.eval ⟨T9 H X z c26 c28 c29 c30 vo v1 xa xb k kn false l1 l2 false l4 l5 l6 l7, []⟩) ops9[0]).run Try.prog (bif false then W4 else bif false then W3 else bif false then W2 else bif l2 then W1 else W0) = .ok (.value (vo)) (bif false then W4 else bif false then W3 else bif false then W2 else bif l2 then W1 else W0) := by
      show ((do pure (Next.value (← Instr.loadAt 24 (.pointer (some ⟨H + 1 + 1, 0, none⟩))))) : Sem Next).run Try.prog _ = _
      rw [Sem.run_bind, hq]
      rfl
    refine wpOpIn_val (ops := ops9) (i := 0) (o := ops9[0]) rfl rfl (by intro f hf; cases hf) (by intro c h; cases h) hr ?_
    exact ⟨true, l1, l2, false, l4, l5, l6, l7, false, false, rfl, e2, (fun h => absurd h (by decide)), e6, e7, (fun h => absurd h (by decide)), (fun h => absurd h (by decide)), rfl, rfl⟩
  | 1, _ =>
    simp at h0
    subst h0
    have f2 : l2 = false := Bool.eq_false_iff.2 (fun h => absurd (e2 h) (by decide))
    subst f2
    have f3 : l3 = false := Bool.eq_false_iff.2 (fun h => absurd (e3 h).2 (by decide))
    subst f3
    have f8 : l8 = false := Bool.eq_false_iff.2 (fun h => absurd (e8 h) (by decide))
    subst f8
    have f9 : l9 = false := Bool.eq_false_iff.2 (fun h => absurd (e9 h).2 (by decide))
    subst f9
    have hq : (Instr.loadAt 26 (.pointer (some ⟨X, 0, none⟩))).run Try.prog (bif false then W4 else bif false then W3 else bif false then W2 else bif false then W1 else W0) = .ok (.agg #[.int .i64 xa, .int .i64 xb]) (bif false then W4 else bif false then W3 else bif false then W2 else bif false then W1 else W0) := r1
    have hr : (execOp (Act.eval ⟨T9 H X z c26 c28 c29 c30 vo v1 xa xb k kn l0 false false false l4 l5 l6 l7, []⟩) ops9[1]).run Try.prog (bif false then W4 else bif false then W3 else bif false then W2 else bif false then W1 else W0) = .ok (.value (.agg #[.int .i64 xa, .int .i64 xb])) (bif false then W4 else bif false then W3 else bif false then W2 else bif false then W1 else W0) := by
      show ((do pure (Next.value (← Instr.loadAt 26 (.pointer (some ⟨X, 0, none⟩))))) : Sem Next).run Try.prog _ = _
      rw [Sem.run_bind, hq]
      rfl
    refine wpOpIn_val (ops := ops9) (i := 1) (o := ops9[1]) rfl rfl (by intro f hf; cases hf) (by intro c h; cases h) hr ?_
    exact ⟨l0, true, false, false, l4, l5, l6, l7, false, false, rfl, (fun h => absurd h (by decide)), (fun h => absurd h (by decide)), e6, e7, (fun h => absurd h (by decide)), (fun h => absurd h (by decide)), rfl, rfl⟩
  | 2, _ =>
    simp at h0
    subst h0
    obtain rfl : ops9[2] = o := Option.some.inj ho
    have t1 : l1 = true := he _ (Array.mem_of_getElem? (i := 0) rfl) rfl
    clear he
    subst t1
    have f3 : l3 = false := Bool.eq_false_iff.2 (fun h => absurd (e3 h).2 (by decide))
    subst f3
    have f8 : l8 = false := Bool.eq_false_iff.2 (fun h => absurd (e8 h) (by decide))
    subst f8
    have f9 : l9 = false := Bool.eq_false_iff.2 (fun h => absurd (e9 h).2 (by decide))
    subst f9
    have hr : (execOp (Act.eval ⟨T9 H X z c26 c28 c29 c30 vo v1 xa xb k kn l0 true false false l4 l5 l6 l7, []⟩) ops9[2]).run Try.prog (bif false then W4 else bif false then W3 else bif false then W2 else bif false then W1 else W0) = .ok (.value (.slice (some ⟨z, 0, none⟩) 1 1)) (bif false then W4 else bif false then W3 else bif false then W2 else bif true then W1 else W0) := by
      show ((do pure (Next.value (← Instr.buildSlice 24 1 (#[(0, Operand.tmp 33)].map fun p => (p.1, (Act.eval ⟨T9 H X z c26 c28 c29 c30 vo v1 xa xb k kn l0 true false false l4 l5 l6 l7, []⟩) p.2))))) : Sem Next).run Try.prog _ = _
      rw [show (#[(0, Operand.tmp 33)].map fun p => (p.1, (Act.eval ⟨T9 H X z c26 c28 c29 c30 vo v1 xa xb k kn l0 true false false l4 l5 l6 l7, []⟩) p.2)) = #[(0, .agg #[.int .i64 xa, .int .i64 xb])] from by simp; rfl]
      rw [Sem.run_bind]
      show (((Instr.buildSlice 24 1 #[(0, .agg #[.int .i64 xa, .int .i64 xb])]).run Try.prog W0).andThen _) = _
      rw [r2]
      rfl
    refine wpOpIn_val (ops := ops9) (i := 2) (o := ops9[2]) rfl rfl (by intro f hf; cases hf) (by intro c h; cases h) hr ?_
    exact ⟨l0, true, true, false, l4, l5, l6, l7, false, false, rfl, (fun _ => rfl), (fun h => absurd h (by decide)), e6, e7, (fun h => absurd h (by decide)), (fun h => absurd h (by decide)), rfl, rfl⟩
  | 3, _ =>
    simp at h0
    subst h0
    obtain rfl : ops9[3] = o := Option.some.inj ho
    have t0 : l0 = true := he _ (Array.mem_of_getElem? (i := 0) rfl) rfl
    have t2 : l2 = true := he _ (Array.mem_of_getElem? (i := 1) rfl) rfl
    have t1 := e2 t2
    clear he
    subst t0
    subst t2
    subst t1
    have f8 : l8 = false := Bool.eq_false_iff.2 (fun h => absurd (e8 h) (by decide))
    subst f8
    have f9 : l9 = false := Bool.eq_false_iff.2 (fun h => absurd (e9 h).2 (by decide))
    subst f9
    have hr : (execOp (Act.eval ⟨T9 H X z c26 c28 c29 c30 vo v1 xa xb k kn true true true false l4 l5 l6 l7, []⟩) ops9[3]).run Try.prog (bif false then W4 else bif false then W3 else bif false then W2 else bif true then W1 else W0) = .ok (.value v1) (bif false then W4 else bif false then W3 else bif true then W2 else bif true then W1 else W0) := by
      show ((do let d ← resolve _ _ _; invoke d.target d.args) : Sem Next).run Try.prog W1 = _
      simp only [resolve, invoke, builtin, Sem.run_bind, Sem.run_pure, Result.andThen_ok, List.map_toArray, List.map_cons, List.map_nil]
      show (((Builtin.append_ #[24, 24] 24 #[vo, .slice (some ⟨z, 0, none⟩) 1 1]).run Try.prog W1).andThen _) = _
      rw [r3]
      rfl
    refine wpOpIn_val (ops := ops9) (i := 3) (o := ops9[3]) rfl rfl (by intro f hf; cases (show (none : Option FuncId) = some f from hf)) (by intro c h; cases h) hr ?_
    exact ⟨true, true, true, true, l4, l5, l6, l7, false, false, rfl, (fun _ => rfl), (fun _ => ⟨rfl, rfl⟩), e6, e7, (fun h => absurd h (by decide)), (fun h => absurd h (by decide)), rfl, rfl⟩
  | 4, _ =>
    simp at h0
    subst h0
    have f7 : l7 = false := Bool.eq_false_iff.2 (fun h => absurd (e7 h).1 (by decide))
    subst f7
    have f9 : l9 = false := Bool.eq_false_iff.2 (fun h => absurd (e9 h).1 (by decide))
    subst f9
    have hq : (Instr.loadAt 3 (.pointer (some ⟨H + 1 + 1 + 1, 0, none⟩))).run Try.prog (bif false then W4 else bif l8 then W3 else bif l3 then W2 else bif l2 then W1 else W0) = .ok (.int .i64 k) (bif false then W4 else bif l8 then W3 else bif l3 then W2 else bif l2 then W1 else W0) := r4 _ (by cases l8 <;> cases l3 <;> cases l2 <;> simp)
    have hr : (execOp (Act.eval ⟨T9 H X z c26 c28 c29 c30 vo v1 xa xb k kn l0 l1 l2 l3 false l5 l6 false, []⟩) ops9[4]).run Try.prog (bif false then W4 else bif l8 then W3 else bif l3 then W2 else bif l2 then W1 else W0) = .ok (.value (.int .i64 k)) (bif false then W4 else bif l8 then W3 else bif l3 then W2 else bif l2 then W1 else W0) := by
      show ((do pure (Next.value (← Instr.loadAt 3 (.pointer (some ⟨H + 1 + 1 + 1, 0, none⟩))))) : Sem Next).run Try.prog _ = _
      rw [Sem.run_bind, hq]
      rfl
    refine wpOpIn_val (ops := ops9) (i := 4) (o := ops9[4]) rfl rfl (by intro f hf; cases hf) (by intro c h; cases h) hr ?_
    exact ⟨l0, l1, l2, l3, true, l5, l6, false, l8, false, rfl, e2, e3, e6, (fun h => absurd h (by decide)), e8, (fun h => absurd h (by decide)), rfl, rfl⟩
  | 5, _ =>
    simp at h0
    subst h0
    have f6 : l6 = false := Bool.eq_false_iff.2 (fun h => absurd (e6 h) (by decide))
    subst f6
    have f7 : l7 = false := Bool.eq_false_iff.2 (fun h => absurd (e7 h).2 (by decide))
    subst f7
    have f9 : l9 = false := Bool.eq_false_iff.2 (fun h => absurd (e9 h).1 (by decide))
    subst f9
    have hq : (Instr.fieldAt 26 (.pointer (some ⟨X, 0, none⟩)) 1).run Try.prog (bif false then W4 else bif l8 then W3 else bif l3 then W2 else bif l2 then W1 else W0) = .ok (.pointer (some ⟨X, 1, none⟩)) (bif false then W4 else bif l8 then W3 else bif l3 then W2 else bif l2 then W1 else W0) := r5 _
    have hr : (execOp (Act.eval ⟨T9 H X z c26 c28 c29 c30 vo v1 xa xb k kn l0 l1 l2 l3 l4 false false false, []⟩) ops9[5]).run Try.prog (bif false then W4 else bif l8 then W3 else bif l3 then W2 else bif l2 then W1 else W0) = .ok (.value (.pointer (some ⟨X, 1, none⟩))) (bif false then W4 else bif l8 then W3 else bif l3 then W2 else bif l2 then W1 else W0) := by
      show ((do pure (Next.value (← Instr.fieldAt 26 (.pointer (some ⟨X, 0, none⟩)) 1))) : Sem Next).run Try.prog _ = _
      rw [Sem.run_bind, hq]
      rfl
    refine wpOpIn_val (ops := ops9) (i := 5) (o := ops9[5]) rfl rfl (by intro f hf; cases hf) (by intro c h; cases h) hr ?_
    exact ⟨l0, l1, l2, l3, l4, true, false, false, l8, false, rfl, e2, e3, (fun h => absurd h (by decide)), (fun h => absurd h (by decide)), e8, (fun h => absurd h (by decide)), rfl, rfl⟩
  | 6, _ =>
    simp at h0
    subst h0
    obtain rfl : ops9[6] = o := Option.some.inj ho
    have t5 : l5 = true := he _ (Array.mem_of_getElem? (i := 0) rfl) rfl
    clear he
    subst t5
    have f7 : l7 = false := Bool.eq_false_iff.2 (fun h => absurd (e7 h).2 (by decide))
    subst f7
    have f9 : l9 = false := Bool.eq_false_iff.2 (fun h => absurd (e9 h).1 (by decide))
    subst f9
    have hq : (Instr.loadAt 3 (.pointer (some ⟨X, 1, none⟩))).run Try.prog (bif false then W4 else bif l8 then W3 else bif l3 then W2 else bif l2 then W1 else W0) = .ok (.int .i64 xb) (bif false then W4 else bif l8 then W3 else bif l3 then W2 else bif l2 then W1 else W0) := r6 _ (by cases l8 <;> cases l3 <;> cases l2 <;> simp)
    have hr : (execOp (Act.eval ⟨T9 H X z c26 c28 c29 c30 vo v1 xa xb k kn l0 l1 l2 l3 l4 true false false, []⟩) ops9[6]).run Try.prog (bif false then W4 else bif l8 then W3 else bif l3 then W2 else bif l2 then W1 else W0) = .ok (.value (.int .i64 xb)) (bif false then W4 else bif l8 then W3 else bif l3 then W2 else bif l2 then W1 else W0) := by
      show ((do pure (Next.value (← Instr.loadAt 3 (.pointer (some ⟨X, 1, none⟩))))) : Sem Next).run Try.prog _ = _
      rw [Sem.run_bind, hq]
      rfl
    refine wpOpIn_val (ops := ops9) (i := 6) (o := ops9[6]) rfl rfl (by intro f hf; cases hf) (by intro c h; cases h) hr ?_
    exact ⟨l0, l1, l2, l3, l4, true, true, false, l8, false, rfl, e2, e3, (fun _ => rfl), (fun h => absurd h (by decide)), e8, (fun h => absurd h (by decide)), rfl, rfl⟩
  | 7, _ =>
    simp at h0
    subst h0
    obtain rfl : ops9[7] = o := Option.some.inj ho
    have t4 : l4 = true := he _ (Array.mem_of_getElem? (i := 0) rfl) rfl
    have t6 : l6 = true := he _ (Array.mem_of_getElem? (i := 1) rfl) rfl
    have t5 := e6 t6
    clear he
    subst t4
    subst t6
    subst t5
    have f9 : l9 = false := Bool.eq_false_iff.2 (fun h => absurd (e9 h).1 (by decide))
    subst f9
    have hq : ((do eqGuard .sub 3 (.tmp 36) (.tmp 38) (.int .i64 k) (.int .i64 xb); binOp .sub 3 (.int .i64 k) (.int .i64 xb) : Sem Value)).run Try.prog (bif false then W4 else bif l8 then W3 else bif l3 then W2 else bif l2 then W1 else W0) = .ok (.int .i64 kn) (bif false then W4 else bif l8 then W3 else bif l3 then W2 else bif l2 then W1 else W0) := r7 _
    have hr : (execOp (Act.eval ⟨T9 H X z c26 c28 c29 c30 vo v1 xa xb k kn l0 l1 l2 l3 true true true false, []⟩) ops9[7]).run Try.prog (bif false then W4 else bif l8 then W3 else bif l3 then W2 else bif l2 then W1 else W0) = .ok (.value (.int .i64 kn)) (bif false then W4 else bif l8 then W3 else bif l3 then W2 else bif l2 then W1 else W0) := by
      show ((do pure (Next.value (← (do eqGuard .sub 3 (.tmp 36) (.tmp 38) (.int .i64 k) (.int .i64 xb); binOp .sub 3 (.int .i64 k) (.int .i64 xb) : Sem Value)))) : Sem Next).run Try.prog _ = _
      rw [Sem.run_bind, hq]
      rfl
    refine wpOpIn_val (ops := ops9) (i := 7) (o := ops9[7]) rfl rfl (by intro f hf; cases hf) (by intro c h; cases h) hr ?_
    exact ⟨l0, l1, l2, l3, true, true, true, true, l8, false, rfl, e2, e3, (fun _ => rfl), (fun _ => ⟨rfl, rfl⟩), e8, (fun h => absurd h (by decide)), rfl, rfl⟩
  | 8, _ =>
    simp at h0
    subst h0
    obtain rfl : ops9[8] = o := Option.some.inj ho
    have t3 : l3 = true := he _ (Array.mem_of_getElem? (i := 0) rfl) rfl
    have t0 : l0 = true := he _ (Array.mem_of_getElem? (i := 2) rfl) rfl
    have t1 : l1 = true := he _ (Array.mem_of_getElem? (i := 3) rfl) rfl
    have t2 : l2 = true := he _ (Array.mem_of_getElem? (i := 4) rfl) rfl
    clear he
    subst t3
    subst t0
    subst t1
    subst t2
    have f9 : l9 = false := Bool.eq_false_iff.2 (fun h => absurd (e9 h).2 (by decide))
    subst f9
    have hq : (Instr.storeAt 24 (.pointer (some ⟨H + 1 + 1, 0, none⟩)) v1).run Try.prog (bif false then W4 else bif false then W3 else bif true then W2 else bif true then W1 else W0) = .ok () (bif false then W4 else bif true then W3 else bif true then W2 else bif true then W1 else W0) := r8
    have hr : (execOp (Act.eval ⟨T9 H X z c26 c28 c29 c30 vo v1 xa xb k kn true true true true l4 l5 l6 l7, []⟩) ops9[8]).run Try.prog (bif false then W4 else bif false then W3 else bif true then W2 else bif true then W1 else W0) = .ok .skip (bif false then W4 else bif true then W3 else bif true then W2 else bif true then W1 else W0) := by
      show ((do Instr.storeAt 24 (.pointer (some ⟨H + 1 + 1, 0, none⟩)) v1; pure Next.skip) : Sem Next).run Try.prog _ = _
      rw [Sem.run_bind, hq]
      rfl
    refine wpOpIn_skip (ops := ops9) (i := 8) (o := ops9[8]) rfl rfl (by intro f hf; cases hf) (by intro c h; cases h) hr ?_
    exact ⟨true, true, true, true, l4, l5, l6, l7, true, false, rfl, (fun _ => rfl), (fun _ => ⟨rfl, rfl⟩), e6, e7, (fun _ => rfl), (fun h => absurd h (by decide)), rfl, rfl⟩
  | 9, _ =>
    simp at h0
    subst h0
    obtain rfl : ops9[9] = o := Option.some.inj ho
    have t7 : l7 = true := he _ (Array.mem_of_getElem? (i := 0) rfl) rfl
    have t8 : l8 = true := he _ (Array.mem_of_getElem? (i := 1) rfl) rfl
    have t0 : l0 = true := he _ (Array.mem_of_getElem? (i := 2) rfl) rfl
    have t1 : l1 = true := he _ (Array.mem_of_getElem? (i := 3) rfl) rfl
    have t2 : l2 = true := he _ (Array.mem_of_getElem? (i := 4) rfl) rfl
    have t3 : l3 = true := he _ (Array.mem_of_getElem? (i := 5) rfl) rfl
    have t4 : l4 = true := he _ (Array.mem_of_getElem? (i := 6) rfl) rfl
    have t5 : l5 = true := he _ (Array.mem_of_getElem? (i := 7) rfl) rfl
    have t6 : l6 = true := he _ (Array.mem_of_getElem? (i := 8) rfl) rfl
    clear he
    subst t7
    subst t8
    subst t0
    subst t1
    subst t2
    subst t3
    subst t4
    subst t5
    subst t6
    have hq : (Instr.storeAt 3 (.pointer (some ⟨H + 1 + 1 + 1, 0, none⟩)) (.int .i64 kn)).run Try.prog (bif false then W4 else bif true then W3 else bif true then W2 else bif true then W1 else W0) = .ok () (bif true then W4 else bif true then W3 else bif true then W2 else bif true then W1 else W0) := r9
    have hr : (execOp (Act.eval ⟨T9 H X z c26 c28 c29 c30 vo v1 xa xb k kn true true true true true true true true, []⟩) ops9[9]).run Try.prog (bif false then W4 else bif true then W3 else bif true then W2 else bif true then W1 else W0) = .ok .skip (bif true then W4 else bif true then W3 else bif true then W2 else bif true then W1 else W0) := by
      show ((do Instr.storeAt 3 (.pointer (some ⟨H + 1 + 1 + 1, 0, none⟩)) (.int .i64 kn); pure Next.skip) : Sem Next).run Try.prog _ = _
      rw [Sem.run_bind, hq]
      rfl
    refine wpOpIn_skip (ops := ops9) (i := 9) (o := ops9[9]) rfl rfl (by intro f hf; cases hf) (by intro c h; cases h) hr ?_
    exact ⟨true, true, true, true, true, true, true, true, true, true, rfl, (fun _ => rfl), (fun _ => ⟨rfl, rfl⟩), (fun _ => rfl), (fun _ => ⟨rfl, rfl⟩), (fun _ => rfl), (fun _ => ⟨rfl, rfl⟩), rfl, rfl⟩
  | _ + 10, h => omega

theorem done9 {H X z : Nat} {c26 c28 c29 c30 vo v1 : Value} {xa xb k kn : Int} {W0 W1 W2 W3 W4 : World} {l : Array Bool} {a : Act} {w : World} (hI : Inv9 H X z c26 c28 c29 c30 vo v1 xa xb k kn W0 W1 W2 W3 W4 l a w) (hr : Region.ready .any ops9 l = []) :
    a = ⟨T9 H X z c26 c28 c29 c30 vo v1 xa xb k kn true true true true true true true true, []⟩ ∧ w = W4 := by
  obtain ⟨l0, l1, l2, l3, l4, l5, l6, l7, l8, l9, rfl, e2, e3, e6, e7, e8, e9, rfl, rfl⟩ := hI
  have no : ∀ i, i ∈ Region.ready .any ops9 #[l0, l1, l2, l3, l4, l5, l6, l7, l8, l9] → False := fun i h => by rw [hr] at h; cases h
  clear e2 e3 e6 e7 e8 e9 hr
  cases l0
  · refine (no 0 (mem_ready.2 ⟨rfl, ops9[0], rfl, fun e he hb => ?_⟩)).elim
    obtain ⟨j, hj, rfl⟩ := Array.mem_iff_getElem.1 he
    clear no he
    exact absurd (show j < 0 from hj) (by omega)
  cases l1
  · refine (no 1 (mem_ready.2 ⟨rfl, ops9[1], rfl, fun e he hb => ?_⟩)).elim
    obtain ⟨j, hj, rfl⟩ := Array.mem_iff_getElem.1 he
    clear no he
    exact absurd (show j < 0 from hj) (by omega)
  cases l4
  · refine (no 4 (mem_ready.2 ⟨rfl, ops9[4], rfl, fun e he hb => ?_⟩)).elim
    obtain ⟨j, hj, rfl⟩ := Array.mem_iff_getElem.1 he
    clear no he
    exact absurd (show j < 0 from hj) (by omega)
  cases l5
  · refine (no 5 (mem_ready.2 ⟨rfl, ops9[5], rfl, fun e he hb => ?_⟩)).elim
    obtain ⟨j, hj, rfl⟩ := Array.mem_iff_getElem.1 he
    clear no he
    exact absurd (show j < 0 from hj) (by omega)
  cases l2
  · refine (no 2 (mem_ready.2 ⟨rfl, ops9[2], rfl, fun e he hb => ?_⟩)).elim
    obtain ⟨j, hj, rfl⟩ := Array.mem_iff_getElem.1 he
    clear no he
    match j, hj with
    | 0, _ => first | rfl | exact absurd hb (by decide)
    | j + 1, h => exact absurd (show j + 1 < 1 from h) (by omega)
  cases l6
  · refine (no 6 (mem_ready.2 ⟨rfl, ops9[6], rfl, fun e he hb => ?_⟩)).elim
    obtain ⟨j, hj, rfl⟩ := Array.mem_iff_getElem.1 he
    clear no he
    match j, hj with
    | 0, _ => first | rfl | exact absurd hb (by decide)
    | j + 1, h => exact absurd (show j + 1 < 1 from h) (by omega)
  cases l3
  · refine (no 3 (mem_ready.2 ⟨rfl, ops9[3], rfl, fun e he hb => ?_⟩)).elim
    obtain ⟨j, hj, rfl⟩ := Array.mem_iff_getElem.1 he
    clear no he
    match j, hj with
    | 0, _ => first | rfl | exact absurd hb (by decide)
    | 1, _ => first | rfl | exact absurd hb (by decide)
    | j + 2, h => exact absurd (show j + 2 < 2 from h) (by omega)
  cases l7
  · refine (no 7 (mem_ready.2 ⟨rfl, ops9[7], rfl, fun e he hb => ?_⟩)).elim
    obtain ⟨j, hj, rfl⟩ := Array.mem_iff_getElem.1 he
    clear no he
    match j, hj with
    | 0, _ => first | rfl | exact absurd hb (by decide)
    | 1, _ => first | rfl | exact absurd hb (by decide)
    | j + 2, h => exact absurd (show j + 2 < 2 from h) (by omega)
  cases l8
  · refine (no 8 (mem_ready.2 ⟨rfl, ops9[8], rfl, fun e he hb => ?_⟩)).elim
    obtain ⟨j, hj, rfl⟩ := Array.mem_iff_getElem.1 he
    clear no he
    match j, hj with
    | 0, _ => first | rfl | exact absurd hb (by decide)
    | 1, _ => first | rfl | exact absurd hb (by decide)
    | 2, _ => first | rfl | exact absurd hb (by decide)
    | 3, _ => first | rfl | exact absurd hb (by decide)
    | 4, _ => first | rfl | exact absurd hb (by decide)
    | 5, _ => first | rfl | exact absurd hb (by decide)
    | 6, _ => first | rfl | exact absurd hb (by decide)
    | 7, _ => first | rfl | exact absurd hb (by decide)
    | 8, _ => first | rfl | exact absurd hb (by decide)
    | 9, _ => first | rfl | exact absurd hb (by decide)
    | j + 10, h => exact absurd (show j + 10 < 10 from h) (by omega)
  cases l9
  · refine (no 9 (mem_ready.2 ⟨rfl, ops9[9], rfl, fun e he hb => ?_⟩)).elim
    obtain ⟨j, hj, rfl⟩ := Array.mem_iff_getElem.1 he
    clear no he
    match j, hj with
    | 0, _ => first | rfl | exact absurd hb (by decide)
    | 1, _ => first | rfl | exact absurd hb (by decide)
    | 2, _ => first | rfl | exact absurd hb (by decide)
    | 3, _ => first | rfl | exact absurd hb (by decide)
    | 4, _ => first | rfl | exact absurd hb (by decide)
    | 5, _ => first | rfl | exact absurd hb (by decide)
    | 6, _ => first | rfl | exact absurd hb (by decide)
    | 7, _ => first | rfl | exact absurd hb (by decide)
    | 8, _ => first | rfl | exact absurd hb (by decide)
    | 9, _ => first | rfl | exact absurd hb (by decide)
    | 10, _ => first | rfl | exact absurd hb (by decide)
    | j + 11, h => exact absurd (show j + 11 < 11 from h) (by omega)
  exact ⟨rfl, rfl⟩
theorem region9 {F : Fence} {n : Nat} {Q : Exit → Act → World → Prop} (H X z : Nat) (c26 c28 c29 c30 vo v1 : Value) (xa xb k kn : Int) (W W1 W2 W3 W4 : World)
    (r0 : (Instr.loadAt 24 (.pointer (some ⟨H + 1 + 1, 0, none⟩))).run Try.prog W.drew = .ok vo W.drew) (r0' : (Instr.loadAt 24 (.pointer (some ⟨H + 1 + 1, 0, none⟩))).run Try.prog W1 = .ok vo W1)
    (r1 : (Instr.loadAt 26 (.pointer (some ⟨X, 0, none⟩))).run Try.prog W.drew = .ok (.agg #[.int .i64 xa, .int .i64 xb]) W.drew)
    (r2 : (Instr.buildSlice 24 1 #[(0, .agg #[.int .i64 xa, .int .i64 xb])]).run Try.prog W.drew = .ok (.slice (some ⟨z, 0, none⟩) 1 1) W1)
    (r3 : (Builtin.append_ #[24, 24] 24 #[vo, .slice (some ⟨z, 0, none⟩) 1 1]).run Try.prog W1 = .ok v1 W2)
    (r4 : ∀ V, V = W.drew ∨ V = W1 ∨ V = W2 ∨ V = W3 → (Instr.loadAt 3 (.pointer (some ⟨H + 1 + 1 + 1, 0, none⟩))).run Try.prog V = .ok (.int .i64 k) V)
    (r5 : ∀ V, (Instr.fieldAt 26 (.pointer (some ⟨X, 0, none⟩)) 1).run Try.prog V = .ok (.pointer (some ⟨X, 1, none⟩)) V)
    (r6 : ∀ V, V = W.drew ∨ V = W1 ∨ V = W2 ∨ V = W3 → (Instr.loadAt 3 (.pointer (some ⟨X, 1, none⟩))).run Try.prog V = .ok (.int .i64 xb) V)
    (r7 : ∀ V, (do eqGuard .sub 3 (.tmp 36) (.tmp 38) (.int .i64 k) (.int .i64 xb); binOp .sub 3 (.int .i64 k) (.int .i64 xb) : Sem Value).run Try.prog V = .ok (.int .i64 kn) V)
    (r8 : (Instr.storeAt 24 (.pointer (some ⟨H + 1 + 1, 0, none⟩)) v1).run Try.prog W2 = .ok () W3)
    (r9 : (Instr.storeAt 3 (.pointer (some ⟨H + 1 + 1 + 1, 0, none⟩)) (.int .i64 kn)).run Try.prog W3 = .ok () W4)
    (hQ : Q .normal ⟨T9 H X z c26 c28 c29 c30 vo v1 xa xb k kn true true true true true true true true, []⟩ W4) :
    (Code.region 9 ops9 true).wpIn F n Try.prog Q ⟨T9 H X z c26 c28 c29 c30 vo v1 xa xb k kn false false false false false false false false, []⟩ W := by
  refine wpIn_region_any (by kernel_rfl) ?_
  refine wpAnyIn_inv (Inv9 H X z c26 c28 c29 c30 vo v1 xa xb k kn W.drew W1 W2 W3 W4) ?_ ?_ (fun l a w i hI hi => step9 H X z c26 c28 c29 c30 vo v1 xa xb k kn W.drew W1 W2 W3 W4 r0 r0' r1 r2 r3 r4 r5 r6 r7 r8 r9 l a w i hI hi) _ _ _ _
    ⟨false, false, false, false, false, false, false, false, false, false, rfl, (fun h => absurd h (by decide)), (fun h => absurd h (by decide)), (fun h => absurd h (by decide)), (fun h => absurd h (by decide)), (fun h => absurd h (by decide)), (fun h => absurd h (by decide)), rfl, rfl⟩ (by decide)
  · rintro l a w ⟨l0, l1, l2, l3, l4, l5, l6, l7, l8, l9, rfl, _⟩
    rfl
  · intro l a w hI hr
    obtain ⟨rfl, rfl⟩ := done9 hI hr
    exact hQ
end Go.Proofs.Ytkaejgpnhcdlnaa
