/- Plain laws: with more pairs behind a list its tokens go on as they were. -/
import Derived.Test.YtejokbfejkkpmaaDoorSk
import Derived.Laws.StructEq
import Derived.BigQuiet
namespace Go.Proofs.YtejokbfejkkpmaaDoor
theorem addT_prefix (ts : List Bs) (s : Bs) : ts <+: addT ts s := by
  unfold addT; split
  · exact List.prefix_refl _
  · exact List.prefix_append _ _
theorem fold_prefix (ps : List (Bs × Bs)) : ∀ ts, ts <+: ps.foldl (fun ts p => addT ts (p.1 ++ p.2)) ts ∧ (ps.foldl (fun ts p => addT ts (p.1 ++ p.2)) ts).length ≤ ts.length + ps.length := by
  induction ps with
  | nil => intro ts; exact ⟨List.prefix_refl _, by simp⟩
  | cons p ps ih =>
    intro ts
    obtain ⟨h1, h2⟩ := ih (addT ts (p.1 ++ p.2))
    have := addT_len ts (p.1 ++ p.2)
    exact ⟨(addT_prefix _ _).trans h1, by simp only [List.foldl_cons, List.length_cons]; omega⟩
theorem ofT_more (a b : List (Bs × Bs)) : ofT a <+: ofT (a ++ b) ∧ (ofT (a ++ b)).length ≤ (ofT a).length + b.length := by
  unfold ofT
  rw [List.foldl_append]
  exact fold_prefix b _
theorem base_tok : ∀ t ∈ baseT, tok t = true := by decide
theorem fold_tok (ps : List (Bs × Bs)) : ∀ ts, (∀ t ∈ ts, tok t = true) → ∀ t ∈ ps.foldl (fun ts p => addT ts (p.1 ++ p.2)) ts, tok t = true := by
  induction ps with
  | nil => intro ts h; exact h
  | cons p ps ih =>
    intro ts h
    refine ih (addT ts (p.1 ++ p.2)) ?_
    unfold addT; split
    · exact h
    · rename_i hc
      intro t ht
      rcases List.mem_append.1 ht with h1 | h1
      · exact h t h1
      · simp at h1
        subst h1
        simp at hc
        exact hc.2
theorem ofT_tok (ps : List (Bs × Bs)) : ∀ t ∈ ofT ps, tok t = true := fold_tok ps _ base_tok
theorem tok_small {t : Bs} (h : tok t = true) : t.length ≤ 64 := by
  unfold tok at h
  simp at h
  exact h.2.2
theorem ofT_len (ps : List (Bs × Bs)) : 94 ≤ (ofT ps).length ∧ (ofT ps).length ≤ 94 + ps.length := by
  obtain ⟨h1, h2⟩ := fold_prefix ps baseT
  have h3 : baseT.length = 94 := by decide
  have := h1.length_le
  unfold ofT
  omega
end Go.Proofs.YtejokbfejkkpmaaDoor
/- VocabMore, walked. -/
namespace Go.Proofs.YtejokbfejkkpmaaDoor
open Go.RowKit Go.Maps Go.WideMaps
theorem pcells_at (l : List (Bs × Bs)) : ∀ j (h : j < l.length), (pcells l)[j * 2]? = some (.string (mk l[j].1)) ∧ (pcells l)[j * 2 + 1]? = some (.string (mk l[j].2)) := by
  induction l with
  | nil => intro j h; simp at h
  | cons a l ih =>
    intro j h
    cases j with
    | zero => simp [pcells]
    | succ j =>
      have := ih j (by simpa using h)
      rw [show (j + 1) * 2 = j * 2 + 2 from by omega]
      simpa [pcells] using this
theorem pcells_one (l : List (Bs × Bs)) : ∀ u ∈ pcells l, u.oneCell' = true := by
  induction l with
  | nil => intro u hu; cases hu
  | cons a l ih =>
    intro u hu
    simp only [pcells, List.mem_cons] at hu
    rcases hu with rfl | rfl | hu
    · rfl
    · rfl
    · exact ih _ hu
theorem pcells_append (a b : List (Bs × Bs)) : pcells (a ++ b) = pcells a ++ pcells b := by
  induction a with
  | nil => rfl
  | cons x a ih => simp [pcells, ih]
/-- Each text is short enough for any machine. -/
def Small (ps : List (Bs × Bs)) : Prop := ∀ p ∈ ps, p.1.length ≤ 140737488355328 ∧ p.2.length ≤ 140737488355328
theorem Small.take {ps : List (Bs × Bs)} (h : Small ps) (k : Nat) : Small (ps.take k) := fun p hp => h p (List.mem_of_mem_take hp)
theorem Small.append {a b : List (Bs × Bs)} (h : Small a) (h' : Small b) : Small (a ++ b) := fun p hp => (List.mem_append.1 hp).elim (h p) (h' p)
theorem pairs_of_row {w : World} {B cap n : Nat} {A : Option Addr} {ps : List (Bs × Bs)} (h : w.ownsRow B 55 2 (.slice A n cap) n (pcells ps)) (hn : ps.length = n) (hs : Small ps) : Pairs w A ps := by
  refine ⟨fun h0 => ?_, fun p hp => by have := hs p hp; omega⟩
  obtain ⟨g, c, hv, _, hgl⟩ := h.form (by omega)
  injection hv with hA _ hc
  subst hA
  refine ⟨g, rfl, hgl, fun j hj => ?_⟩
  obtain ⟨e1, e2⟩ := pcells_at ps j hj
  have x1 := h.cellAt (j * 2) (by omega)
  have x2 := h.cellAt (j * 2 + 1) (by omega)
  rw [e1] at x1
  rw [e2] at x2
  exact ⟨x1, x2⟩
theorem PairArg.below {w w' : World} {A : Option Addr} {n : Nat} {ps : List (Bs × Bs)} (h : PairArg w A n ps) {B : Nat} (hB : w.heap.size ≤ B) (hb : Below B w w') : PairArg w' A n ps := by
  obtain ⟨h1, h2, h3, h4⟩ := h
  refine ⟨h1, h2, fun h0 => ?_, h4⟩
  obtain ⟨b, off, rfl, hl, hc⟩ := h3 h0
  refine ⟨b, off, rfl, Nat.lt_of_lt_of_le hl hb.size, fun j hj => ?_⟩
  exact ⟨(hb.cell (p := ⟨b, off + j * 2, none⟩) (Nat.lt_of_lt_of_le hl hB)).trans (hc j hj).1, (hb.cell (p := ⟨b, off + j * 2 + 1, none⟩) (Nat.lt_of_lt_of_le hl hB)).trans (hc j hj).2⟩
/-- 'append(v, src...)', the source being a row that the call owns, or nil. -/
theorem wpList_append_row {w : World} {ops : Array Oper} {rest : List Oper} {o : Oper} {a : Act} {Q : Exit → Act → World → Prop} (hg : o.guard = none) (s x : Operand) (t : TypeId)
    (ho : o.op = .call { callee := .builtin .append, args := #[s, x], argTypes := #[t, t] }) (base : Nat) (e : TypeId) (i : TypeInfo) (z : Value) (size bytes : Nat) (ht : Tryd.prog.underlying t = some (.slice e)) (hi : Tryd.prog.info? e = some i) (hz : i.zero = some z)
    (hsize : i.size = size) (hby : i.bytes = bytes) (hzs : z.cells.size = size) (hsz : 0 < size) (v : Value) (n : Nat) (xs : List Value) (hs : a.eval s = v) (hown : w.ownsRow base e size v n xs)
    (base' : Nat) (u : Value) (m : Nat) (ys : List Value) (hx : a.eval x = u) (hsrc : w.ownsRow base' e size u m ys) (h1 : ∀ u ∈ ys, u.oneCell' = true) (h63 : n + m ≤ maxLen) (hbytes : (n + m) * bytes ≤ 140737488355328) (hbase : base ≤ w.heap.size)
    (h : ∀ v' w', w'.ownsRow base e size v' (n + m) (xs ++ ys) → w.grownBy w' v.ownBlock → wpList Tryd.prog ops Q rest (a.put o.dst v') w') : wpList Tryd.prog ops Q (o :: rest) a w := by
  rcases hsrc.2 with ⟨rfl, rfl⟩ | ⟨g, cap, cur, rfl, _⟩
  · have hy : ys = [] := List.eq_nil_of_length_eq_zero (by simpa using hsrc.1)
    subst hy
    have hrun : (Builtin.append_ #[t, t] o.type #[v, .slice none 0 0]).run Tryd.prog w = .ok v w := by
      rcases hown.2 with ⟨rfl, rfl⟩ | ⟨g, cap, cur, rfl, _, _, hnc, _⟩
      · simp [Builtin.append_, run_underlying ht, sizeOf, typeInfo, hi, Builtin.lenOf, Builtin.firstCells]
      · simp [Builtin.append_, run_underlying ht, sizeOf, typeInfo, hi, Builtin.lenOf, Builtin.firstCells, hnc, storeCells]
    refine wpList_plain hg fun K' hK' => ?_
    unfold Oper.wp
    simp [execOp, ho, resolve, invoke, builtin, hs, hx, hrun, Result.andThen]
    exact hK' _ _ (h v w (by simpa using hown) (World.grownBy.refl w _))
  · refine wpList_append_own w hg s x t ho base e i z size bytes ht hi hz hsize hby hzs hsz v n xs hs hown ⟨g, 0, none⟩ m cap ys hx hsrc.1 ?_ h1 h63 hbytes hbase (fun v' w' h2 h3 _ => h v' w' h2 h3)
    intro j u hj
    rw [show ((⟨g, 0, none⟩ : Addr).add j) = ⟨g, j, none⟩ from by unfold Addr.add; split <;> simp_all]
    exact (hsrc.cellAt j (by have := (List.getElem?_eq_some_iff.1 hj).1; rw [hsrc.1] at this; exact this)).trans hj
theorem eq_guard31 (w : World) (op : BinOp) (x y : Operand) (xs ys : Array Value) : (eqGuard op 31 x y (.agg xs) (.agg ys)).run Tryd.prog w = .ok () w := run_eqGuard_agg w op 31 x y xs ys (by kernel_rfl)
theorem entry_neq (k j : Int) (s u : ByteArray) (w : World) : (binOp .neq 31 (.agg #[.int .i64 k, .string s]) (.agg #[.int .i64 j, .string u])).run Tryd.prog w = .ok (.bool (!(k == j && s.toList == u.toList))) w := by
  rw [run_neq_struct, run_equalIn_struct w _ _ _ _ (by kernel_rfl) (by kernel_rfl)]
  have hf : (Tryd.prog.fieldsOf 31).toList = (match Tryd.prog.underlying 31 with | some (.struct fs) => fs.toList | _ => []) := by kernel_rfl
  rw [hf, Tryd.underlying31]
  simp only [Op.eqFields]
  go_simp
  by_cases h1 : k = j
  · by_cases h2 : s.toList = u.toList
    · simp [h1, h2]
    · simp [h1, h2]
  · simp [h1]
theorem entry_same (k : Int) (s : ByteArray) (w : World) : (binOp .neq 31 (.agg #[.int .i64 k, .string s]) (.agg #[.int .i64 k, .string s])).run Tryd.prog w = .ok (.bool false) w := by
  rw [entry_neq]; simp
set_option maxRecDepth 100000 in
set_option maxHeartbeats 4000000 in
theorem more_any (A0 A1 : Option Addr) (n0 n1 cap0 cap1 : Nat) (ps0 ps1 : List (Bs × Bs)) (w : World) (h0 : PairArg w A0 n0 ps0) (h1 : PairArg w A1 n1 ps1) (s0 : Small ps0) (s1 : Small ps1) :
    Calls Tryd.prog 3 #[.slice A0 n0 cap0, .slice A1 n1 cap1] w fun e w' => e = .returned (.bool true) ∧ Below w.heap.size w w' := by
  obtain ⟨ia, hia, ha0, ha1, ha2⟩ := info_parts info55
  have KS := speaks_any w
  go_enter Tryd.func3, Tryd.ntmps3
  go_wp2_with (go_at_call 9; refine KS.mono ?_)
  rintro e w1 ⟨rfl, b1⟩
  clear KS
  have z1 := b1.size
  have KA := pairs_any A0 n0 cap0 ps0 w1 (h0.below (Nat.le_refl _) b1)
  go_wp2_with (go_at_call 10; refine KA.mono ?_)
  rintro e w2 ⟨va, va', rfl, ra, _, b2⟩
  clear KA
  have z2 := b2.size
  have B2 : Below w.heap.size w w2 := b1.trans (b2.mono z1)
  have KB := pairs_any A1 n1 cap1 ps1 w2 (h1.below (Nat.le_refl _) B2)
  go_wp2_with (go_at_call 10; refine KB.mono ?_)
  rintro e w3 ⟨vb, vb', rfl, rb, _, b3⟩
  clear KB
  have z3 := b3.size
  have B3 : Below w.heap.size w w3 := B2.trans (b3.mono (by omega))
  have S0 := s0.take 60
  have S1 := s1.take 60
  have L0 : (ps0.take 60).length ≤ 60 := by rw [List.length_take]; omega
  have L1 : (ps1.take 60).length ≤ 60 := by rw [List.length_take]; omega
  have ra3 := own_below ra b3
  obtain ⟨P, hP⟩ : ∃ P, ps0.take 60 = P := ⟨_, rfl⟩
  obtain ⟨R, hR⟩ : ∃ R, ps1.take 60 = R := ⟨_, rfl⟩
  rw [hP] at ra3 S0 L0
  rw [hR] at rb S1 L1
  clear ra hP hR h0 h1 s0 s1 b1 b2 b3 B2
  obtain ⟨A, ca, rfl⟩ := own_form ra3
  obtain ⟨A', cb, rfl⟩ := own_form rb
  have KX := of_any A ca P w3 (by omega) (pairs_of_row ra3 rfl S0)
  go_wp2_with (go_at_call 11; refine KX.mono ?_)
  rintro e w4 ⟨x, rfl, rx, b4⟩
  clear KX
  have ra4 := own_below ra3 b4
  have rb4 := own_below rb b4
  clear ra3 rb
  have z4 := b4.size
  have B4 : Below w.heap.size w w4 := B3.trans (b4.mono (by omega))
  clear b4 B3
  have re : (w4.alloc (.cells #[] 55)).ownsRow w.heap.size 55 2 (.slice (some ⟨w4.heap.size, 0, none⟩) 0 0) 0 [] :=
    ⟨rfl, .inr ⟨w4.heap.size, 0, #[], rfl, B4.size, heap_alloc_new w4 _, Nat.le_refl _, Nat.zero_le _, rfl, rfl⟩⟩
  go_wp2_with (first
    | (at_builtin
       refine wpList_append_row (w := w4.alloc (.cells #[] 55)) rfl (.tmp 26) (.tmp 27) 24 rfl w.heap.size 55 ia _ 2 32 Tryd.underlying24 hia ha0 ha1 ha2 rfl (by decide) _ 0 [] rfl re _ (.slice A P.length ca) P.length (pcells P) rfl (ra4.alloc _) (pcells_one P) ?c3 ?c4 ?c5 ?_)
    | (at_builtin; fail))
  case c3 => simp only [maxLen]; omega
  case c4 => omega
  case c5 => simp; have := B4.size; omega
  intro v1 w5 r5 g5
  have ne5 : some w4.heap.size ≠ (none : Option Nat) := by simp
  have rb5 := (rb4.alloc (.cells #[] 55)).kept g5 (.inr (by intro e; have := (rb4.lt w4.heap.size (e.trans rfl)).2; omega))
  have rx5 := (rx.alloc (.cells #[] 55)).kept g5 (.inr (by intro e; have := (rx.lt w4.heap.size (e.trans rfl)).2; omega))
  have B5 : Below w.heap.size w w5 := (B4.alloc B4.size _).grown g5 (by simp; have := B4.size; omega) (fun k e => by cases e; exact B4.size)
  have z5 := B5.size
  obtain ⟨A5, c5, rfl⟩ := own_form r5
  clear re ra4 rb4 rx g5 B4
  go_wp2_with (first
    | (at_builtin
       refine wpList_append_row (w := w5) rfl (.tmp 28) (.tmp 29) 24 rfl w.heap.size 55 ia _ 2 32 Tryd.underlying24 hia ha0 ha1 ha2 rfl (by decide) (.slice A5 P.length c5) P.length (pcells P) rfl r5 _ (.slice A' R.length cb) R.length (pcells R) rfl rb5 (pcells_one R) ?c3 ?c4 ?c5 ?_)
    | (at_builtin; fail))
  case c3 => simp only [maxLen]; omega
  case c4 => omega
  case c5 => exact z5
  intro v2 w6 r6 g6
  have nb : (Value.slice A5 P.length c5).ownBlock = none ∨ (Value.slice A5 P.length c5).ownBlock ≠ x.ownBlock := own_apart rx5 r5 (by decide) |>.imp id (fun h => fun e => h e.symm)
  have nb : x.ownBlock = none ∨ x.ownBlock ≠ (Value.slice A5 P.length c5).ownBlock := by
    rcases own_apart r5 rx5 (by decide) with h | h
    · exact .inl h
    · exact .inr (fun e => h e.symm)
  have rx6 := rx5.kept g6 nb
  have B6 : Below w.heap.size w w6 := B5.grown g6 z5 (fun k e => (r5.lt k e).1)
  have z6 := B6.size
  rw [← pcells_append] at r6
  obtain ⟨A6, c6, rfl⟩ := own_form r6
  have KY := of_any A6 c6 (P ++ R) w6 (by simp; omega) (pairs_of_row r6 (by simp) (S0.append S1))
  rw [List.length_append] at KY
  clear rb5 rx5 r5 g6 B5 nb
  go_wp2_with (go_at_call 11; refine KY.mono ?_)
  rintro e w7 ⟨y, rfl, ry, b7⟩
  clear KY r6
  have rx7 := own_below rx6 b7
  have B7 : Below w.heap.size w w7 := B6.trans (b7.mono z6)
  have z7 := B7.size
  clear rx6 b7 B6
  obtain ⟨hpre, hlen⟩ := ofT_more P R
  have hpl := hpre.length_le
  have htok := ofT_tok (P ++ R)
  have hYl := (ofT_len (P ++ R)).2
  rw [List.length_append] at hYl
  obtain ⟨X, hX⟩ : ∃ X, ofT P = X := ⟨_, rfl⟩
  obtain ⟨Y, hY⟩ : ∃ Y, ofT (P ++ R) = Y := ⟨_, rfl⟩
  rw [hX] at hpre hlen hpl rx7
  rw [hY] at hpre hlen hpl htok hYl ry
  clear hX hY S0 S1
  obtain ⟨AX, cx, rfl⟩ := own_form rx7
  obtain ⟨AY, cy, rfl⟩ := own_form ry
  obtain ⟨nx, hnx⟩ : ∃ n, X.length = n := ⟨_, rfl⟩
  obtain ⟨ny, hny⟩ : ∃ n, Y.length = n := ⟨_, rfl⟩
  obtain ⟨nr, hnr⟩ : ∃ n, R.length = n := ⟨_, rfl⟩
  obtain ⟨np, hnp⟩ : ∃ n, P.length = n := ⟨_, rfl⟩
  rw [hnx] at rx7 hpl hlen
  rw [hny] at ry hpl hlen hYl
  rw [hnr] at hlen hYl L1
  rw [hnp] at hYl L0
  simp only [hnx, hny, hnr, hnp]
  have l1 : ¬ (ny : Int) < (nx : Int) := by omega
  have l2 : ¬ (nx : Int) + (nr : Int) < (ny : Int) := by omega
  have HX := Lib.hid (show ∀ k (h : k < X.length), ∃ h2 : k < Y.length, X[k] = Y[k] from fun k h => ⟨Nat.lt_of_lt_of_le h hpre.length_le, hpre.getElem h⟩)
  have HT := Lib.hid htok
  clear hpre htok
  go_wp2
  go_loopw [11] (fun i wr => ∃ k : Nat, k ≤ ny ∧ i = .int .i64 k ∧ wr.ownsRow w3.heap.size 31 2 (.slice AX nx cx) nx (ents 0 X) ∧ wr.ownsRow w6.heap.size 31 2 (.slice AY ny cy) ny (ents 0 Y) ∧ Below w.heap.size w wr) (fun i _ => ny - (intOf i).toNat)
  case atStart => exact ⟨0, Nat.zero_le _, rfl, rx7, ry, B7⟩
  case round =>
    clear rx7 ry B7 z7
    obtain ⟨k, hk, rfl, rx, ry, hB⟩ := hrel
    by_cases hlt : k < ny
    · obtain ⟨gy, c, hv, _, _⟩ := ry.form (by omega)
      injection hv with hA _ hc
      subst hA
      subst hc
      obtain ⟨e1, e2⟩ := ents_at Y 0 k (by omega)
      have y1 := ry.cellAt (k * 2) (by omega)
      have y2 := ry.cellAt (k * 2 + 1) (by omega)
      rw [e1, Nat.zero_add] at y1
      rw [e2] at y2
      have hyk : k < Y.length := by omega
      have ht := HT.out _ (List.getElem_mem hyk)
      have K := fun w => (tok_any (mk Y[k]) w (by rw [mk_size]; have := tok_small ht; unfold maxLen; omega)).mono (fun e w' h => (⟨h.1, h.2.symm⟩ : e = .returned (.bool (tok (mk Y[k]).data.toList)) ∧ w' = w))
      rw [mk_data, ht] at K
      have hne : ((k : Int) != (k : Int)) = false := by simp
      have k0 : (0 : Int) ≤ (k : Int) := by omega
      have k1 : (k : Int) < (ny : Int) := by omega
      by_cases hx : k < nx
      · obtain ⟨gx, c, hv, _, _⟩ := rx.form (by omega)
        injection hv with hA _ hc
        subst hA
        subst hc
        obtain ⟨h2, hxy⟩ := HX.out k (by omega)
        obtain ⟨e1, e2⟩ := ents_at X 0 k (by omega)
        have x1 := rx.cellAt (k * 2) (by omega)
        have x2 := rx.cellAt (k * 2 + 1) (by omega)
        rw [e1, Nat.zero_add] at x1
        rw [e2, hxy] at x2
        obtain ⟨t, ht'⟩ : ∃ t, mk Y[k] = t := ⟨_, rfl⟩
        rw [ht'] at x2 y2 K
        have hg := eq_guard31
        have hes := entry_same k t
        have k2 : (k : Int) < (nx : Int) := by omega
        clear e1 e2 ht ht' hxy HX HT
        go_wp2_with fail
        go_quiet ((go_at_call 12; exact Calls.quiet_of_same (K _)))
        clear K hes hg x1 x2 y1 y2
        go_wp2
        go_roundw
        case rel => exact ⟨k + 1, by omega, by go_num, rx, ry, hB.trans (Go.Joins.below_draws _ _ _)⟩
        case measure => simp [intOf]; omega
      · have k2 : ¬ (k : Int) < (nx : Int) := by omega
        obtain ⟨t, ht'⟩ : ∃ t, mk Y[k] = t := ⟨_, rfl⟩
        rw [ht'] at y2 K
        clear e1 e2 ht ht' HX HT
        go_wp2_with fail
        go_quiet ((go_at_call 12; exact Calls.quiet_of_same (K _)))
        clear K y1 y2
        go_wp2
        go_roundw
        case rel => exact ⟨k + 1, by omega, by go_num, rx, ry, hB.trans (Go.Joins.below_draws _ _ _)⟩
        case measure => simp [intOf]; omega
    · obtain rfl : k = ny := by omega
      clear HX HT rx ry
      go_wp2
      go_ret
      exact ⟨rfl, hB⟩
end Go.Proofs.YtejokbfejkkpmaaDoor
