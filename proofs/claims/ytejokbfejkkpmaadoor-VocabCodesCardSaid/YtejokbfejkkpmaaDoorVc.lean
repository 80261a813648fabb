/- VocabCodes, walked: the numbers of any word and the word of any numbers, by any list. -/
import Derived.Test.YtejokbfejkkpmaaDoorDk
import Derived.Test.YtejokbfejkkpmaaDoorRs
import Derived.Test.YtejokbfejkkpmaaDoorVo
namespace Go.Proofs.YtejokbfejkkpmaaDoor
open Go.RowKit Go.Maps Go.WideMaps
/-- A slice of numbers that came in. -/
def IntsArg (w : World) (A : Option Addr) (ns : List Int) : Prop :=
  (0 < ns.length → ∃ g off, A = some ⟨g, off, none⟩ ∧ g < w.heap.size ∧ ∀ j (h : j < ns.length), w.cell? ⟨g, off + j, none⟩ = some (.int .i64 ns[j])) ∧ ∀ i ∈ ns, -9223372036854775808 ≤ i ∧ i ≤ 9223372036854775807
theorem findE_ids (T : List Bs) (t : Bs) : ∀ n, findE (numE n T) t = match idsL n T t with | some k => (k : Int) | none => -1 := by
  induction T with
  | nil => intro n; rfl
  | cons a T ih =>
    intro n
    unfold numE idsL findE
    rw [List.find?_cons]
    by_cases h : t = a
    · subst h; simp
    · have : ((n, a).2 == t) = false := by simpa using fun e => h (e.symm)
      rw [this, if_neg h]
      exact ih (n + 1)
theorem pairarg_of_row {w : World} {B cap n : Nat} {t : TypeId} {A : Option Addr} {ps : List (Bs × Bs)} (h : w.ownsRow B t 2 (.slice A n cap) n (pcells ps)) (hn : ps.length = n) (hs : Small ps) (hl : n ≤ 1000) : PairArg w A n ps := by
  refine ⟨hn, by omega, fun h0 => ?_, fun p hp => by have := hs p hp; omega⟩
  obtain ⟨g, c, hv, _, hgl⟩ := h.form (by omega)
  injection hv with hA _ hc
  subst hA
  refine ⟨g, 0, rfl, hgl, fun j hj => ?_⟩
  obtain ⟨e1, e2⟩ := pcells_at ps j hj
  have x1 := h.cellAt (j * 2) (by omega)
  have x2 := h.cellAt (j * 2 + 1) (by omega)
  rw [e1] at x1
  rw [e2] at x2
  rw [Nat.zero_add]
  exact ⟨x1, x2⟩
theorem grown_below {w w' : World} {b B : Nat} (h : w.grownBy w' (some b)) (hb : B ≤ b) (hw : B ≤ w.heap.size) : Below B w w' := ⟨h.os, h.tape, h.output, h.size, fun k hk => h.block k (by omega) (by intro e; injection e; omega)⟩
theorem bI_ids (T : List Bs) (t : Bs) : findE (numE 0 T) t = bI (idsL 0 T t) := by
  rw [findE_ids]; cases idsL 0 T t <;> rfl
theorem tokL_lt (T : List Bs) : ∀ (n : Nat) (z : Int), z < (n : Int) → tokL n T z = none := by
  induction T with
  | nil => intro n z _; rfl
  | cons a T ih =>
    intro n z h
    unfold tokL
    rw [if_neg (by omega)]
    exact ih (n + 1) z (by omega)
theorem tokL_ge (T : List Bs) : ∀ (n : Nat) (z : Int), ((n + T.length : Nat) : Int) ≤ z → tokL n T z = none := by
  induction T with
  | nil => intro n z _; rfl
  | cons a T ih =>
    intro n z h
    simp only [List.length_cons] at h
    unfold tokL
    rw [if_neg (by omega)]
    exact ih (n + 1) z (by omega)
theorem tokL_at (T : List Bs) : ∀ n (q : Nat) (h : q < T.length), tokL n T ((n + q : Nat) : Int) = some T[q] := by
  induction T with
  | nil => intro n q h; simp at h
  | cons a T ih =>
    intro n q h
    unfold tokL
    cases q with
    | zero => simp
    | succ q =>
      rw [if_neg (by omega), show n + (q + 1) = (n + 1) + q by omega]
      exact ih (n + 1) q (by simpa using h)
theorem numE_at (T : List Bs) : ∀ n j (h : j < T.length) (h' : j < (numE n T).length), (numE n T)[j].2 = T[j] := by
  induction T with
  | nil => intro n j h; simp at h
  | cons a T ih =>
    intro n j h h'
    cases j with
    | zero => rfl
    | succ j => exact ih (n + 1) j (by simpa using h) (by simpa [numE] using h')
theorem earg_heap {w w' : World} {A : Option Addr} {es : List En} (h : EArg w A es) (e : w'.heap = w.heap) : EArg w' A es := fun h0 => by
  obtain ⟨g, off, h1, h2, h3⟩ := h h0
  exact ⟨g, off, h1, by rw [e]; exact h2, fun j hj => ⟨(World.cell?_of_block (by rw [e])).trans (h3 j hj).1, (World.cell?_of_block (by rw [e])).trans (h3 j hj).2⟩⟩
theorem own_empty (w : World) (B : Nat) (e : TypeId) (h : B ≤ w.heap.size) : (w.alloc (.cells #[] e)).ownsRow B e 1 (.slice (some ⟨w.heap.size, 0, none⟩) 0 0) 0 [] := by
  refine ⟨rfl, .inr ⟨w.heap.size, 0, #[], rfl, h, ?_, ?_⟩⟩
  · exact heap_alloc_new w _
  · simp
theorem pre_cells (w : World) (ns : List Int) (g o m : Nat) (hc : ∀ j (h : j < ns.length), w.cell? ⟨g, o + j, none⟩ = some (.int .i64 ns[j])) (hm : m ≤ ns.length) : ∀ j u, (icells (ns.take m))[j]? = some u → w.cell? ⟨g, o + j, none⟩ = some u := by
  intro j u hj
  have hj' : j < m := by
    have := (List.getElem?_eq_some_iff.1 hj).1
    simp [icells] at this; omega
  have e : (icells (ns.take m))[j]? = some (.int .i64 (ns[j]'(by omega))) := by simp [icells, hj']
  rw [e] at hj
  injection hj with hj
  subst hj
  exact hc j (by omega)
theorem wpList_append_none {ops : Array Oper} {rest : List Oper} {o : Oper} {a : Act} {w : World} {Q : Exit → Act → World → Prop} (hgd : o.guard = none) (s x : Operand) (t : TypeId)
    (ho : o.op = .call { callee := .builtin .append, args := #[s, x], argTypes := #[t, t] }) (v : Value) (c : Nat) (hs : a.eval s = v) (hx : a.eval x = .slice none 0 c)
    (hrun : (Builtin.append_ #[t, t] o.type #[v, .slice none 0 c]).run Tryd.prog w = .ok v w) (h : wpList Tryd.prog ops Q rest (a.put o.dst v) w) : wpList Tryd.prog ops Q (o :: rest) a w :=
  wpList_plain hgd fun K hK => by
    unfold Oper.wp execOp
    simp only [ho, resolve, invoke, builtin, Sem.run_bind, Sem.run_pure, Result.andThen_ok, List.map_toArray, List.map_cons, List.map_nil, hs, hx, hrun]
    exact hK _ _ h
theorem append_none_run {w : World} {B : Nat} (c : Nat) : (Builtin.append_ #[34, 34] 34 #[.slice (some ⟨B, 0, none⟩) 0 0, .slice none 0 c]).run Tryd.prog w = .ok (.slice (some ⟨B, 0, none⟩) 0 0) w := by
  obtain ⟨i3, hi3, hz0, hz1, hz2⟩ := info_parts info3e
  simp [Builtin.append_, run_underlying Tryd.underlying34, sizeOf, typeInfo, hi3, Builtin.lenOf, Builtin.firstCells, storeCells]
theorem allIn_snoc (T : List Bs) (l : List Tx) (x : Tx) : allIn T (l ++ [x]) = (allIn T l && (idsL 0 T x).isSome) := by simp [allIn]
theorem allOk_snoc (T : List Bs) (l : List Int) (x : Int) : allOk T (l ++ [x]) = (allOk T l && (tokL 0 T x).isSome) := by simp [allOk]
theorem tok_le {t : Bs} (h : tok t = true) : t.length ≤ 64 := by
  unfold tok at h
  simp at h
  omega
set_option maxRecDepth 100000 in
set_option maxHeartbeats 8000000 in
theorem codes_any (A0 A2 : Option Addr) (n0 c0 c2 : Nat) (ps0 : List (Bs × Bs)) (s : ByteArray) (ns : List Int) (w : World) (h0 : PairArg w A0 n0 ps0) (s0 : Small ps0) (hi : IntsArg w A2 ns) (hnl : ns.length ≤ 9223372036854775807) (hsz : s.size ≤ 9223372036854775807) (hcap : ns.length ≤ c2) :
    Calls Tryd.prog 4 #[.slice A0 n0 c0, .string s, .slice A2 ns.length c2] w fun e w' => e = .returned (.bool true) ∧ Below w.heap.size w w' := by
  obtain ⟨i3, hi3, hz0, hz1, hz2⟩ := info_parts info3e
  have KS := speaks_any w
  obtain ⟨wd, hwd, hcase⟩ : ∃ wd : Bs, wd.length ≤ 200 ∧ ((s.size ≤ 200 ∧ s = mk wd) ∨ (200 < s.size ∧ s.extract 0 200 = mk wd)) := by
    rcases Nat.lt_or_ge 200 s.size with h | h
    · refine ⟨s.data.toList.take 200, by rw [List.length_take]; omega, .inr ⟨h, ?_⟩⟩
      have := ext_mk s 0 200
      rw [Nat.zero_add, List.drop_zero] at this
      exact this
    · exact ⟨s.data.toList, by simpa using h, .inl ⟨h, (mk_list s).symm⟩⟩
  have HI := Lib.hid hi
  obtain ⟨NN, hNN⟩ : ∃ n, ns.length = n := ⟨_, rfl⟩
  have HNN := Lib.hid hNN
  rw [hNN] at hnl hcap ⊢
  have hS0 : Hid (Small (ps0.take 60)) := Lib.hid (s0.take 60)
  have L0 : (ps0.take 60).length ≤ 60 := by rw [List.length_take]; omega
  obtain ⟨P, hP⟩ : ∃ P, ps0.take 60 = P := ⟨_, rfl⟩
  have KA := fun w1 (b1 : Below w.heap.size w w1) => pairs_any A0 n0 c0 ps0 w1 (h0.below (Nat.le_refl _) b1)
  rw [hP] at hS0 L0
  simp only [hP] at KA
  have HKA := Lib.hid KA
  have hsl := fun (w : World) (h : 200 ≤ s.size) => run_slice_string_h (P := Tryd.prog) (w := w) (t := 9) (s := s) Tryd.underlying9 .i64 200 (by omega) (by omega)
  clear hi hNN s0 h0 hP KA
  have HCASE := Lib.hid hcase
  clear hcase
  go_enter Tryd.func4, Tryd.ntmps4
  go_upto_if 26 with (go_at_call 9; refine KS.mono ?_; rintro e w1 ⟨rfl, b1⟩; have KA := HKA.out w1 b1; clear KS)
  go_cut [1] from 22 to 28 (fun s1 wx => s1 = .string (mk wd) ∧ w1 = wx)
  case first =>
    rcases HCASE.out with ⟨hle, hse⟩ | ⟨hgt, hex⟩
    · have d0 : decide ((200 : Int) < (s.size : Int)) = false := by simp; omega
      have HSE := Lib.hid hse
      clear hsl hse
      go_wp2
      go_meet
      case rel => exact ⟨by rw [← HSE.out], rfl⟩
    · have d0 : decide ((200 : Int) < (s.size : Int)) = true := by simp; omega
      have hsl := fun (w : World) => hsl w (by omega)
      have HEX := Lib.hid hex
      clear hex
      go_wp2
      go_meet
      case rel => exact ⟨by rw [← HEX.out], rfl⟩
  case rest =>
    obtain ⟨rfl, rfl⟩ := hcut
    have hws := mk_size wd
    clear hsl HCASE hsz
    go_wp2_with (go_at_call 10; refine KA.mono ?_; rintro e w2 ⟨va, vb, rfl, ra, rb, b2⟩; clear KA; obtain ⟨A, ca, rfl⟩ := own_form ra; obtain ⟨A', cb, rfl⟩ := own_form rb)
    have B2 : Below w.heap.size w w2 := b1.trans (b2.mono b1.size)
    have KR := rof_any A' cb P w2 (by omega) (pairs_of_row' rb rfl hS0.out)
    have PB := fun w' (hb : Below w2.heap.size w2 w') => pairs_of_row (own_below ra hb) rfl hS0.out
    have KX := fun w' (hb : Below w2.heap.size w2 w') => of_any A ca P w' (by omega) (PB w' hb)
    have HPA : Hid (∀ w', (∀ g, (Value.slice A P.length ca).ownBlock = some g → w'.heap[g]? = w2.heap[g]?) → PairArg w' A P.length P) := Lib.hid fun w' hk => pairarg_of_row (own_same ra hk) rfl hS0.out (by omega)
    have HRA := Lib.hid ra
    have HPB : Hid (∀ w', Below w2.heap.size w2 w' → PairArg w' A' P.length P) := Lib.hid fun w' hb => pairarg_of_row (own_below rb hb) rfl hS0.out (by omega)
    have hTl := ofT_len P
    have hTk := ofT_tok P
    obtain ⟨T, hT⟩ : ∃ T, ofT P = T := ⟨_, rfl⟩
    rw [hT] at KR hTl hTk
    simp only [hT] at KX
    obtain ⟨np, hnp⟩ : ∃ n, P.length = n := ⟨_, rfl⟩
    simp only [hnp] at KX KR HPA HPB HRA L0 hTl ⊢
    obtain ⟨nt, hnt⟩ : ∃ n, T.length = n := ⟨_, rfl⟩
    simp only [hnt] at KX KR hTl
    have Hnt := Lib.hid hnt
    have HTK := Lib.hid hTk
    have HKX := Lib.hid KX
    have HB2 := Lib.hid B2
    clear hTk PB KX ra rb hT hnp hnt b1 b2 B2 hS0
    go_wp2_with (go_at_call 13; refine KR.mono ?_; rintro e w3 ⟨v, rfl, rr, b3⟩; clear KR; obtain ⟨AR, cr, rfl⟩ := own_form rr; have KX := HKX.out w3 b3)
    have HB3 := Lib.hid b3
    have HRR := Lib.hid rr
    clear rr b3
    go_wp2_with (go_at_call 11; refine KX.mono ?_; rintro e w4 ⟨v, rfl, ro, b4⟩; clear KX HKX; obtain ⟨g, co, hvo, _, hgo⟩ := ro.form (by omega); obtain ⟨A4, c4, rfl⟩ := own_form ro; injection hvo with e1 _ e2; subst e1; subst e2)
    have KN := new_any g c4 T w4 (fun j u h => (ro.cellAt j (by have := (List.getElem?_eq_some_iff.1 h).1; rw [ents_length, Hnt.out] at this; omega)).trans h) (by rw [Hnt.out]; omega) (by rw [Hnt.out]; omega) (fun t ht => by have := tok_le (HTK.out t ht); unfold maxLen; omega)
    rw [Hnt.out] at KN
    have HB4 := Lib.hid b4
    clear ro b4 hgo
    go_wp2_with (go_at_call 14; refine KN.mono ?_; rintro e w5 ⟨b, rfl, hidx, b5⟩; clear KN)
    have bl := hidx.lt
    have B25 : Below w2.heap.size w2 w5 := (HB3.out.trans (HB4.out.mono HB3.out.size)).trans (b5.mono (Nat.le_trans HB3.out.size HB4.out.size))
    have hs24 : w2.heap.size ≤ w4.heap.size := Nat.le_trans HB3.out.size HB4.out.size
    have KE := encode_any w4.heap.size b T false 0 A np ca P wd w5 hidx (by rw [Hnt.out]; omega) (by omega) b5.size (fun w' hg => HPA.out w' fun g hg' => by
      have h1 := (HRA.out.lt g hg').2
      rw [hg.block g (by have := B25.size; omega) (by intro e; injection e with e; omega)]
      exact B25.block g h1) (by omega) (by omega)
    have HB25 := Lib.hid B25
    have HB5 := Lib.hid b5
    have Hbl := Lib.hid bl
    clear hidx bl B25 b5 hs24
    go_wp2_with (go_at_call 15; (with_reducible refine KE.mono ?_); rintro e w6 ⟨TT, v6, hF, rfl, hrow, hi6, hg6⟩; clear KE; have HF := Lib.hid hF; have HROW := Lib.hid hrow; have HI6 := Lib.hid hi6; have HG6 := Lib.hid hg6; clear hF hrow hi6 hg6)
    have KP := rsplit_any A' np cb P wd w6 (HPB.out w6 (HB25.out.trans ((grown_below HG6.out (show w2.heap.size ≤ b from by have := HB3.out.size; have := HB4.out.size; have := Hbl.out.1; omega) HB25.out.size)))) (by omega) (by omega)
    obtain ⟨N, hN⟩ : ∃ N, TT.length = N := ⟨_, rfl⟩
    have HNT := Lib.hid hN
    have hTT := (fin_length HF.out).1
    rw [hN] at hTT
    obtain ⟨bb, hbb⟩ : ∃ x, allIn T TT = x := ⟨_, rfl⟩
    have Hbb := Lib.hid hbb
    rw [hbb]
    obtain ⟨A6, n6, c6, rfl, HZ6, HC6⟩ : ∃ A6 n6 c6, v6 = .slice A6 n6 c6 ∧ Hid (n6 = if bb = true then N else 0) ∧ Hid (∀ i x, i < n6 → TT[i]? = some x → ∃ g, A6 = some ⟨g, 0, none⟩ ∧ g < w6.heap.size ∧ w6.cell? ⟨g, i, none⟩ = some (.int .i64 (bI (idsL 0 T x)))) := by
      have h := HROW.out
      rw [hbb, hN] at h
      cases bb with
      | false => exact ⟨none, 0, 0, h, Lib.hid rfl, Lib.hid fun i x h0 => absurd h0 (by omega)⟩
      | true =>
        rw [if_pos rfl] at h
        obtain ⟨A6, c6, rfl⟩ := own_form h
        refine ⟨A6, N, c6, rfl, Lib.hid rfl, Lib.hid fun i x h0 hx => ?_⟩
        have hs : (idsL 0 T x).isSome = true := by
          unfold allIn at hbb
          exact List.all_eq_true.1 hbb x (List.mem_of_getElem? hx)
        obtain ⟨g, cg, hv, hc, hl, _⟩ := row_at h (icells_at _ i (bI (idsL 0 T x)) (by
          obtain ⟨q, hq⟩ := Option.isSome_iff_exists.1 hs
          simp only [idsOf, List.getElem?_map, hx, Option.map_some, hq]; rfl))
        injection hv with hA _ _
        exact ⟨g, hA, hl, hc⟩
    clear hN hbb HROW
    go_wp2_with (go_at_call 16; (with_reducible refine KP.mono ?_); rintro e w7 ⟨v7, T2, rfl, r7, hF2, b7⟩; clear KP; obtain rfl := Fin2.unique (rkL_inj P 0) HF.out hF2; clear hF2; obtain ⟨A7, c7, rfl⟩ := own_form r7; rw [HNT.out]; rw [HNT.out] at r7)
    have B37 : Below w3.heap.size w3 w7 := ((HB4.out.trans (HB5.out.mono HB4.out.size)).trans (grown_below HG6.out (show w3.heap.size ≤ b from by have := HB4.out.size; have := Hbl.out.1; omega) (by have := HB4.out.size; have := HB5.out.size; omega))).trans (b7.mono (by have := HB4.out.size; have := HB5.out.size; have := HG6.out.size; omega))
    have HT7 : Hid (∀ w', Below w7.heap.size w7 w' → ∀ i x, TT[i]? = some x → ∃ g, A7 = some ⟨g, 0, none⟩ ∧ g < w'.heap.size ∧ w'.cell? ⟨g, i, none⟩ = some (.string (mk x))) := Lib.hid fun w' hb i x hx => by
      obtain ⟨g, cg, hv, hc, hl, _⟩ := row_at (own_below r7 hb) (tcells_at _ i x hx)
      injection hv with hA _ _
      exact ⟨g, hA, hl, hc⟩
    have HC7 : Hid (∀ w', Below w7.heap.size w7 w' → ∀ i x, i < n6 → TT[i]? = some x → ∃ g, A6 = some ⟨g, 0, none⟩ ∧ g < w'.heap.size ∧ w'.cell? ⟨g, i, none⟩ = some (.int .i64 (bI (idsL 0 T x)))) := Lib.hid fun w' hb i x h0 hx => by
      obtain ⟨g, hA, hl, hc⟩ := HC6.out i x h0 hx
      exact ⟨g, hA, by have := hb.size; have := b7.size; omega, (hb.cell (p := ⟨g, i, none⟩) (by have := b7.size; simp only; omega)).trans ((b7.cell (p := ⟨g, i, none⟩) hl).trans hc)⟩
    have rr7 := own_below HRR.out B37
    have HE7 : Hid (∀ w', Below w7.heap.size w7 w' → EArg w' AR (numE 0 T)) := Lib.hid fun w' hb => earg_of (by
      rw [← ecs_numE, ← Hnt.out, ← numE_length T 0] at rr7
      exact own_below rr7 hb)
    have HI7 := Lib.hid (HI6.out.below b7)
    have HBW : Hid (Below w.heap.size w w7) := Lib.hid ((HB2.out.trans ((HB3.out.mono HB2.out.size))).trans (B37.mono (Nat.le_trans HB2.out.size HB3.out.size)))
    have HB2b : Hid (w.heap.size ≤ w4.heap.size) := Lib.hid (Nat.le_trans HB2.out.size (Nat.le_trans HB3.out.size HB4.out.size))
    clear rr7 B37 b7 r7 HPB HPA HRA HRR HB25 HB5 HB4 HB3 HB2 HI6 HG6 HC6
    have KF : Hid (∀ w', Below w7.heap.size w7 w' → ∀ x : Bs, Calls Tryd.prog 17 #[.slice AR nt cr, .string (mk x)] w' fun e w'' => e = .returned (.int .i64 (bI (idsL 0 T x))) ∧ w' = w'') := Lib.hid fun w' hb x => by
      have h := find_any AR cr (numE 0 T) (mk x) w' (by rw [numE_length, Hnt.out]; omega) (HE7.out w' hb)
      rw [numE_length, Hnt.out, mk_data, bI_ids] at h
      exact h
    go_loop [14, 15] (fun acc iv => ∃ i : Nat, i ≤ N ∧ iv = .int .i64 i ∧ acc = .bool (allIn T (TT.take i))) (fun _ iv => N - (intOf iv).toNat)
    case atStart => exact ⟨0, Nat.zero_le _, rfl, rfl⟩
    case round =>
      obtain ⟨i, hi, rfl, rfl⟩ := hrel
      have i0 : (0 : Int) ≤ (i : Int) := by omega
      have i1 : (i : Int) ≤ 4096 := by omega
      rcases Nat.lt_or_ge i N with hlt | hge
      · have i2 : (i : Int) < (N : Int) := by omega
        have hTi : i < TT.length := by rw [HNT.out]; exact hlt
        have hx : TT[i]? = some TT[i] := by simp [hTi]
        have htk : TT.take (i + 1) = TT.take i ++ [TT[i]] := List.take_succ_eq_append_getElem hTi
        obtain ⟨x, hxx⟩ : ∃ x, TT[i] = x := ⟨_, rfl⟩
        rw [hxx] at hx htk
        obtain ⟨g7, rfl, _, hcx⟩ := HT7.out w7 (Below.refl _ _) i x hx
        have hsn := allIn_snoc T (TT.take i) x
        rw [← htk] at hsn
        have K := KF.out w7 (Below.refl _ _) x
        obtain ⟨a, ha⟩ : ∃ a, allIn T (TT.take i) = a := ⟨_, rfl⟩
        rw [ha] at hsn ⊢
        have HSN := Lib.hid hsn
        obtain ⟨X, hX⟩ : ∃ X, mk x = X := ⟨_, rfl⟩
        rw [hX] at hcx K
        cases a with
        | false =>
          clear hx htk hxx hsn ha hTi hX K
          go_wp2
          go_round
          case rel => exact ⟨i + 1, by omega, by go_num, by rw [HSN.out]; rfl⟩
          case measure => simp [intOf]; omega
        | true =>
          cases hs : idsL 0 T x with
          | none =>
            rw [hs] at K
            have K' : Calls Tryd.prog 17 #[.slice AR nt cr, .string X] w7 fun e w'' => e = .returned (.int .i64 (-1)) ∧ w7 = w'' := K
            have HS := Lib.hid hs
            clear hx htk hxx hsn ha hTi hX K hs
            go_wp2_with (go_at_call 17; refine K'.mono ?_; rintro e w8 ⟨rfl, rfl⟩)
            go_round
            case rel => exact ⟨i + 1, by omega, by go_num, by rw [HSN.out, HS.out]; rfl⟩
            case measure => simp [intOf]; omega
          | some q =>
            rw [hs] at K
            have K' : Calls Tryd.prog 17 #[.slice AR nt cr, .string X] w7 fun e w'' => e = .returned (.int .i64 (q : Int)) ∧ w7 = w'' := K
            have HS := Lib.hid hs
            have q0 : (0 : Int) ≤ (q : Int) := by omega
            clear hx htk hxx hsn ha hTi hX K hs
            go_wp2_with (go_at_call 17; refine K'.mono ?_; rintro e w8 ⟨rfl, rfl⟩)
            go_round
            case rel => exact ⟨i + 1, by omega, by go_num, by rw [HSN.out, HS.out]; rfl⟩
            case measure => simp [intOf]; omega
      · obtain rfl : N = i := by omega
        rw [show TT.take N = TT from List.take_of_length_le (by rw [HNT.out]; omega), Hbb.out]
        have hz := HZ6.out
        have hnn : n6 ≤ N := by rw [hz]; split <;> omega
        clear hge
        go_upto_region 15 with fail
        go_cut [86] from 65 to 86 (fun s86 wx => s86 = .bool false ∧ w7 = wx)
        case first =>
          cases bb with
          | false =>
            obtain rfl : n6 = 0 := by rw [hz]; rfl
            clear hz hnn
            go_wp2_with fail
            go_meet
            case rel => exact ⟨rfl, rfl⟩
          | true =>
            obtain rfl : n6 = N := by rw [hz]; rfl
            clear hz hnn
            go_wp2_with fail
            go_meet
            case rel => exact ⟨rfl, rfl⟩
        case rest =>
          obtain ⟨rfl, rfl⟩ := hcut
          clear hz
          go_wp2
          go_loopw [16] (fun iv wr => ∃ i : Nat, i ≤ n6 ∧ iv = .int .i64 i ∧ Below w7.heap.size w7 wr) (fun iv _ => n6 - (intOf iv).toNat)
          case atStart => exact ⟨0, Nat.zero_le _, rfl, Below.refl _ _⟩
          case round =>
            obtain ⟨i, hi, rfl, hb⟩ := hrel
            have i0 : (0 : Int) ≤ (i : Int) := by omega
            have i1 : (i : Int) ≤ 4096 := by omega
            rcases Nat.lt_or_ge i n6 with hlt | hge
            · have i2 : (i : Int) < (N : Int) := by omega
              have hTi : i < TT.length := by rw [HNT.out]; omega
              have hx : TT[i]? = some TT[i] := by simp [hTi]
              obtain ⟨x, hxx⟩ : ∃ x, TT[i] = x := ⟨_, rfl⟩
              rw [hxx] at hx
              obtain ⟨g7, rfl, _, hcx⟩ := HT7.out wr hb i x hx
              obtain ⟨g6, rfl, _, hcy⟩ := HC7.out wr hb i x hlt hx
              have KQ := fun (w' : World) (hw : w'.heap = wr.heap) => by
                have h := find_any AR cr (numE 0 T) (mk x) w' (by rw [numE_length, Hnt.out]; omega) (earg_heap (HE7.out wr hb) hw)
                rw [numE_length, Hnt.out, mk_data, bI_ids] at h
                exact h.mono (fun e w'' h => (⟨h.1, h.2.symm⟩ : e = .returned (.int .i64 (bI (idsL 0 T x))) ∧ w'' = w'))
              obtain ⟨z, hz⟩ : ∃ z, bI (idsL 0 T x) = z := ⟨_, rfl⟩
              obtain ⟨X, hX⟩ : ∃ X, mk x = X := ⟨_, rfl⟩
              simp only [hz, hX] at hcx hcy KQ
              have HB := Lib.hid hb
              have hzz : (z != z) = false := by simp
              clear hx hxx hz hX hb hTi
              go_wp2_with fail
              go_quiet ((go_at_call 17; exact Calls.quiet_of_same (KQ _ rfl)))
              clear KQ hcx hcy
              go_wp2
              go_roundw
              case rel => exact ⟨i + 1, by omega, by go_num, HB.out.trans (Go.Joins.below_draws _ _ _)⟩
              case measure => simp [intOf]; omega
            · obtain rfl : n6 = i := by omega
              clear hge hi
              have HB := Lib.hid hb
              clear hb
              go_wp2
              have hall0 : allOk T (ns.take 0) = true := rfl
              have HI0 := HI.out
              go_loop [17, 18, 19] (fun tx th iv => ∃ i : Nat, ∃ u : ByteArray, i ≤ NN ∧ i ≤ 50 ∧ iv = .int .i64 i ∧ th = .bool (allOk T (ns.take i)) ∧ tx = .string u ∧ u.size ≤ 64 * i ∧ (allOk T (ns.take i) = true → u = mk (decT T (ns.take i)))) (fun _ _ iv => NN - (intOf iv).toNat)
              case atStart => exact ⟨0, _, Nat.zero_le _, by omega, rfl, rfl, rfl, by decide, fun _ => rfl⟩
              case round =>
                obtain ⟨i, u, hi, hi50, rfl, rfl, rfl, hus, hu⟩ := hrel
                have us : (u.size : Int) ≤ 8388608 := by omega
                have i0 : (0 : Int) ≤ (i : Int) := by omega
                have i50 : (i : Int) ≤ 50 := by omega
                clear HI0 hall0
                by_cases hlt : i < NN ∧ i < 50
                · obtain ⟨hl1, hl2⟩ := hlt
                  have i2 : (i : Int) < (NN : Int) := by omega
                  have i3 : (i : Int) < 50 := by omega
                  have hTi : i < ns.length := by rw [HNN.out]; exact hl1
                  have htk : ns.take (i + 1) = ns.take i ++ [ns[i]] := List.take_succ_eq_append_getElem hTi
                  have hr := HI.out.2 _ (List.getElem_mem hTi)
                  obtain ⟨g2, o2, rfl, hg2, hcell⟩ := HI.out.1 (by rw [HNN.out]; omega)
                  have hcx := (HB.out.cell (p := ⟨g2, o2 + i, none⟩) (by have := HBW.out.size; simp only; omega)).trans ((HBW.out.cell (p := ⟨g2, o2 + i, none⟩) hg2).trans (hcell i hTi))
                  obtain ⟨z, hz⟩ : ∃ z, ns[i] = z := ⟨_, rfl⟩
                  rw [hz] at hcx htk hr
                  have hsn := allOk_snoc T (ns.take i) z
                  have hdn := decT_snoc T (ns.take i) z
                  rw [← htk] at hsn hdn
                  have HDN := Lib.hid hdn
                  have HU := Lib.hid hu
                  obtain ⟨a, ha⟩ : ∃ a, allOk T (ns.take i) = a := ⟨_, rfl⟩
                  rw [ha] at hsn ⊢
                  have HSN := Lib.hid hsn
                  have HA := Lib.hid ha
                  have HUS := Lib.hid hus
                  clear hus hcell htk hsn hdn ha hz hu hg2
                  cases a with
                  | false =>
                    clear hcx hr
                    go_wp2
                    go_round
                    case rel => first | exact ⟨i + 1, u, by omega, by omega, by go_num, by rw [HSN.out]; rfl, rfl, by have := HUS.out; omega, fun h => absurd h (by rw [HSN.out]; simp)⟩ | (refine ⟨_, _, _, ?_, rfl, rfl, rfl⟩; exact ⟨i + 1, u, by omega, by omega, by go_num, by rw [HSN.out]; rfl, rfl, by have := HUS.out; omega, fun h => absurd h (by rw [HSN.out]; simp)⟩)
                    case measure => simp [intOf]; omega
                  | true =>
                    rcases Int.lt_or_le z 0 with hz0 | hz0
                    · have HTN := Lib.hid (tokL_lt T 0 z hz0)
                      have hz2 : ¬ (0 : Int) ≤ z := by omega
                      have hz3 : decide ((0 : Int) ≤ z) = false := by simp; omega
                      clear hz0
                      go_wp2
                      go_round
                      case rel => first | exact ⟨i + 1, u, by omega, by omega, by go_num, by rw [HSN.out, HTN.out]; rfl, rfl, by have := HUS.out; omega, fun h => absurd h (by rw [HSN.out, HTN.out]; simp)⟩ | (refine ⟨_, _, _, ?_, rfl, rfl, rfl⟩; exact ⟨i + 1, u, by omega, by omega, by go_num, by rw [HSN.out, HTN.out]; rfl, rfl, by have := HUS.out; omega, fun h => absurd h (by rw [HSN.out, HTN.out]; simp)⟩)
                      case measure => simp [intOf]; omega
                    · rcases Int.lt_or_le z (nt : Int) with hz1 | hz1
                      · obtain ⟨q, rfl⟩ := Int.eq_ofNat_of_zero_le hz0
                        have hq : q < T.length := by rw [Hnt.out]; omega
                        have HTN := tokL_at T 0 q hq
                        rw [Nat.zero_add] at HTN
                        obtain ⟨g3, o3, rfl, hg3, hce⟩ := HE7.out wr HB.out (by rw [numE_length]; omega)
                        have hcy := (hce q (by rw [numE_length]; exact hq)).2
                        rw [numE_at T 0 q hq] at hcy
                        obtain ⟨Y, hY⟩ : ∃ Y, T[q] = Y := ⟨_, rfl⟩
                        rw [hY] at hcy HTN
                        have HTN := Lib.hid HTN
                        obtain ⟨X, hX⟩ : ∃ X, mk Y = X := ⟨_, rfl⟩
                        rw [hX] at hcy
                        have xs : (X.size : Int) ≤ 64 := by have := tok_le (HTK.out Y (by rw [← hY]; exact List.getElem_mem hq)); rw [← hX, mk_size]; omega
                        have xs2 : (X.size : Int) ≤ 8388608 := by omega
                        have HX := Lib.hid hX
                        have q1 : (q : Int) < (nt : Int) := hz1
                        clear hce hY hX hq
                        go_wp2
                        go_round
                        case rel => first | exact ⟨i + 1, u ++ X, by omega, by omega, by go_num, by rw [HSN.out, HTN.out]; rfl, rfl, by have := HUS.out; rw [ByteArray.size_append]; omega, fun _ => by rw [HDN.out, HTN.out, ← mk_append, HU.out HA.out, ← HX.out]; rfl⟩ | (refine ⟨_, _, _, ?_, rfl, rfl, rfl⟩; exact ⟨i + 1, u ++ X, by omega, by omega, by go_num, by rw [HSN.out, HTN.out]; rfl, rfl, by have := HUS.out; rw [ByteArray.size_append]; omega, fun _ => by rw [HDN.out, HTN.out, ← mk_append, HU.out HA.out, ← HX.out]; rfl⟩)
                        case measure => simp [intOf]; omega
                      · have HTN := Lib.hid (tokL_ge T 0 z (by rw [Nat.zero_add, Hnt.out]; exact hz1))
                        have hz2 : ¬ z < (nt : Int) := by omega
                        clear hz1
                        go_wp2
                        go_round
                        case rel => first | exact ⟨i + 1, u, by omega, by omega, by go_num, by rw [HSN.out, HTN.out]; rfl, rfl, by have := HUS.out; omega, fun h => absurd h (by rw [HSN.out, HTN.out]; simp)⟩ | (refine ⟨_, _, _, ?_, rfl, rfl, rfl⟩; exact ⟨i + 1, u, by omega, by omega, by go_num, by rw [HSN.out, HTN.out]; rfl, rfl, by have := HUS.out; omega, fun h => absurd h (by rw [HSN.out, HTN.out]; simp)⟩)
                        case measure => simp [intOf]; omega
                · have hx50 : ((NN : Int) ≤ 50 ∧ i = NN) ∨ (¬ (NN : Int) ≤ 50 ∧ i = 50) := by omega
                  clear hus us hlt
                  obtain ⟨ms, hms⟩ : ∃ m, ns.take i = m := ⟨_, rfl⟩
                  rw [hms] at hu ⊢
                  have hml : ms.length = i := by rw [← hms, List.length_take, HNN.out]; omega
                  have HMS := Lib.hid hms
                  have HML := Lib.hid hml
                  obtain ⟨ok, hok⟩ : ∃ x, allOk T ms = x := ⟨_, rfl⟩
                  rw [hok] at hu ⊢
                  have HOK := Lib.hid hok
                  clear hms hml hok
                  rcases hx50 with ⟨hn5, rfl⟩ | ⟨hn5, rfl⟩
                  · rcases Nat.eq_zero_or_pos i with h00 | hpos
                    · subst h00
                      cases A2 with
                      | none =>
                        obtain ⟨W8, hW8⟩ : ∃ x, wr.alloc (.cells #[] 3) = x := ⟨_, rfl⟩
                        have hb8 := (Below.refl wr.heap.size wr).alloc (Nat.le_refl _) (.cells #[] 3)
                        have hown8 := own_empty wr wr.heap.size 3 (Nat.le_refl _)
                        rw [hW8] at hb8 hown8
                        have hap := append_none_run (w := W8) (B := wr.heap.size) c2
                        have HW8 := Lib.hid hW8
                        clear hW8
                        have hti := HML.out
                        have KD := decode_any w4.heap.size b wr.heap.size T true (0 + 1) (some ⟨wr.heap.size, 0, none⟩) 0 ms W8 ((HI7.out.below HB.out).below hb8) (by rw [Hnt.out]; omega) (by omega) (by have := Hbl.out; have := (HI7.out.lt); have := HB.out.size; have := hb8.size; omega) (by rw [hti, List.length_eq_zero_iff.1 hti]; exact hown8) (by rw [hti]; omega) (fun z hz => HI.out.2 z (by rw [← HMS.out] at hz; exact List.mem_of_mem_take hz)) (fun t ht => tok_le (HTK.out t ht))
                        rw [hti] at KD
                        have HB8 := Lib.hid hb8
                        clear hown8 hti hb8
                        unfold DecOut at KD
                        rw [HOK.out] at KD
                        have HFIN : Hid (∀ w9, W8.grownBy w9 (some b) → Below w.heap.size w w9) := Lib.hid fun w9 hg => ((HBW.out.trans (HB.out.mono HBW.out.size)).trans (HB8.out.mono (Nat.le_trans HBW.out.size HB.out.size))).trans (grown_below hg (by have := Hbl.out; have := HBW.out.size; have := HB2b.out; omega) (by have := HBW.out.size; have := HB.out.size; have := HB8.out.size; omega))
                        cases ok with
                        | false =>
                          simp only [Bool.false_eq_true, if_false] at KD
                          have hmt : (mk []).toList.isEmpty = true := by rw [ByteArray.toList_eq, mk_data]; rfl
                          clear hu
                          go_wp2_with (first | (at_builtin; rw [HW8.out]; refine wpList_append_none rfl _ _ 34 rfl _ c2 rfl rfl hap ?_) | (go_at_call 18; (with_reducible refine KD.mono ?_); rintro e w9 ⟨rfl, hi9, hg9⟩; have HG9 := Lib.hid hg9; clear hi9 hg9))
                          go_ret
                          exact ⟨by first | rfl | simp, HFIN.out _ HG9.out⟩
                        | true =>
                          simp only [if_true] at KD
                          obtain rfl := hu rfl
                          go_wp2_with (first | (at_builtin; rw [HW8.out]; refine wpList_append_none rfl _ _ 34 rfl _ c2 rfl rfl hap ?_) | (go_at_call 18; (with_reducible refine KD.mono ?_); rintro e w9 ⟨rfl, hi9, hg9⟩; have HG9 := Lib.hid hg9; clear hi9 hg9))
                          go_ret
                          exact ⟨by first | rfl | simp, HFIN.out _ HG9.out⟩

                      | some ad =>
                        go_wp2_with (at_builtin; refine wpList_append_own _ rfl _ _ 34 rfl wr.heap.size 3 i3 _ 1 8 Tryd.underlying34 hi3 hz0 hz1 hz2 rfl (by decide) _ 0 [] rfl (own_empty wr wr.heap.size 3 (Nat.le_refl _)) ad 0 c2 (icells (ms)) ?zc0 ?zc00 ?zc1 ?zc2 ?zc3 ?zc4 ?zc5 ?_)
                        case zc0 => omega
                        case zc00 => simp [icells]; exact List.length_eq_zero_iff.1 HML.out
                        case zc1 => intro j y hy; have := List.length_eq_zero_iff.1 HML.out; subst this; simp [icells] at hy
                        case zc2 => intro y hy; have := List.length_eq_zero_iff.1 HML.out; subst this; simp [icells] at hy
                        intro v' w8 hown8 hg8 _
                        have hb8 := ((Below.refl wr.heap.size wr).alloc (Nat.le_refl _) (.cells #[] 3)).grown hg8 (by simp) (fun j e => by simp [Value.ownBlock] at e; omega)
                        obtain ⟨AV, cv, rfl⟩ := own_form hown8
                        have hti := HML.out
                        have KD := decode_any w4.heap.size b wr.heap.size T true (0 + 1) AV cv ms w8 ((HI7.out.below HB.out).below hb8) (by rw [Hnt.out]; omega) (by omega) (by have := Hbl.out; have := (HI7.out.lt); have := HB.out.size; have := hb8.size; omega) (by rw [hti]; exact hown8) (by rw [hti]; omega) (fun z hz => HI.out.2 z (by rw [← HMS.out] at hz; exact List.mem_of_mem_take hz)) (fun t ht => tok_le (HTK.out t ht))
                        rw [hti] at KD
                        have HB8 := Lib.hid hb8
                        clear hown8 hg8 hti hb8
                        unfold DecOut at KD
                        rw [HOK.out] at KD
                        have HFIN : Hid (∀ w9, w8.grownBy w9 (some b) → Below w.heap.size w w9) := Lib.hid fun w9 hg => ((HBW.out.trans (HB.out.mono HBW.out.size)).trans (HB8.out.mono (Nat.le_trans HBW.out.size HB.out.size))).trans (grown_below hg (by have := Hbl.out; have := HBW.out.size; have := HB2b.out; omega) (by have := HBW.out.size; have := HB.out.size; have := HB8.out.size; omega))
                        cases ok with
                        | false =>
                          simp only [Bool.false_eq_true, if_false] at KD
                          have hmt : (mk []).toList.isEmpty = true := by rw [ByteArray.toList_eq, mk_data]; rfl
                          clear hu
                          go_wp2_with (go_at_call 18; (with_reducible refine KD.mono ?_); rintro e w9 ⟨rfl, hi9, hg9⟩; have HG9 := Lib.hid hg9; clear hi9 hg9)
                          go_ret
                          exact ⟨by first | rfl | simp, HFIN.out _ HG9.out⟩
                        | true =>
                          simp only [if_true] at KD
                          obtain rfl := hu rfl
                          go_wp2_with (go_at_call 18; (with_reducible refine KD.mono ?_); rintro e w9 ⟨rfl, hi9, hg9⟩; have HG9 := Lib.hid hg9; clear hi9 hg9)
                          go_ret
                          exact ⟨by first | rfl | simp, HFIN.out _ HG9.out⟩

                    · skip
                      obtain ⟨g2, o2, rfl, hg2, hcell⟩ := HI.out.1 (by rw [HNN.out]; omega)
                      have hce := fun j h => (HB.out.cell (p := ⟨g2, o2 + j, none⟩) (by have := HBW.out.size; simp only; omega)).trans ((HBW.out.cell (p := ⟨g2, o2 + j, none⟩) hg2).trans (hcell j h))
                      have hpc := Lib.hid (HMS.out ▸ pre_cells (wr.alloc (.cells #[] 3)) ns g2 o2 i (fun j h => (World.cell?_of_block ((World.grownBy_alloc wr (.cells #[] 3) none).block g2 (by have := HBW.out.size; have := HB.out.size; omega) (by simp))).trans (hce j h)) (by rw [HNN.out]; omega))
                      clear hcell hce
                      go_wp2_with (at_builtin; refine wpList_append_own _ rfl _ _ 34 rfl wr.heap.size 3 i3 _ 1 8 Tryd.underlying34 hi3 hz0 hz1 hz2 rfl (by decide) _ 0 [] rfl (own_empty wr wr.heap.size 3 (Nat.le_refl _)) ⟨g2, o2, none⟩ i c2 (icells ms) ?ac0 ?ac00 ?ac1 ?ac2 ?ac3 ?ac4 ?ac5 ?_)
                      case ac0 => omega
                      case ac00 => simp [icells, HML.out]
                      case ac1 => first | exact hpc.out | (intro j y hy; exact hpc.out j y hy) | (intro j y hy; simpa using hpc.out j y hy)
                      case ac2 => intro y hy; simp only [icells, List.mem_map] at hy; obtain ⟨_, _, rfl⟩ := hy; rfl
                      case ac3 => unfold maxLen; omega
                      case ac4 => omega
                      intro v' w8 hown8 hg8 _
                      have hb8 := ((Below.refl wr.heap.size wr).alloc (Nat.le_refl _) (.cells #[] 3)).grown hg8 (by simp) (fun j e => by simp [Value.ownBlock] at e; omega)
                      obtain ⟨AV, cv, rfl⟩ := own_form hown8
                      have hti := HML.out
                      have KD := decode_any w4.heap.size b wr.heap.size T true (0 + 1) AV cv ms w8 ((HI7.out.below HB.out).below hb8) (by rw [Hnt.out]; omega) (by omega) (by have := Hbl.out; have := (HI7.out.lt); have := HB.out.size; have := hb8.size; omega) (by rw [hti]; exact hown8) (by rw [hti]; omega) (fun z hz => HI.out.2 z (by rw [← HMS.out] at hz; exact List.mem_of_mem_take hz)) (fun t ht => tok_le (HTK.out t ht))
                      rw [hti] at KD
                      have HB8 := Lib.hid hb8
                      clear hown8 hg8 hti hb8
                      unfold DecOut at KD
                      rw [HOK.out] at KD
                      have HFIN : Hid (∀ w9, w8.grownBy w9 (some b) → Below w.heap.size w w9) := Lib.hid fun w9 hg => ((HBW.out.trans (HB.out.mono HBW.out.size)).trans (HB8.out.mono (Nat.le_trans HBW.out.size HB.out.size))).trans (grown_below hg (by have := Hbl.out; have := HBW.out.size; have := HB2b.out; omega) (by have := HBW.out.size; have := HB.out.size; have := HB8.out.size; omega))
                      cases ok with
                      | false =>
                        simp only [Bool.false_eq_true, if_false] at KD
                        have hmt : (mk []).toList.isEmpty = true := by rw [ByteArray.toList_eq, mk_data]; rfl
                        clear hu
                        go_wp2_with (go_at_call 18; (with_reducible refine KD.mono ?_); rintro e w9 ⟨rfl, hi9, hg9⟩; have HG9 := Lib.hid hg9; clear hi9 hg9)
                        go_ret
                        exact ⟨by first | rfl | simp, HFIN.out _ HG9.out⟩
                      | true =>
                        simp only [if_true] at KD
                        obtain rfl := hu rfl
                        go_wp2_with (go_at_call 18; (with_reducible refine KD.mono ?_); rintro e w9 ⟨rfl, hi9, hg9⟩; have HG9 := Lib.hid hg9; clear hi9 hg9)
                        go_ret
                        exact ⟨by first | rfl | simp, HFIN.out _ HG9.out⟩
                  · skip
                    obtain ⟨g2, o2, rfl, hg2, hcell⟩ := HI.out.1 (by rw [HNN.out]; omega)
                    have hce := fun j h => (HB.out.cell (p := ⟨g2, o2 + j, none⟩) (by have := HBW.out.size; simp only; omega)).trans ((HBW.out.cell (p := ⟨g2, o2 + j, none⟩) hg2).trans (hcell j h))
                    have hpc := Lib.hid (HMS.out ▸ pre_cells (wr.alloc (.cells #[] 3)) ns g2 o2 50 (fun j h => (World.cell?_of_block ((World.grownBy_alloc wr (.cells #[] 3) none).block g2 (by have := HBW.out.size; have := HB.out.size; omega) (by simp))).trans (hce j h)) (by rw [HNN.out]; omega))
                    clear hcell hce
                    go_wp2_with (at_builtin; refine wpList_append_own _ rfl _ _ 34 rfl wr.heap.size 3 i3 _ 1 8 Tryd.underlying34 hi3 hz0 hz1 hz2 rfl (by decide) _ 0 [] rfl (own_empty wr wr.heap.size 3 (Nat.le_refl _)) ⟨g2, o2, none⟩ 50 c2 (icells ms) ?bc0 ?bc00 ?bc1 ?bc2 ?bc3 ?bc4 ?bc5 ?_)
                    case bc0 => omega
                    case bc00 => simp [icells, HML.out]
                    case bc1 => first | exact hpc.out | (intro j y hy; exact hpc.out j y hy) | (intro j y hy; simpa using hpc.out j y hy)
                    case bc2 => intro y hy; simp only [icells, List.mem_map] at hy; obtain ⟨_, _, rfl⟩ := hy; rfl
                    case bc3 => unfold maxLen; omega
                    intro v' w8 hown8 hg8 _
                    have hb8 := ((Below.refl wr.heap.size wr).alloc (Nat.le_refl _) (.cells #[] 3)).grown hg8 (by simp) (fun j e => by simp [Value.ownBlock] at e; omega)
                    obtain ⟨AV, cv, rfl⟩ := own_form hown8
                    have hti := HML.out
                    have KD := decode_any w4.heap.size b wr.heap.size T true (0 + 1) AV cv ms w8 ((HI7.out.below HB.out).below hb8) (by rw [Hnt.out]; omega) (by omega) (by have := Hbl.out; have := (HI7.out.lt); have := HB.out.size; have := hb8.size; omega) (by rw [hti]; exact hown8) (by rw [hti]; omega) (fun z hz => HI.out.2 z (by rw [← HMS.out] at hz; exact List.mem_of_mem_take hz)) (fun t ht => tok_le (HTK.out t ht))
                    rw [hti] at KD
                    have HB8 := Lib.hid hb8
                    clear hown8 hg8 hti hb8
                    unfold DecOut at KD
                    rw [HOK.out] at KD
                    have HFIN : Hid (∀ w9, w8.grownBy w9 (some b) → Below w.heap.size w w9) := Lib.hid fun w9 hg => ((HBW.out.trans (HB.out.mono HBW.out.size)).trans (HB8.out.mono (Nat.le_trans HBW.out.size HB.out.size))).trans (grown_below hg (by have := Hbl.out; have := HBW.out.size; have := HB2b.out; omega) (by have := HBW.out.size; have := HB.out.size; have := HB8.out.size; omega))
                    cases ok with
                    | false =>
                      simp only [Bool.false_eq_true, if_false] at KD
                      have hmt : (mk []).toList.isEmpty = true := by rw [ByteArray.toList_eq, mk_data]; rfl
                      clear hu
                      go_wp2_with (go_at_call 18; (with_reducible refine KD.mono ?_); rintro e w9 ⟨rfl, hi9, hg9⟩; have HG9 := Lib.hid hg9; clear hi9 hg9)
                      go_ret
                      exact ⟨by first | rfl | simp, HFIN.out _ HG9.out⟩
                    | true =>
                      simp only [if_true] at KD
                      obtain rfl := hu rfl
                      go_wp2_with (go_at_call 18; (with_reducible refine KD.mono ?_); rintro e w9 ⟨rfl, hi9, hg9⟩; have HG9 := Lib.hid hg9; clear hi9 hg9)
                      go_ret
                      exact ⟨by first | rfl | simp, HFIN.out _ HG9.out⟩

end Go.Proofs.YtejokbfejkkpmaaDoor
