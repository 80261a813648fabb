/- VocabOf, walked: it says true. -/
import Derived.Test.YtejokbfejkkpmaaDoorRo
import Derived.Test.YtejokbfejkkpmaaDoorVm
namespace Go.Proofs.YtejokbfejkkpmaaDoor
open Go.RowKit Go.Maps Go.WideMaps
theorem base_nodup : baseT.Nodup := by decide +kernel
theorem addT_nodup (ts : List Bs) (s : Bs) (h : ts.Nodup) : (addT ts s).Nodup := by
  unfold addT
  split
  · exact h
  · rename_i hc
    simp only [Bool.or_eq_true, not_or, Bool.not_eq_true, Bool.not_eq_false'] at hc
    rw [List.nodup_append]
    refine ⟨h, by simp, ?_⟩
    intro a ha b hb
    obtain rfl := List.mem_singleton.1 hb
    rintro rfl
    have := List.contains_iff_mem.2 ha
    rw [hc.1] at this; cases this
theorem fold_nodup (ps : List (Bs × Bs)) : ∀ ts : List Bs, ts.Nodup → (ps.foldl (fun ts p => addT ts (p.1 ++ p.2)) ts).Nodup := by
  induction ps with
  | nil => intro ts h; exact h
  | cons p ps ih => intro ts h; exact ih _ (addT_nodup ts _ h)
theorem ofT_nodup (ps : List (Bs × Bs)) : (ofT ps).Nodup := fold_nodup ps _ base_nodup
theorem tok_no10 {t : Bs} (h : tok t = true) : (10 : UInt8) ∉ t := by
  unfold tok at h
  simp only [Bool.and_eq_true, List.all_eq_true] at h
  intro hm
  have := h.1 10 hm
  exact absurd this (by decide)
theorem goV_numE (ts : List Bs) : ∀ acc : List En, (∀ t ∈ ts, tok t = true) → acc.length + ts.length ≤ 4096 → (0 < acc.length → lastI acc < acc.length) → (∀ t ∈ ts, hasT acc t = false) → ts.Nodup →
    goV (showT Lib.decDigits (numE acc.length ts)) acc = (acc ++ numE acc.length ts, 0, 0) := by
  induction ts with
  | nil => intro acc _ _ _ _ _; show goV [] acc = _; rw [goV_nil]; simp [numE]
  | cons t ts ih =>
    intro acc h1 h2 h3 h4 h5
    have ht := h1 t (by simp)
    simp only [List.length_cons] at h2
    obtain ⟨hn1, hn2⟩ := List.nodup_cons.1 h5
    have hs : showT Lib.decDigits (numE acc.length (t :: ts)) = (Lib.decDigits acc.length ++ 32 :: t) ++ 10 :: showT Lib.decDigits (numE (acc.length + 1) ts) := by
      simp [numE, showT]
    have hno : (10 : UInt8) ∉ Lib.decDigits acc.length ++ 32 :: t := by
      rw [List.mem_append, List.mem_cons]
      rintro (h | h | h)
      · exact dec_no _ 10 (by decide) h
      · exact absurd h (by decide)
      · exact tok_no10 ht h
    obtain ⟨hb, hq⟩ := body_line (Lib.decDigits acc.length ++ 32 :: t) (showT Lib.decDigits (numE (acc.length + 1) ts)) hno
    have hv : lineV (bodyOf (showT Lib.decDigits (numE acc.length (t :: ts)))) = some (acc.length, t) := by
      rw [hs, hb]
      exact (lineV_some _ _ _).2 ⟨by omega, ht, rfl⟩
    have hql : qOf (showT Lib.decDigits (numE acc.length (t :: ts))) < (showT Lib.decDigits (numE acc.length (t :: ts))).length := by
      rw [hs, hq]; simp only [List.length_append, List.length_cons]; omega
    rw [goV_next _ acc (acc.length, t) (by omega) hql hv (fun h => by have := h3 h; show ¬ acc.length ≤ lastI acc; omega) (h4 t (by simp))]
    have hdrop : (showT Lib.decDigits (numE acc.length (t :: ts))).drop (qOf (showT Lib.decDigits (numE acc.length (t :: ts))) + 1) = showT Lib.decDigits (numE (acc.length + 1) ts) := by
      rw [hs, hq, List.drop_append, List.drop_eq_nil_of_le (by omega), List.nil_append]
      rw [show (Lib.decDigits acc.length ++ 32 :: t).length + 1 - (Lib.decDigits acc.length ++ 32 :: t).length = 1 by omega]
      rfl
    rw [hdrop]
    have hl : (acc ++ [(acc.length, t)]).length = acc.length + 1 := by simp
    have := ih (acc ++ [(acc.length, t)]) (fun u hu => h1 u (by simp [hu])) (by rw [hl]; omega)
      (fun _ => by rw [lastI_at (acc ++ [(acc.length, t)]) acc.length hl]; simp)
      (fun u hu => by
        rw [hasT_snoc, h4 u (by simp [hu])]
        simp only [Bool.false_or, beq_eq_false_iff_ne]
        rintro rfl
        exact hn1 hu) hn2
    rw [hl] at this
    rw [this]
    simp [numE]
theorem show_len (D : Nat → Bs) (c d : Nat) (es : List En) (h1 : ∀ e ∈ es, (D e.1).length ≤ c) (h2 : ∀ e ∈ es, e.2.length ≤ d) : (showT D es).length ≤ es.length * (c + d + 2) := by
  induction es with
  | nil => simp [showT]
  | cons e es ih =>
    have a1 := h1 e (by simp)
    have a2 := h2 e (by simp)
    have a3 := ih (fun x hx => h1 x (by simp [hx])) (fun x hx => h2 x (by simp [hx]))
    simp only [showT, List.length_append, List.length_cons, List.length_nil, Nat.add_mul, Nat.one_mul]
    omega
theorem numE_mem (l : List Bs) : ∀ n, ∀ e ∈ numE n l, e.1 < n + l.length ∧ e.2 ∈ l := by
  induction l with
  | nil => intro n e he; cases he
  | cons a l ih =>
    intro n e he
    rcases List.mem_cons.1 he with rfl | h
    · exact ⟨by simp, by simp⟩
    · have := ih (n + 1) e h
      exact ⟨by simp only [List.length_cons]; omega, by simp [this.2]⟩
theorem of_show_len (ps : List (Bs × Bs)) (h : ps.length ≤ 60) : (showT Lib.decDigits (numE 0 (ofT ps))).length ≤ 12000 := by
  have hl := (ofT_len ps).2
  have := show_len Lib.decDigits 3 64 (numE 0 (ofT ps))
    (fun e he => dec_len 2 e.1 (by have := (numE_mem _ 0 e he).1; omega))
    (fun e he => tok_small (ofT_tok ps _ (numE_mem _ 0 e he).2))
  rw [numE_length] at this
  have h2 : (ofT ps).length * (3 + 64 + 2) ≤ 154 * 69 := Nat.mul_le_mul_right _ (by omega)
  omega
theorem of_parsed (ps : List (Bs × Bs)) (h : ps.length ≤ 60) : parseV (showT Lib.decDigits (numE 0 (ofT ps))) = (numE 0 (ofT ps), 0, 0) := by
  have hl := (ofT_len ps).2
  have hs := of_show_len ps h
  unfold parseV
  rw [if_neg (by omega)]
  exact goV_numE (ofT ps) [] (ofT_tok ps) (by simp; omega) (fun h => absurd h (by simp)) (fun t _ => rfl) (ofT_nodup ps)
theorem pairs_of_row' {w : World} {B cap n : Nat} {t : TypeId} {A : Option Addr} {ps : List (Bs × Bs)} (h : w.ownsRow B t 2 (.slice A n cap) n (pcells ps)) (hn : ps.length = n) (hs : Small ps) : Pairs w A ps := by
  refine ⟨fun h0 => ?_, fun p hp => by have := hs p hp; omega⟩
  obtain ⟨g, c, hv, _, hgl⟩ := h.form (by omega)
  injection hv with hA _ hc
  subst hA
  refine ⟨g, rfl, hgl, fun j hj => ?_⟩
  obtain ⟨e1, e2⟩ := pcells_at ps j hj
  have x1 := h.cellAt (j * 2) (by omega)
  have x2 := h.cellAt (j * 2 + 1) (by omega)
  rw [e1] at x1
  rw [e2] at x2
  exact ⟨x1, x2⟩
set_option maxRecDepth 100000 in
set_option maxHeartbeats 4000000 in
theorem vof_any (A0 : Option Addr) (n0 cap0 : Nat) (ps0 : List (Bs × Bs)) (w : World) (h0 : PairArg w A0 n0 ps0) (s0 : Small ps0) (E : Envw w) :
    Calls Tryd.prog 8 #[.slice A0 n0 cap0] w fun e w' => e = .returned (.bool true) ∧ Below w.heap.size w w' := by
  have KS := speaks_any w
  have HE := Lib.hid E
  clear E
  go_enter Tryd.func8, Tryd.ntmps8
  go_wp2_with (go_at_call 9; refine KS.mono ?_)
  rintro e w1 ⟨rfl, b1⟩
  clear KS
  have z1 := b1.size
  have KA := pairs_any A0 n0 cap0 ps0 w1 (h0.below (Nat.le_refl _) b1)
  go_wp2_with (go_at_call 10; refine KA.mono ?_)
  rintro e w2 ⟨va, vb, rfl, ra, rb, b2⟩
  clear KA
  have B2 : Below w.heap.size w w2 := b1.trans (b2.mono z1)
  have S0 := s0.take 60
  have L0 : (ps0.take 60).length ≤ 60 := by rw [List.length_take]; omega
  obtain ⟨P, hP⟩ : ∃ P, ps0.take 60 = P := ⟨_, rfl⟩
  rw [hP] at ra rb S0 L0
  obtain ⟨A, ca, rfl⟩ := own_form ra
  obtain ⟨A', cb, rfl⟩ := own_form rb
  have KX := of_any A ca P w2 (by omega) (pairs_of_row ra rfl S0)
  have PB := fun w' (hb : Below w2.heap.size w2 w') => pairs_of_row' (own_below rb hb) rfl S0
  have KR := fun w' (hb : Below w2.heap.size w2 w') => rof_any A' cb P w' (by omega) (PB w' hb)
  have hpar := of_parsed P L0
  have hshl := of_show_len P L0
  have hTl := (ofT_len P).2
  have hsm : ∀ e ∈ numE 0 (ofT P), e.1 ≤ 1073741824 := fun e he => by have := (numE_mem _ 0 e he).1; omega
  obtain ⟨T, hT⟩ : ∃ T, ofT P = T := ⟨_, rfl⟩
  rw [hT] at KX KR hpar hshl hTl hsm
  obtain ⟨es, hes⟩ : ∃ es, numE 0 T = es := ⟨_, rfl⟩
  have hel : T.length = es.length := by rw [← hes, numE_length]
  have hec : ents 0 T = ecs es := by rw [← hes, ecs_numE]
  rw [hel, hec] at KX KR
  rw [hes] at hpar hshl hsm
  rw [hel] at hTl
  have HPAR := Lib.hid hpar
  have HSHL := Lib.hid hshl
  have HSM := Lib.hid hsm
  have HTL := Lib.hid hTl
  have HKR := Lib.hid KR
  have HL0 := Lib.hid L0
  obtain ⟨np, hnp⟩ : ∃ n, P.length = n := ⟨_, rfl⟩
  simp only [hnp] at KX ⊢
  have Hnp := Lib.hid hnp
  clear hpar hshl hsm hTl hel hec hes hT hP KR PB ra rb S0 L0 b1 b2 h0 s0 z1 hnp
  go_wp2_with (go_at_call 11; refine KX.mono ?_)
  rintro e w3 ⟨v, rfl, rx, b3⟩
  clear KX
  obtain ⟨AX, cx, rfl⟩ := own_form rx
  have B3 : Below w.heap.size w w3 := B2.trans (b3.mono B2.size)
  have E3 := HE.out.below B3
  have ex := earg_of rx
  have KW := show_parsed AX cx es w3 ex (by have := HTL.out; have := HL0.out; omega) (by have := HSHL.out; omega) HSM.out E3
  clear E3 rx
  go_wp2_with (go_at_call 26; refine KW.mono ?_)
  rintro e w4 ⟨rfl, b4⟩
  clear KW
  have B4 : Below w.heap.size w w4 := B3.trans (b4.mono B3.size)
  have C4 : Below w2.heap.size w2 w4 := b3.trans (b4.mono b3.size)
  have ex4 := earg_below ex b4
  have KP := parse_any (mk (showT Lib.decDigits es)) w4 (by rw [mk_size]; have := HSHL.out; omega) (HE.out.below B4)
  rw [mk_data, HPAR.out] at KP
  simp only at KP
  rw [show (((0 : Nat) : Int)) = 0 from rfl] at KP
  obtain ⟨X, hX⟩ : ∃ X, mk (showT Lib.decDigits es) = X := ⟨_, rfl⟩
  rw [hX] at KP ⊢
  clear hX ex b3 b4 B3
  go_wp2_with (go_at_call 23; refine KP.mono ?_)
  rintro e w5 ⟨v, rfl, ry, b5⟩
  clear KP
  obtain ⟨AY, cy, rfl⟩ := own_form ry
  have B5 : Below w.heap.size w w5 := B4.trans (b5.mono B4.size)
  have C5 : Below w2.heap.size w2 w5 := C4.trans (b5.mono C4.size)
  have ex5 := earg_below ex4 b5
  have ey5 := earg_of ry
  have KQ := HKR.out w5 C5
  simp only [Hnp.out] at KQ
  clear ry ex4 b5 B4 C4
  have hes : es.length ≤ 100000 := by have := HTL.out; have := HL0.out; omega
  have HES := Lib.hid hes
  clear hes
  go_wp2_with (go_at_call 13; refine KQ.mono ?_; rintro e w6 ⟨v, rfl, rz, b6⟩; obtain ⟨AZ, cz, rfl⟩ := own_form rz)
  clear KQ
  have B6 : Below w.heap.size w w6 := B5.trans (b6.mono B5.size)
  have C6 : Below w2.heap.size w2 w6 := C5.trans (b6.mono C5.size)
  have ex6 := earg_below ex5 b6
  have ey6 := earg_below ey5 b6
  have ez6 := earg_of rz
  have KM := same_true AX AZ cx cz es w6 HES.out ex6 ez6
  clear rz ex5 ey5 b6 B5 C5
  refine KM.mono ?_
  rintro e w7 ⟨rfl, m, rfl⟩
  clear KM
  have B7 : Below w.heap.size w (w6.drewN m) := below_drewN B6 m
  have C7 : Below w2.heap.size w2 (w6.drewN m) := below_drewN C6 m
  have ey7 := earg_below ey6 (below_drewN (Below.refl _ _) m)
  have KQ := HKR.out _ C7
  simp only [Hnp.out] at KQ
  obtain ⟨w7, hw7⟩ : ∃ x, w6.drewN m = x := ⟨_, rfl⟩
  rw [hw7] at B7 C7 ey7 KQ ⊢
  clear hw7 B6 C6 ex6 ey6 ez6
  go_wp2_with (go_at_call 13; refine KQ.mono ?_; rintro e w8 ⟨v, rfl, rz, b8⟩; obtain ⟨AZ2, cz2, rfl⟩ := own_form rz)
  clear KQ
  have B8 : Below w.heap.size w w8 := B7.trans (b8.mono B7.size)
  have ey8 := earg_below ey7 b8
  have ez8 := earg_of rz
  have KM := same_true AY AZ2 cy cz2 es w8 HES.out ey8 ez8
  clear rz ey7 b8 B7 C7
  refine KM.mono ?_
  rintro e w9 ⟨rfl, m2, rfl⟩
  clear KM
  go_wp2
  go_ret
  exact ⟨rfl, below_drewN B8 m2⟩
end Go.Proofs.YtejokbfejkkpmaaDoor
