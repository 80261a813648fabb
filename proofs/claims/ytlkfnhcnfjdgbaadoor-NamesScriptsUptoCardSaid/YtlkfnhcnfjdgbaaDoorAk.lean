/- names.Table.Apply where updates may be, walked. -/
import Derived.Test.YtlkfnhcnfjdgbaaDoorAz
namespace Go.Proofs.YtlkfnhcnfjdgbaaDoor
open Go.RowKit Go.Maps Go.WideMaps
theorem pos_some (R : Refs) (n : Bs) (hs : Sorted R) (h : (getR R n).isSome = true) : posR R n < R.length := by
  rcases get_pos R n hs with ⟨hl, _⟩ | ⟨e, _⟩
  · exact hl
  · rw [e] at h; cases h
theorem Fin.put0 {W w : World} {X : Nat} {a b c : Value} {v1 : Value} {n1 : Nat} {xs1 : List Value} {v2 : Value} {n2 : Nat} {xs2 : List Value} (h : Fin W w X #[a, b, c] v1 n1 xs1 v2 n2 xs2) (u : Value) : Fin W (w.setCell ⟨X, 0, none⟩ u) X #[u, b, c] v1 n1 xs1 v2 n2 xs2 := by
  simpa using h.set 0 u
theorem own_set3 {w : World} {B s n X : Nat} {e e' : TypeId} {v : Value} {xs : List Value} {cs : Array Value} (h : w.ownsRow B e s v n xs) (hX : Blk w X cs e') (he : e ≠ e') (a b c : Value) : (((w.setCell ⟨X, 0, none⟩ a).setCell ⟨X, 1, none⟩ b).setCell ⟨X, 2, none⟩ c).ownsRow B e s v n xs :=
  own_set (own_set (own_set h hX he 0 a) (hX.set 0 a) he 1 b) ((hX.set 0 a).set 1 b) he 2 c
/-- The log's block is not one of the first B. -/
def Fresh (B : Nat) (v : Value) : Prop := ∀ P nR pc h PB nL pb, v = .agg #[.slice P nR pc, h, .slice PB nL pb] → ∀ a : Addr, PB = some a → B ≤ a.block
set_option maxRecDepth 100000 in
set_option maxHeartbeats 8000000 in
theorem apply_ok (t : Tbl) (v : Value) (us : List Upd) (A' : Option Addr) (cap' : Nat) (h : Bs) (m : Int) (w : World) (hv : TblAt w t v) (hs : Sorted t.refs) (hrl : t.refs.length ≤ 900000) (hll : t.log.length ≤ 900000) (hu : ∀ u ∈ us, u.name.length ≤ 2000000) (hul : us.length ≤ 10000) (hU : Upds w A' us)
    (hA' : A' = none → us.length = 0 ∧ cap' = 0) (hh : h.length ≤ 2000000) (hm : w.cell? ⟨0, 0, none⟩ = some (.int .i64 m)) (hE : mayE t.refs us h = 0) :
    Calls Tryd.prog 13 #[v, .slice A' us.length cap', .string (mk h)] w fun e w' => ∃ v', e = .returned (.tuple #[v', .int .i64 0]) ∧ TblAt w' (t.put us h) v' ∧ Fresh w.heap.size v' ∧ Below w.heap.size w w' := by
  obtain ⟨A, c, B, cb, rfl, hA0, hB0, hR, hLg, _, _⟩ := hv
  obtain ⟨R, hd, lg⟩ := t
  simp only at hR hs hrl hE hll hA0 hB0 hLg ⊢
  obtain ⟨iu, hiu, hu0, hu1, hu2⟩ := info_parts info39
  obtain ⟨_, _, _, hdist, hright, hfresh⟩ := (may_zero R us h).1 hE
  have hb0 : Below w.heap.size w ((w.alloc (.cells #[.slice A R.length c, .string (mk hd), .slice B lg.length cb] 31)).alloc (.cells #[.slice none 0 0, .string ⟨#[]⟩, .slice none 0 0] 31)) := (below_alloc w _).alloc (by simp) _
  have hU1 := hU.below (Nat.le_refl _) hb0
  have hR1 := hR.below (Nat.le_refl _) hb0
  have hL1 := hLg.below (Nat.le_refl _) hb0
  have KM := may_any A c R (mk hd) B lg.length cb A' cap' us h m _ hs (by omega) hR1 hu (by omega) hU1 hh ((hb0.cell (p := ⟨0, 0, none⟩) (cell_lt hm)).trans hm)
  have e3 : Blk ((w.alloc (.cells #[.slice A R.length c, .string (mk hd), .slice B lg.length cb] 31)).alloc (.cells #[.slice none 0 0, .string ⟨#[]⟩, .slice none 0 0] 31)) w.heap.size #[.slice A R.length c, .string (mk hd), .slice B lg.length cb] 31 := (Blk.new w _ _).alloc _
  have e6 : Blk ((w.alloc (.cells #[.slice A R.length c, .string (mk hd), .slice B lg.length cb] 31)).alloc (.cells #[.slice none 0 0, .string ⟨#[]⟩, .slice none 0 0] 31)) (w.heap.size + 1) #[.slice none 0 0, .string ⟨#[]⟩, .slice none 0 0] 31 := by
    have := Blk.new (w.alloc (.cells #[.slice A R.length c, .string (mk hd), .slice B lg.length cb] 31)) #[.slice none 0 0, .string ⟨#[]⟩, .slice none 0 0] 31
    rw [show (w.alloc (.cells #[.slice A R.length c, .string (mk hd), .slice B lg.length cb] 31)).heap.size = w.heap.size + 1 by simp] at this
    exact this
  have hWs : ((w.alloc (.cells #[.slice A R.length c, .string (mk hd), .slice B lg.length cb] 31)).alloc (.cells #[.slice none 0 0, .string ⟨#[]⟩, .slice none 0 0] 31)).heap.size = w.heap.size + 2 := by simp
  obtain ⟨W, hW⟩ : ∃ W, (w.alloc (.cells #[.slice A R.length c, .string (mk hd), .slice B lg.length cb] 31)).alloc (.cells #[.slice none 0 0, .string ⟨#[]⟩, .slice none 0 0] 31) = W := ⟨_, rfl⟩
  rw [hW] at hb0 KM e3 e6 hWs hU1 hR1 hL1
  rw [hE] at KM
  have GT := Lib.hid (show ∀ w2, Below W.heap.size W w2 → (w2.cell? ⟨w.heap.size, 0, none⟩ = some (.slice A R.length c) ∧ w2.cell? ⟨w.heap.size, 1, none⟩ = some (.string (mk hd)) ∧ w2.cell? ⟨w.heap.size, 2, none⟩ = some (.slice B lg.length cb)) from fun w2 hb2 => by
    have t6 := e3.below hb2
    exact ⟨t6.cell 0, t6.cell 1, t6.cell 2⟩)
  have GR := Lib.hid (show ∀ w2, Below W.heap.size W w2 → Lies w2 A (rcells R) from fun w2 hb2 => (hR1.below (Nat.le_refl _) hb2).lies)
  have GL := Lib.hid (show ∀ w2, Below W.heap.size W w2 → Lies w2 B (ucells lg) from fun w2 hb2 => hL1.below (Nat.le_refl _) hb2)
  have GU := Lib.hid (show ∀ w2, Below W.heap.size W w2 → Upds w2 A' us from fun w2 hb2 => hU1.below (Nat.le_refl _) hb2)
  have E6 := Lib.hid e6
  have hW' := Lib.hid hW
  have HS := Lib.hid hs
  have HD := Lib.hid hdist
  have HRt := Lib.hid hright
  have HFr := Lib.hid hfresh
  have HA0 := Lib.hid hA0
  have HB0 := Lib.hid hB0
  have HA' := Lib.hid hA'
  have hRl := rcells_length R
  have hLl := ucells_length lg
  have hUl := ucells_length us
  have hR1' := rcells_one R
  have hL1' := ucells_one lg
  have hU1' := ucells_one us
  obtain ⟨L, hL⟩ : ∃ L, R.length = L := ⟨_, rfl⟩
  obtain ⟨N, hN⟩ : ∃ L, us.length = L := ⟨_, rfl⟩
  obtain ⟨M, hM⟩ : ∃ L, lg.length = L := ⟨_, rfl⟩
  rw [hL, hN, hM] at KM
  rw [hL, hM] at hW' GT
  rw [hL] at hRl hrl HA0
  rw [hM] at hLl hll HB0
  rw [hN] at hUl hul HA'
  rw [hL, hM, hN]
  have HLL := Lib.hid hL
  have HNN := Lib.hid hN
  have HMM := Lib.hid hM
  have HR1 := Lib.hid hR1'
  have HL1 := Lib.hid hL1'
  have HU1 := Lib.hid hU1'
  have HRl := Lib.hid hRl
  have HLl := Lib.hid hLl
  have HUl := Lib.hid hUl
  clear hW hm hR hU hu hh hs hL hN hM hR1 hL1 hU1 hLg hA0 hB0 hA' e3 e6 hdist hright hfresh hE hR1' hL1' hU1' hRl hLl hUl
  go_enter Tryd.func13, Tryd.ntmps13
  go_wp2_with (go_at_call 27; rw [hW'.out]; refine KM.mono ?_)
  rintro e w2 ⟨rfl, hb2⟩
  clear KM
  have hs2 := hb2.size
  obtain ⟨H, hH⟩ : ∃ H, w.heap.size = H := ⟨_, rfl⟩
  rw [hH] at GT E6 hWs
  simp only [hH]
  go_upto_region 4 with fail
  go_cut [9] from 22 to 32 (fun s9 wx => ∃ X A1 c1 A2 c2, s9 = .pointer (some ⟨X, 0, none⟩) ∧ Fin W wx X #[.slice A1 L c1, .string (mk hd), .slice A2 (M + N) c2] (.slice A1 L c1) L (rcells R) (.slice A2 (M + N) c2) (M + N) (ucells lg ++ ucells us))
  case first =>
    obtain ⟨k0, k1, k2⟩ := GT.out _ hb2
    have M1 : Mid W w2 none none none := ⟨hb2, fun p e => (by cases e), fun p e => (by cases e), fun b e => (by cases e)⟩
    have F1 : True := trivial
    have F1a : True := trivial
    clear HS HD HRt HFr E6
    go_region_held3 (fun w' => w'.cell? ⟨H, 0, none⟩ = some (.slice A L c) ∧ w'.cell? ⟨H, 1, none⟩ = some (.string (mk hd)) ∧ w'.cell? ⟨H, 2, none⟩ = some (.slice B M cb))
      (first | (go_keep) | (exact F1) | (exact F1a _) | (exact GT.out _ M1.new.bel) | (exact GT.out _ (M1.fin2 _ _ _).2.2.2.2))
      (first
        | (go_at_call 28
           refine (clone_refs_any A L c (rcells R) _ HA0.out HRl.out HR1.out (by omega) (by first | exact GR.out _ M1.bel | exact GR.out _ M1.drew.bel | exact GR.out _ M1.new.bel | exact GR.out _ M1.new.drew.bel)).mono ?_
           rintro e w1 ⟨A1, c1, rfl, ho1, h1⟩
           first
             | (have M1 := Mid.callRefs M1 ho1 h1)
             | (have M1 := Mid.callRefs M1.drew ho1 h1)
             | (have M1 := Mid.callRefs M1.new ho1 h1)
             | (have M1 := Mid.callRefs M1.new.drew ho1 h1)
           clear ho1 h1
           first
             | (have X1 := (M1.tab _ rfl).1
                have y0 := X1.cell 0
                have y1 := X1.cell 1
                have y2 := X1.cell 2
                have f0 := X1.frozen 0
                have f1 := X1.frozen 1
                have f2 := X1.frozen 2
                simp at y0 y1 y2 f0 f1 f2
                clear X1)
             | skip
           have F1 := GT.out _ M1.bel
           have F1a := fun o => GT.out _ (M1.bel.alloc M1.bel.size o))
        | (go_at_call 29
           refine (clone_log_any B M cb (ucells lg) _ HB0.out HLl.out HL1.out (by omega) (by first | exact GL.out _ M1.bel | exact GL.out _ M1.drew.bel | exact GL.out _ M1.new.bel | exact GL.out _ M1.new.drew.bel)).mono ?_
           rintro e w1 ⟨A2, c2, rfl, ho1, h1⟩
           first
             | (have M1 := Mid.callLog M1 ho1 h1)
             | (have M1 := Mid.callLog M1.drew ho1 h1)
             | (have M1 := Mid.callLog M1.new ho1 h1)
             | (have M1 := Mid.callLog M1.new.drew ho1 h1)
           clear ho1 h1
           first
             | (have X1 := (M1.tab _ rfl).1
                have y0 := X1.cell 0
                have y1 := X1.cell 1
                have y2 := X1.cell 2
                have f0 := X1.frozen 0
                have f1 := X1.frozen 1
                have f2 := X1.frozen 2
                simp at y0 y1 y2 f0 f1 f2
                clear X1)
             | skip
           have F1 := GT.out _ M1.bel
           have F1a := fun o => GT.out _ (M1.bel.alloc M1.bel.size o))
        | (refine step_app_any (by rfl) (.tmp 29) (.tmp 30) 29 (by rfl) W.heap.size 39 iu _ 3 48 Tryd.underlying29 hiu hu0 hu1 hu2 (by rfl) (by omega) (.slice A2 M c2) M (ucells lg) (by rfl)
             (by first | exact M1.log _ rfl | exact M1.drew.log _ rfl | exact M1.new.log _ rfl | exact M1.new.drew.log _ rfl) A' N cap' (ucells us) (by rfl) HA'.out HUl.out
             (by first | exact (GU.out _ M1.bel).lies | exact (GU.out _ M1.drew.bel).lies | exact (GU.out _ M1.new.bel).lies | exact (GU.out _ M1.new.drew.bel).lies) HU1.out (by simp only [maxLen]; omega) (by omega)
             (by first | exact M1.bel.size | exact M1.drew.bel.size | exact M1.new.bel.size | exact M1.new.drew.bel.size) ?_
           intro A3 c3 w1 ho1 h1
           first
             | (have M1 := Mid.app M1 ho1 h1)
             | (have M1 := Mid.app M1.drew ho1 h1)
             | (have M1 := Mid.app M1.new ho1 h1)
             | (have M1 := Mid.app M1.new.drew ho1 h1)
           clear ho1 h1
           first
             | (have X1 := (M1.tab _ rfl).1
                have y0 := X1.cell 0
                have y1 := X1.cell 1
                have y2 := X1.cell 2
                have f0 := X1.frozen 0
                have f1 := X1.frozen 1
                have f2 := X1.frozen 2
                simp at y0 y1 y2 f0 f1 f2
                clear X1)
             | skip
           have F1 := GT.out _ M1.bel
           have F1a := fun o => GT.out _ (M1.bel.alloc M1.bel.size o))
        | (fail))
    all_goals clear F1 F1a
    all_goals go_wp2_with fail
    all_goals go_meet
    all_goals first
      | exact ⟨_, A1, c1, A3, c3, rfl, M1.fin1 _⟩
      | exact ⟨_, A1, c1, A3, c3, rfl, M1.drew.fin1 _⟩
      | exact ⟨_, A1, c1, A3, c3, rfl, M1.fin2 _ _ _⟩
      | exact ⟨_, A1, c1, A3, c3, rfl, M1.drew.fin2 _ _ _⟩
  case rest =>
    rename World => wx
    obtain ⟨X, A1, c1, A2, c2, rfl, hF⟩ := hcut
    have hcap := row_cap hF.2.2.1
    have hn2 := row_none hF.2.2.1
    obtain ⟨Kn, hKn⟩ : ∃ K, M + N = K := ⟨_, rfl⟩
    rw [hKn] at hF hcap hn2
    have hKl : (lg ++ us).length = Kn := by rw [List.length_append, HMM.out, HNN.out, hKn]
    have hKb : Kn ≤ 1000000 := by omega
    obtain ⟨A4, K4, c4, lo, hmx, hsl, hlen, hlies⟩ : ∃ (A4 : Option Addr) (K4 c4 : Nat) (lo : Int), max ((Kn : Int) - 256) 0 = lo ∧ (∀ w, (Instr.slice 29 (.slice A2 Kn c2) (some (.int .i64 lo)) none none).run Tryd.prog w = .ok (.slice A4 K4 c4) w) ∧
        ((lg ++ us).drop ((lg ++ us).length - 256)).length = K4 ∧ (∀ w', w'.ownsRow W.heap.size 39 3 (.slice A2 Kn c2) Kn (ucells lg ++ ucells us) → Lies w' A4 (ucells ((lg ++ us).drop ((lg ++ us).length - 256))) ∧ (A4 = none → K4 = 0) ∧ Typed w' A4 39 ∧ ∀ a : Addr, A4 = some a → W.heap.size ≤ a.block) := by
      refine ⟨_, _, _, ((Kn - 256 : Nat) : Int), by omega, fun w => cut_log A2 Kn c2 (Kn - 256) w (by omega), by rw [List.length_drop, hKl], fun w' ho => ?_⟩
      rw [← ucells_app] at ho
      rw [hKl]
      refine ⟨Lies.cut (Lies.of_row ho) (by rw [hKl]; exact hcap) (by rw [hKl]; omega), fun e => ?_, (Typed.of_row ho).cut _ _ _, fun a ha => ?_⟩
      rotate_left
      · have hb : ∀ b : Addr, A2 = some b → W.heap.size ≤ b.block := fun b hb => by
          rcases ho.2 with ⟨hv, _⟩ | ⟨g, cap, cur, hv, hBg, _⟩
          · simp [hb] at hv
          · simp only [Value.slice.injEq] at hv
            rw [hb] at hv
            rw [Option.some.inj hv.1]
            exact hBg
        split at ha
        · exact hb a ha
        · cases A2 with
          | none => simp at ha
          | some b =>
            have e1 : b.add ((Kn - 256) * 3) = a := by simpa using ha
            rw [← e1, show (b.add ((Kn - 256) * 3)).block = b.block by unfold Addr.add; split <;> rfl]
            exact hb b rfl
      have : A2 = none := by
        split at e
        · exact e
        · simpa using e
      have := hn2 this
      omega
    have HLies := Lib.hid hlies
    have HLen := Lib.hid hlen
    have q0 := hF.1.cell 0
    have q1 := hF.1.cell 1
    have q2 := hF.1.cell 2
    have fr1 := hF.1.frozen 1
    have fr2 := hF.1.frozen 2
    simp at q0 q1 q2
    have hF2 := hF.set 2 (.slice A4 K4 c4)
    simp at hF2
    have hqh := mk_eq_nil h
    clear hlies hlen hF hcap hn2 hb2 hs2 hKl
    by_cases hh0 : h = []
    all_goals first
      | (rw [show (h == []) = true by rw [hh0]; rfl] at hqh
         obtain ⟨hv, hhv⟩ : ∃ v, mk hd = v := ⟨_, rfl⟩
         have EH := Lib.hid (show mk (if h = [] then hd else h) = hv by rw [if_pos hh0, hhv])
         rw [hhv] at hF2 q1
         have hF3 := hF2
         clear hhv)
      | (rw [show (h == []) = false from beq_eq_false_iff_ne.2 hh0] at hqh
         obtain ⟨hv, hhv⟩ : ∃ v, mk h = v := ⟨_, rfl⟩
         have EH := Lib.hid (show mk (if h = [] then hd else h) = hv by rw [if_neg hh0, hhv])
         have hF3 := hF2.set 1 (.string (mk h))
         simp at hF3
         rw [hhv] at hqh hF3
         simp only [hhv]
         clear hhv)
    all_goals
      have HF3 := Lib.hid hF3
      clear hF3 hF2 hh0
      go_wp2
      clear q0 q1 q2 fr1 fr2 hmx hsl hqh
      go_loopw [48] (fun k wr => ∃ (j : Nat) (B1 : Option Addr) (d1 : Nat), j ≤ N ∧ k = .int .i64 j ∧ Fin W wr X #[.slice B1 (foldR R (us.take j)).length d1, .string hv, .slice A4 K4 c4] (.slice B1 (foldR R (us.take j)).length d1) (foldR R (us.take j)).length (rcells (foldR R (us.take j))) (.slice A2 Kn c2) Kn (ucells lg ++ ucells us)) (fun k _ => N - (intOf k).toNat)
      case atStart =>
        have e0 : foldR R (us.take 0) = R := rfl
        exact ⟨0, A1, c1, Nat.zero_le _, rfl, by rw [e0, HLL.out]; exact HF3.out⟩
      case round =>
        clear HF3
        obtain ⟨j, B1, d1, hj, rfl, hF⟩ := hrel
        by_cases hjn : j < N
        · have hju : j < us.length := by rw [HNN.out]; exact hjn
          obtain ⟨g, rfl, hgl, hcu⟩ := (GU.out _ hF.2.2.2.2) (by omega)
          obtain ⟨o0, o1, o2⟩ := hcu j hju
          have hfold := fold_snoc R us j hju
          have hsj := fold_sorted (us.take j) R HS.out
          have hgt := fold_get_take us R HS.out HD.out j hju
          have hlenj := fold_len (us.take j) R
          have hrt := HRt.out _ (List.getElem_mem hju)
          have hfrs := HFr.out _ (List.getElem_mem hju)
          rw [← hgt] at hfrs
          have hll2 : (foldR R (us.take j)).length ≤ 920000 := by
            rw [List.length_take, HLL.out] at hlenj
            omega
          obtain ⟨RJ, hRJ⟩ : ∃ r, foldR R (us.take j) = r := ⟨_, rfl⟩
          obtain ⟨u, hu⟩ : ∃ u, us[j] = u := ⟨_, rfl⟩
          rw [hRJ] at hF hfold hsj hfrs hll2
          rw [hu] at hfold hfrs hrt o0 o1 o2
          clear hgt hlenj hRJ hu hcu
          have hpl := pos_le RJ u.name
          have hdel := set_del u.name RJ hsj
          have hput := set_put u.name u.new
          have hins := set_ins u.name u.new
          have hone := rcells_one RJ
          have hFV := hF.alloc (.cells #[.string (mk u.name), .string (mk u.old), .string (mk u.new)] 39)
          have KF := find_any B1 d1 RJ hv A4 K4 c4 u.name _ hsj (by omega) (RefsAt.of_row hFV.2.1)
          have hVn := Blk.new wr #[.string (mk u.name), .string (mk u.old), .string (mk u.new)] 39
          have hnl : ((mk u.new).toList == []) = (u.new == []) := mk_eq_nil u.new
          have d0 := hFV.1.cell 0
          have dd1 := hFV.1.cell 1
          have d2 := hFV.1.cell 2
          simp at d0 dd1 d2
          have hVX : wr.heap.size ≠ X := by have := hF.1.lt; omega
          obtain ⟨p, hp⟩ : ∃ p, posR RJ u.name = p := ⟨_, rfl⟩
          obtain ⟨nJ, hnJ⟩ : ∃ n, RJ.length = n := ⟨_, rfl⟩
          have hp' := hp
          rw [hp] at hpl KF hdel
          rw [hnJ] at hF hFV hpl hll2 KF hdel d0
          obtain ⟨nA, hnA⟩ : ∃ a, mk u.name = a := ⟨_, rfl⟩
          obtain ⟨nB, hnB⟩ : ∃ a, mk u.old = a := ⟨_, rfl⟩
          obtain ⟨nC, hnC⟩ : ∃ a, mk u.new = a := ⟨_, rfl⟩
          rw [hnC] at hnl
          simp only [hnA, hnB, hnC] at KF hVn hFV d0 dd1 d2 o0 o1 o2
          obtain ⟨WV, hWV⟩ : ∃ WV, wr.alloc (.cells #[.string nA, .string nB, .string nC] 39) = WV := ⟨_, rfl⟩
          rw [hWV] at KF hVn hFV
          have hWV' := Lib.hid hWV
          have GV := Lib.hid (show ∀ w4, Below WV.heap.size WV w4 → Fin W w4 X #[.slice B1 nJ d1, .string hv, .slice A4 K4 c4] (.slice B1 nJ d1) nJ (rcells RJ) (.slice A2 Kn c2) Kn (ucells lg ++ ucells us) ∧ w4.cell? ⟨wr.heap.size, 0, none⟩ = some (.string nA) ∧ w4.cell? ⟨wr.heap.size, 2, none⟩ = some (.string nC) from fun w4 hb4 =>
            ⟨hFV.step hb4, (hVn.below hb4).cell 0, (hVn.below hb4).cell 2⟩)
          have HFD := Lib.hid hfold
          have hB1 : 0 < nJ → ∃ gB, B1 = some ⟨gB, 0, none⟩ := fun h0 => by
            obtain ⟨gB, cB, e, _⟩ := hFV.2.1.form h0
            injection e with e
            exact ⟨gB, e⟩
          have hsomep := pos_some RJ u.name hsj
          rw [hp, hnJ] at hsomep
          have HOne := Lib.hid hone
          clear hF hFV hVn hWV hfold hone hp hnB
          have hi0 : (0 : Int) ≤ (j : Int) := by omega
          have hi1 : (j : Int) < (N : Int) := by omega
          have hp0 : (0 : Int) ≤ (p : Int) := by omega
          by_cases hnew : u.new = []
          · have hpr := may_present hrt hfrs hnew
            obtain ⟨hdl, hdc⟩ := hdel hpr
            have hplt := hsomep hpr
            rw [hpr] at KF
            rw [show (u.new == []) = true by rw [hnew]; rfl] at hnl
            have HEnd := Lib.hid (show ∀ w' B' d', Fin W w' X #[.slice B' (nJ - 1) d', .string hv, .slice A4 K4 c4] (.slice B' (nJ - 1) d') (nJ - 1) ((rcells RJ).take (p * 2) ++ (rcells RJ).drop ((p + 1) * 2)) (.slice A2 Kn c2) Kn (ucells lg ++ ucells us) →
              Fin W w' X #[.slice B' (foldR R (us.take (j + 1))).length d', .string hv, .slice A4 K4 c4] (.slice B' (foldR R (us.take (j + 1))).length d') (foldR R (us.take (j + 1))).length (rcells (foldR R (us.take (j + 1)))) (.slice A2 Kn c2) Kn (ucells lg ++ ucells us) from fun w' B' d' hf => by rw [HFD.out, hnew, hdl, hdc]; exact hf)
            clear hdel hput hins hdl hdc hsomep hpr hrt hfrs HFD hnew hB1 hnJ hnA hnC hp'
            go_wp2_with (first
              | (go_at_call 30
                 rw [hWV'.out]
                 refine KF.mono ?_
                 rintro e w4 ⟨rfl, hb4⟩
                 obtain ⟨hf4, x0, x2⟩ := GV.out _ hb4
                 have g0 := hf4.1.cell 0
                 simp at g0
                 clear hb4)
              | (go_at_call 31
                 refine (delete_any B1 d1 nJ p W.heap.size (rcells RJ) _ hplt HOne.out hf4.2.1).mono ?_
                 rintro e w6 ⟨g6, rfl, rfl, ho6, hg6⟩
                 have hf6 := hf4.refs hg6 ho6
                 have s0 := hf6.1.cell 0
                 have sf := hf6.1.frozen 0
                 simp at s0
                 clear g0 x0 x2))
            go_roundw
            case rel => exact ⟨j + 1, _, d1, by omega, by go_num, HEnd.out _ _ _ (hf6.put0 _)⟩
            case measure => simp [intOf]; omega
          · rw [show (u.new == []) = false from beq_eq_false_iff_ne.2 hnew] at hnl
            cases hpr : (getR RJ u.name).isSome
            · obtain ⟨hil, hic⟩ := hins hnew RJ hsj hpr
              rw [hpr] at KF
              rw [hp', hnA, hnC] at hic
              rw [hnJ] at hil
              have HEnd := Lib.hid (show ∀ w' B' d', Fin W w' X #[.slice B' (nJ + 1) d', .string hv, .slice A4 K4 c4] (.slice B' (nJ + 1) d') (nJ + 1) ((rcells RJ).take (p * 2) ++ [.string nA, .string nC] ++ (rcells RJ).drop (p * 2)) (.slice A2 Kn c2) Kn (ucells lg ++ ucells us) →
                Fin W w' X #[.slice B' (foldR R (us.take (j + 1))).length d', .string hv, .slice A4 K4 c4] (.slice B' (foldR R (us.take (j + 1))).length d') (foldR R (us.take (j + 1))).length (rcells (foldR R (us.take (j + 1)))) (.slice A2 Kn c2) Kn (ucells lg ++ ucells us) from fun w' B' d' hf => by rw [HFD.out, hil, hic]; exact hf)
              clear hdel hput hins hil hic hsomep hpr hrt hfrs HFD hnew hB1 hnJ hnA hnC hp'
              go_wp2_with (first
                | (go_at_call 30
                   rw [hWV'.out]
                   refine KF.mono ?_
                   rintro e w4 ⟨rfl, hb4⟩
                   obtain ⟨hf4, x0, x2⟩ := GV.out _ hb4
                   have g0 := hf4.1.cell 0
                   simp at g0
                   clear hb4)
                | (go_at_call 32
                   refine (insert_any B1 d1 nJ p W.heap.size w4.heap.size (rcells RJ) (.string nA) (.string nC) _ hpl (hf4.alloc _).2.2.2.2.size (by omega) rfl rfl HOne.out (hf4.alloc _).2.1 (heap_alloc_new _ _) (fun e => by have := (hf4.2.1.lt _ e).2; omega)).mono ?_
                   rintro e w6 ⟨A6, c6, rfl, ho6, hg6⟩
                   have hf6 := (hf4.alloc _).refs hg6 ho6
                   have s0 := hf6.1.cell 0
                   have sf := hf6.1.frozen 0
                   simp at s0
                   clear g0 x0 x2))
              go_roundw
              case rel => exact ⟨j + 1, A6, c6, by omega, by go_num, HEnd.out _ _ _ (hf6.put0 _)⟩
              case measure => simp [intOf]; omega
            · obtain ⟨hil, hic⟩ := hput hnew RJ hsj hpr
              have hplt := hsomep hpr
              rw [hpr] at KF
              rw [hp', hnC] at hic
              rw [hnJ] at hil
              have hcl : (rcells RJ).length = nJ * 2 := by rw [rcells_length, hnJ]
              obtain ⟨oldv, holdv⟩ : ∃ v, (rcells RJ)[p * 2 + 1]? = some v := ⟨_, List.getElem?_eq_getElem (by omega)⟩
              obtain ⟨gB, rfl⟩ := hB1 (by omega)
              have HEnd := Lib.hid (show ∀ w' B' d', Fin W w' X #[.slice B' nJ d', .string hv, .slice A4 K4 c4] (.slice B' nJ d') nJ ((rcells RJ).set (p * 2 + 1) (.string nC)) (.slice A2 Kn c2) Kn (ucells lg ++ ucells us) →
                Fin W w' X #[.slice B' (foldR R (us.take (j + 1))).length d', .string hv, .slice A4 K4 c4] (.slice B' (foldR R (us.take (j + 1))).length d') (foldR R (us.take (j + 1))).length (rcells (foldR R (us.take (j + 1)))) (.slice A2 Kn c2) Kn (ucells lg ++ ucells us) from fun w' B' d' hf => by rw [HFD.out, hil, hic]; exact hf)
              have HCell := Lib.hid (show ∀ w4, Fin W w4 X #[.slice (some ⟨gB, 0, none⟩) nJ d1, .string hv, .slice A4 K4 c4] (.slice (some ⟨gB, 0, none⟩) nJ d1) nJ (rcells RJ) (.slice A2 Kn c2) Kn (ucells lg ++ ucells us) → w4.cell? ⟨gB, p * 2 + 1, none⟩ = some oldv ∧ w4.frozen? ⟨gB, p * 2 + 1, none⟩ = false from fun w4 hf4 =>
                ⟨(hf4.2.1.cellAt (p * 2 + 1) (by omega)).trans holdv, hf4.2.1.frozenAt _⟩)
              have hp1 : (p : Int) < (nJ : Int) := by omega
              clear hdel hput hins hil hic hsomep hpr hrt hfrs HFD hnew hB1 hnJ hcl holdv hnA hnC hp'
              go_wp2_with (go_at_call 30; rw [hWV'.out]; refine KF.mono ?_; rintro e w4 ⟨rfl, hb4⟩; obtain ⟨hf4, x0, x2⟩ := GV.out _ hb4; have g0 := hf4.1.cell 0; simp at g0; obtain ⟨r1, rf⟩ := HCell.out _ hf4; clear hb4)
              go_roundw
              case rel => exact ⟨j + 1, _, d1, by omega, by go_num, HEnd.out _ _ _ (hf4.refs (grown_set w4 gB _ _) (row_set hf4.2.1 _))⟩
              case measure => simp [intOf]; omega
        · obtain rfl : j = N := by omega
          have eT : us.take j = us := List.take_of_length_le (by rw [HNN.out]; exact Nat.le_refl _)
          rw [eT] at hF
          have e6 := E6.out.below hF.2.2.2.2
          obtain ⟨RF, hRF⟩ : ∃ r, foldR R us = r := ⟨_, rfl⟩
          rw [hRF] at hF
          have hrow := own_set3 hF.2.1 e6 (by decide) (.slice B1 RF.length d1) (.string hv) (.slice A4 K4 c4)
          have hlog := own_set3 hF.2.2.1 e6 (by decide) (.slice B1 RF.length d1) (.string hv) (.slice A4 K4 c4)
          have hRAt := RefsAt.of_row hrow
          have hLAt := HLies.out _ hlog
          have hnone := row_none hrow
          have htyp := Typed.of_row hrow
          have d0 := hF.1.cell 0
          have dd1 := hF.1.cell 1
          have d2 := hF.1.cell 2
          have y0 := e6.cell 0
          have y1 := e6.cell 1
          have y2 := e6.cell 2
          have f0 := e6.frozen 0
          have f1 := e6.frozen 1
          have f2 := e6.frozen 2
          simp at d0 dd1 d2 y0 y1 y2
          have hTf := ((e6.set 0 (.slice B1 RF.length d1)).set 1 (.string hv)).set 2 (.slice A4 K4 c4)
          simp at hTf
          have hBf := (((hb0.trans (hF.2.2.2.2.mono hb0.size)).setCell (p := ⟨H + 1, 0, none⟩) (by simp; omega) (.slice B1 RF.length d1)).setCell (p := ⟨H + 1, 1, none⟩) (by simp; omega) (.string hv)).setCell (p := ⟨H + 1, 2, none⟩) (by simp; omega) (.slice A4 K4 c4)
          obtain ⟨nF, hnF⟩ : ∃ n, RF.length = n := ⟨_, rfl⟩
          rw [hnF] at d0 hTf hBf hRAt hLAt hnone htyp
          have HRF := Lib.hid hRF
          have HnF := Lib.hid hnF
          clear hRF hnF hrow hlog e6 hF eT
          go_wp2
          have z0 := hTf.cell 0
          have z1 := hTf.cell 1
          have z2 := hTf.cell 2
          simp at z0 z1 z2
          refine bodyPost_ret (v := .tuple #[.agg #[.slice B1 nF d1, .string hv, .slice A4 K4 c4], .int .i64 0]) ?_ rfl ?_
          · rw [results_cell_tmp Tryd.results13]
            go_simp
          · refine ⟨_, rfl, ⟨B1, d1, A4, c4, ?_, ?_, ?_, ?_, ?_, htyp, hLAt.2.2.1⟩, ?_, ?_⟩
            · simp only [Tbl.put]; rw [HRF.out, HnF.out, EH.out, HLen.out]
            · simp only [Tbl.put]; rw [HRF.out, HnF.out]; exact hnone
            · simp only [Tbl.put]; rw [HLen.out]; exact hLAt.2.1
            · simp only [Tbl.put]; rw [HRF.out]; exact hRAt
            · simp only [Tbl.put]; exact hLAt.1
            · intro P nR pc hh PB nL pb e a ha
              simp only [Value.agg.injEq, Array.mk.injEq, List.cons.injEq, Value.slice.injEq, and_true] at e
              obtain ⟨_, _, e1, _⟩ := e
              exact Nat.le_trans (by omega) (hLAt.2.2.2 a (e1.trans ha))
            · exact hBf
end Go.Proofs.YtlkfnhcnfjdgbaaDoor
