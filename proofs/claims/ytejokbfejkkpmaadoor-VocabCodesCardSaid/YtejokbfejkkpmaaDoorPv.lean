/- vocab.Parse, walked. -/
import Derived.Test.YtejokbfejkkpmaaDoorVx
namespace Go.Proofs.YtejokbfejkkpmaaDoor
open Go.RowKit Go.Maps Go.WideMaps
/-- The memory's cells of any entries. -/
def ecs (l : List En) : List Value := l.flatMap fun e => [.int .i64 e.1, .string (mk e.2)]
theorem ecs_snoc (l : List En) (e : En) : ecs (l ++ [e]) = ecs l ++ [.int .i64 e.1, .string (mk e.2)] := by simp [ecs]
theorem ecs_length (l : List En) : (ecs l).length = l.length * 2 := by
  induction l with
  | nil => rfl
  | cons a l ih => simp only [ecs, List.flatMap_cons, List.length_append, List.length_cons, List.length_nil] at ih ⊢; omega
theorem ecs_at (l : List En) : ∀ (j : Nat) (h : j < l.length), (ecs l)[j * 2]? = some (.int .i64 l[j].1) ∧ (ecs l)[j * 2 + 1]? = some (.string (mk l[j].2)) := by
  induction l with
  | nil => intro j h; simp at h
  | cons a l ih =>
    intro j h
    cases j with
    | zero => exact ⟨rfl, rfl⟩
    | succ j =>
      have := ih j (by simpa using h)
      have e1 : (j + 1) * 2 = j * 2 + 1 + 1 := by omega
      rw [e1]
      exact this
def strLen : Value → Nat | .string b => b.size | _ => 0
theorem hasT_snoc (acc : List En) (x : En) (u : Bs) : hasT (acc ++ [x]) u = (hasT acc u || u == x.2) := by
  unfold hasT
  rw [List.any_append]
  simp only [List.any_cons, List.any_nil, Bool.or_false]
  congr 1
  exact Bool.eq_iff_iff.2 (by rw [beq_iff_eq, beq_iff_eq]; exact eq_comm)
theorem mk_empty (r : Bs) (h : r ≠ []) : (mk r).toList.isEmpty = false := by
  rw [ByteArray.toList_eq, mk_data]
  cases r with
  | nil => exact absurd rfl h
  | cons a b => rfl
theorem Known.below {w w' : World} {b n : Nat} {S : Bs → Bool} (h : Known w b n S) (hb : Below w.heap.size w w') : Known w' b n S :=
  h.kept (row := none) ⟨hb.os, hb.tape, hb.output, hb.size, fun k hk _ => hb.block k hk⟩ (by simp)
theorem Known.congr {w : World} {b n : Nat} {S S2 : Bs → Bool} (h : Known w b n S) (e : ∀ t, S2 t = S t) : Known w b n S2 := by
  obtain ⟨D, h1, h2⟩ := h
  exact ⟨D, h1, fun t => by rw [h2, e]⟩
theorem cell_block {w w' : World} {X : Nat} (h : w'.heap[X]? = w.heap[X]?) (i : Nat) : w'.cell? ⟨X, i, none⟩ = w.cell? ⟨X, i, none⟩ := by
  unfold World.cell?; rw [h]
set_option maxRecDepth 100000 in
set_option maxHeartbeats 8000000 in
theorem parse_any (s : ByteArray) (w : World) (hs : s.size < 4294967281) (E : Envw w) :
    Calls Tryd.prog 23 #[.string s] w fun e w' => ∃ v, e = .returned (.tuple #[v, .int .i64 (parseV s.data.toList).2.1, .int .i64 (parseV s.data.toList).2.2]) ∧
      w'.ownsRow w.heap.size 31 2 v (parseV s.data.toList).1.length (ecs (parseV s.data.toList).1) ∧ Below w.heap.size w w' := by
  have hmm := @run_makeMap Tryd.prog
  obtain ⟨i0, hi, hz0, hz1, hz2⟩ := info_parts info31
  have hsl : s.data.toList.length = s.size := by simp
  obtain ⟨R, hR⟩ : ∃ R, parseV s.data.toList = R := ⟨_, rfl⟩
  rw [hR]
  by_cases hlong : 262144 < s.size
  · rw [parseV, if_pos (by omega)] at hR
    subst hR
    clear hsl
    go_enter Tryd.func23, Tryd.ntmps23
    go_wp2
    go_ret3
    exact ⟨_, rfl, World.ownsRow_nil _ _ _ _, Below.refl _ _⟩
  · rw [parseV, if_neg (by omega)] at hR
    have HR := Lib.hid hR
    have HE := Lib.hid E
    obtain ⟨B, hB⟩ : ∃ B, w.heap.size = B := ⟨_, rfl⟩
    have hk0 := Known.made w
    have hb0 := below_alloc w (.map #[] 0)
    rw [hB] at hk0 hb0 ⊢
    clear hR E
    go_enter Tryd.func23, Tryd.ntmps23
    go_wp2
    try simp only [hB]
    go_loopw [0, 5, 7, 8, 9, 10, 11, 12] (fun sv out nv _ _ _ _ _ wr => ∃ (r : Bs) (acc : List En), sv = .string (mk r) ∧ r.length ≤ s.size ∧ acc.length ≤ 4096 ∧ nv = .int .i64 ((acc.length : Int) + 1) ∧ wr.ownsRow B 31 2 out acc.length (ecs acc) ∧ Known wr B acc.length (hasT acc) ∧
        Below B w wr ∧ goV r acc = R) (fun sv _ _ _ _ _ _ _ _ => strLen sv)
    case atStart => exact ⟨s.data.toList, [], rfl, by omega, by simp, rfl, World.ownsRow_nil _ _ _ _, hk0, hb0, HR.out⟩
    case round =>
      clear hk0 hb0
      obtain ⟨r, acc, rfl, hrl, hacc, rfl, hown, hkn, hBw, hst⟩ := hrel
      have hsz := hBw.size
      obtain ⟨A, cap, rfl⟩ := own_form hown
      obtain ⟨k, hk⟩ : ∃ k, acc.length = k := ⟨_, rfl⟩
      rw [hk] at hacc hown hkn ⊢
      by_cases hr : r = []
      · subst hr
        rw [goV_nil] at hst
        subst hst
        have he0 : (mk ([] : Bs)).toList.isEmpty = true := by rw [ByteArray.toList_eq, mk_data]; rfl
        obtain ⟨Z, hZ⟩ : ∃ Z, mk ([] : Bs) = Z := ⟨_, rfl⟩
        rw [hZ] at he0 ⊢
        clear HR hZ
        go_wp2
        go_ret3
        subst hk
        exact ⟨_, rfl, hown, hBw⟩
      · have hem := mk_empty r hr
        have hsr : (mk r).size = r.length := mk_size r
        have E1 := HE.out.below (hBw.mono (by omega))
        have KC := cutv_any (mk r) 10 wr (by omega) E1
        rw [mk_data, cut_nl] at KC
        have hql := q_le r
        have hbl : (bodyOf r).length ≤ r.length := by unfold qOf at hql; exact hql
        have hdl : (r.drop (qOf r + 1)).length < r.length := by
          have : 0 < r.length := List.length_pos_iff.2 hr
          rw [List.length_drop]; omega
        have G1 := fun h => goV_long r acc hr h
        have G2 := fun h1 h2 => goV_open r acc hr h1 h2
        have G3 := fun h1 h2 => goV_form r acc hr h1 h2
        have G4 := fun x h1 h2 h3 h4 h5 => goV_order r acc x h1 h2 h3 h4 h5
        have G5 := fun x h1 h2 h3 h4 h5 => goV_known r acc x h1 h2 h3 h4 h5
        have G6 := fun x h1 h2 h3 h4 h5 => goV_next r acc x h1 h2 h3 h4 h5
        rw [hst, hk] at G1 G2 G3 G4 G5
        rw [hst, hk] at G6
        have hla := lastI_at acc
        obtain ⟨bd, hbd⟩ : ∃ x, bodyOf r = x := ⟨_, rfl⟩
        obtain ⟨q, hq⟩ : ∃ x, qOf r = x := ⟨_, rfl⟩
        obtain ⟨rs, hrs⟩ : ∃ x, r.drop (qOf r + 1) = x := ⟨_, rfl⟩
        rw [hrs] at KC hdl G6
        rw [hbd] at KC hbl G3 G4 G5 G6
        rw [hq] at KC G2 G4 G5 G6
        have HG1 := Lib.hid G1
        have HG2 := Lib.hid G2
        have HG3 := Lib.hid G3
        have HG4 := Lib.hid G4
        have HG5 := Lib.hid G5
        have HG6 := Lib.hid G6
        have Hst := Lib.hid hst
        have Hrl := Lib.hid hrl
        have Hdl := Lib.hid hdl
        have Hbl := Lib.hid hbl
        have Hown := Lib.hid hown
        have Hkn := Lib.hid hkn
        have HBw := Lib.hid hBw
        have Hk := Lib.hid hk
        have Hla := Lib.hid hla
        have Hql := Lib.hid (show q ≤ r.length by rw [← hq]; exact q_le r)
        clear G1 G2 G3 G4 G5 G6 hst hrl hdl hbl hbd hq hrs hown hkn hBw hk hla hql hsz
        obtain ⟨Z, hZ⟩ : ∃ Z, mk r = Z := ⟨_, rfl⟩
        rw [hZ] at hem hsr KC ⊢
        have HZ := Lib.hid hZ
        clear hZ
        go_wp2_with (go_at_call 37; refine KC.mono ?_; rintro e w1 ⟨rfl, nd, rfl⟩)
        clear KC
        have E2 : Envw (wr.drewN nd) := E1.below (below_drewN (Below.refl _ _) nd)
        have B2 : Below B w (wr.drewN nd) := below_drewN HBw.out nd
        have O2 : (wr.drewN nd).ownsRow B 31 2 (.slice A k cap) k (ecs acc) := Hown.out
        have K2 : Known (wr.drewN nd) B k (hasT acc) := Hkn.out
        obtain ⟨w1, hw1⟩ : ∃ x, wr.drewN nd = x := ⟨_, rfl⟩
        rw [hw1] at E2 B2 O2 K2 ⊢
        have KL := line_any (mk bd) w1 (by have := Hbl.out; have := Hrl.out; rw [mk_size]; omega) E2
        rw [mk_data] at KL
        obtain ⟨LV, hLV⟩ : ∃ x, lineV bd = x := ⟨_, rfl⟩
        rw [hLV] at KL HG3 HG4 HG5 HG6
        obtain ⟨en, hen⟩ : ∃ x, decide (q < r.length) = x := ⟨_, rfl⟩
        rw [hen]
        have HEN := Lib.hid hen
        have HO2 := Lib.hid O2
        have HK2 := Lib.hid K2
        have HB2' := Lib.hid B2
        have hul : ∀ x u, LV = some (x, u) → u.length ≤ s.size ∧ x ≤ 1073741824 := fun x u h => by
          obtain ⟨h1, h2, h3⟩ := (lineV_some _ _ _).1 (hLV.trans h)
          have h4 := Hbl.out
          have h5 := Hrl.out
          rw [h3] at h4
          simp only [List.length_append, List.length_cons] at h4
          exact ⟨by omega, h1⟩
        have HUL := Lib.hid hul
        clear hw1 E1 E2 hLV hen hul O2 K2 B2 Hown Hkn HBw
        refine KL.mono ?_
        rintro e w2 ⟨n, T, rfl, hL, hb2⟩
        clear KL
        have hBs : B ≤ w1.heap.size := by have := HB2'.out.size; omega
        have hBs2 := hb2.size
        have HOw := Lib.hid ((own_below HO2.out hb2).alloc (.cells #[.int .i64 n, .string T] 31))
        have HKn := Lib.hid ((HK2.out.below hb2).alloc (.cells #[.int .i64 n, .string T] 31))
        have HB2 := Lib.hid ((HB2'.out.trans (hb2.mono hBs)).alloc (by omega) (.cells #[.int .i64 n, .string T] 31))
        have bx := Bl.new w2 #[.int .i64 n, .string T] 31
        have hX : B < w2.heap.size := (HK2.out.below hb2).lt
        have bx0 : (w2.alloc (.cells #[.int .i64 n, .string T] 31)).cell? ⟨w2.heap.size, 0, none⟩ = some (.int .i64 n) := bx.cell 0
        have bx1 : (w2.alloc (.cells #[.int .i64 n, .string T] 31)).cell? ⟨w2.heap.size, 1, none⟩ = some (.string T) := bx.cell 1
        clear HO2 HK2 HB2' hBs hBs2 hb2 bx
        clear w1
        by_cases h4 : k = 4096
        · have hR := HG1.out (by omega)
          subst h4
          clear HG1 HG2 HG3 HG4 HG5 HG6 HKn HOw
          subst hR
          go_wp2
          go_ret3
          exact ⟨_, rfl, World.ownsRow_nil _ _ _ _, HB2.out⟩
        have hk4 : k < 4096 := by omega
        cases en
        · have hR := HG2.out hk4 (by have h1 := HEN.out; have h2 := Hql.out; simp at h1; omega)
          clear HG1 HG2 HG3 HG4 HG5 HG6 HKn HOw
          subst hR
          go_wp2
          go_ret3
          exact ⟨_, rfl, World.ownsRow_nil _ _ _ _, HB2.out⟩
        have hq0 : q < r.length := by have h1 := HEN.out; simpa using h1
        cases LV with
        | none =>
          have hR := HG3.out hk4 rfl
          clear HG1 HG2 HG3 HG4 HG5 HG6 HKn HOw
          subst hR
          go_wp2
          go_ret3
          exact ⟨_, rfl, World.ownsRow_nil _ _ _ _, HB2.out⟩
        | some xu =>
          obtain ⟨x, u⟩ := xu
          obtain ⟨rfl, rfl⟩ := hL x u rfl
          obtain ⟨hul, hx⟩ := HUL.out x u rfl
          clear hL HUL HEN
          by_cases hk0 : k = 0
          · subst hk0
            go_wp2_with fail
            go_quiet (fail)
            have hlk := HKn.out.look 68 Tryd.underlying68 (mk u) (by unfold maxLen; rw [mk_size]; omega)
            rw [mk_data] at hlk
            have hu : (mk u).size = u.length := mk_size u
            have HKN : Known ((w2.alloc (.cells #[.int .i64 x, .string (mk u)] 31)).drewN nq) B (0) (hasT acc) := HKn.out
            have HOW : ((w2.alloc (.cells #[.int .i64 x, .string (mk u)] 31)).drewN nq).ownsRow B 31 2 (.slice A (0) cap) (0) (ecs acc) := HOw.out
            have HBB : Below B w ((w2.alloc (.cells #[.int .i64 x, .string (mk u)] 31)).drewN nq) := below_drewN HB2.out nq
            have c0 : ((w2.alloc (.cells #[.int .i64 x, .string (mk u)] 31)).drewN nq).cell? ⟨w2.heap.size, 0, none⟩ = some (.int .i64 x) := bx0
            have c1 : ((w2.alloc (.cells #[.int .i64 x, .string (mk u)] 31)).drewN nq).cell? ⟨w2.heap.size, 1, none⟩ = some (.string (mk u)) := bx1
            have LK : (Instr.lookup 68 (.map (some B)) (.string (mk u)) false).run Tryd.prog ((w2.alloc (.cells #[.int .i64 x, .string (mk u)] 31)).drewN nq) = .ok (.bool (hasT acc u)) ((w2.alloc (.cells #[.int .i64 x, .string (mk u)] 31)).drewN nq) := by
              have h := HKN.look 68 Tryd.underlying68 (mk u) (by unfold maxLen; omega)
              rwa [mk_data] at h
            have hX3 : w2.heap.size < ((w2.alloc (.cells #[.int .i64 x, .string (mk u)] 31)).drewN nq).heap.size := by show _ < (w2.alloc _).heap.size; simp
            obtain ⟨w3, hw3⟩ : ∃ w3, (w2.alloc (.cells #[.int .i64 x, .string (mk u)] 31)).drewN nq = w3 := ⟨_, rfl⟩
            rw [hw3] at HKN HOW HBB c0 c1 LK hX3 ⊢
            obtain ⟨X, hXe⟩ : ∃ X, w2.heap.size = X := ⟨_, rfl⟩
            rw [hXe] at c0 c1 hX hX3 ⊢
            clear hlk HKn HOw HB2 bx0 bx1 hw3
            clear hXe
            have hsz3 : B ≤ _ := hB ▸ HBB.size
            cases hh : hasT acc u
            · have hst := Lib.hid (HG6.out (x, u) hk4 hq0 rfl (fun h => absurd h (by omega)) hh)
              rw [hh] at LK
              clear HG1 HG2 HG3 HG4 HG5 HG6
              go_wp2_with (at_mapUpdate; refine wpList_known rfl _ _ 68 rfl Tryd.underlying68 B (0) _ rfl HKN (by unfold maxLen; omega) (mk u) (by unfold maxLen; omega) rfl ?_)
              intro w4 hkn4 hg4
              have hnr := HKN.not_row HOW
              have d0 := (cell_block (hg4.block X hX3 (by simp; omega)) 0).trans c0
              have d1 := (cell_block (hg4.block X hX3 (by simp; omega)) 1).trans c1
              have hb4 := HBB.grown hg4 hsz3 (fun g e => by cases e; exact Nat.le_refl _)
              have hs4 : B ≤ _ := hB ▸ hb4.size
              have HOA := Lib.hid ((HOW.kept hg4 (.inr hnr)).alloc (.cells #[.int .i64 x, .string (mk u)] 31))
              have HKA := Lib.hid (hkn4.alloc (.cells #[.int .i64 x, .string (mk u)] 31))
              have HBA := Lib.hid (hb4.alloc hs4 (.cells #[.int .i64 x, .string (mk u)] 31))
              clear hkn4 hg4 hb4 HKN HOW HBB c0 c1 LK hX3 hsz3 hs4
              clear w3
              go_wp2_with (at_builtin; refine wpList_append_lies _ rfl (.tmp 70) (.tmp 72) 28 rfl B 31 i0 _ 2 24 Tryd.underlying28 hi hz0 hz1 hz2 rfl (by decide) (.slice A (0) cap) (0) _ rfl HOA.out ⟨_, 0, none⟩ 1 1 [.int .i64 x, .string (mk u)] rfl rfl (World.news_of_block (cs := #[.int .i64 x, .string (mk u)]) (heap_alloc_new _ _)) (by simp [Value.oneCell']) (by omega) (by simp only [maxLen]; omega) (by omega) (hB ▸ HBA.out.size) _ rfl ?_; intro ga capa w5 hown5 hgr5 _ _; have hb5 : Below B w w5 := HBA.out.grown hgr5 (hB ▸ HBA.out.size) (fun k e => (HOA.out.lt k e).1); have hkn5 := HKA.out.kept hgr5 (fun e => hnr e.symm); clear hgr5)
              go_roundw
              case rel => exact ⟨rs, acc ++ [(x, u)], rfl, by have h1 := Hdl.out; have h2 := Hrl.out; omega, by rw [List.length_append, Hk.out]; show _ + 1 ≤ 4096; omega, congrArg (Value.int .i64) (by rw [List.length_append, Hk.out]; simp), by rw [List.length_append, Hk.out, ecs_snoc]; exact hown5, by rw [List.length_append, Hk.out]; exact hkn5.congr (fun t => by rw [hasT_snoc, mk_data]), hb5, hst.out.symm⟩
              case measure => simp only [strLen]; rw [mk_size, hsr]; exact Hdl.out
            · have hR := HG5.out (x, u) hk4 hq0 rfl (fun h => absurd h (by omega)) hh
              rw [hh] at LK
              clear HG1 HG2 HG3 HG4 HG5 HG6 HKN HOW
              subst hR
              go_wp2
              go_ret3
              exact ⟨_, rfl, World.ownsRow_nil _ _ _ _, HBB⟩
          · obtain ⟨j, rfl⟩ : ∃ j, k = j + 1 := ⟨k - 1, by omega⟩
            obtain ⟨g, cap', hg2⟩ := ownsRow_succ HOw.out
            injection hg2 with hg3 _ hg4
            subst hg3
            subst hg4
            have hla := Hla.out j Hk.out
            have hj' : j < acc.length := by have := Hk.out; omega
            have hcl2 := HOw.out.cellAt (j * 2) (by show j * 2 < (j + 1) * 2; omega)
            rw [(ecs_at acc j hj').1] at hcl2
            have HG4' := HG4.out (x, u) hk4 hq0 rfl (by omega)
            have HG6' := HG6.out (x, u) hk4 hq0 rfl
            rw [hla] at HG4' HG6'
            obtain ⟨pr, hpr⟩ : ∃ x, acc[j].1 = x := ⟨_, rfl⟩
            rw [hpr] at hla hcl2
            have hwr : IntKind.i64.wrap ((j : Int) + 1 - 1) = (j : Int) := by rw [Go.IntWalk.i64_left, Go.IntWalk.wrap64_in _ (by omega)]; omega
            have hgt : (0 : Int) < (j : Int) + 1 := by omega
            clear HG4' HG6'
            by_cases hle : x ≤ pr
            · have hR := HG4.out (x, u) hk4 hq0 rfl (by omega) (by rw [hla]; exact hle)
              have hle' : (x : Int) ≤ (pr : Int) := by omega
              clear hla hpr hj' hle
              clear HG1 HG2 HG3 HG4 HG5 HG6 HKn HOw
              subst hR
              go_wp2_with fail
              go_quiet (fail)
              go_wp2
              go_ret3
              exact ⟨_, rfl, World.ownsRow_nil _ _ _ _, below_drewN HB2.out _⟩
            · have hle : ¬ x ≤ lastI acc := by rw [hla]; exact hle
              have hle' : (pr : Int) < (x : Int) := by omega
              clear hla hpr hj'
              go_wp2_with fail
              go_quiet (fail)
              have hlk := HKn.out.look 68 Tryd.underlying68 (mk u) (by unfold maxLen; rw [mk_size]; omega)
              rw [mk_data] at hlk
              have hu : (mk u).size = u.length := mk_size u
              have HKN : Known ((w2.alloc (.cells #[.int .i64 x, .string (mk u)] 31)).drewN nq) B (j + 1) (hasT acc) := HKn.out
              have HOW : ((w2.alloc (.cells #[.int .i64 x, .string (mk u)] 31)).drewN nq).ownsRow B 31 2 (.slice (some ⟨g, 0, none⟩) (j + 1) cap) (j + 1) (ecs acc) := HOw.out
              have HBB : Below B w ((w2.alloc (.cells #[.int .i64 x, .string (mk u)] 31)).drewN nq) := below_drewN HB2.out nq
              have c0 : ((w2.alloc (.cells #[.int .i64 x, .string (mk u)] 31)).drewN nq).cell? ⟨w2.heap.size, 0, none⟩ = some (.int .i64 x) := bx0
              have c1 : ((w2.alloc (.cells #[.int .i64 x, .string (mk u)] 31)).drewN nq).cell? ⟨w2.heap.size, 1, none⟩ = some (.string (mk u)) := bx1
              have LK : (Instr.lookup 68 (.map (some B)) (.string (mk u)) false).run Tryd.prog ((w2.alloc (.cells #[.int .i64 x, .string (mk u)] 31)).drewN nq) = .ok (.bool (hasT acc u)) ((w2.alloc (.cells #[.int .i64 x, .string (mk u)] 31)).drewN nq) := by
                have h := HKN.look 68 Tryd.underlying68 (mk u) (by unfold maxLen; omega)
                rwa [mk_data] at h
              have hX3 : w2.heap.size < ((w2.alloc (.cells #[.int .i64 x, .string (mk u)] 31)).drewN nq).heap.size := by show _ < (w2.alloc _).heap.size; simp
              obtain ⟨w3, hw3⟩ : ∃ w3, (w2.alloc (.cells #[.int .i64 x, .string (mk u)] 31)).drewN nq = w3 := ⟨_, rfl⟩
              rw [hw3] at HKN HOW HBB c0 c1 LK hX3 ⊢
              obtain ⟨X, hXe⟩ : ∃ X, w2.heap.size = X := ⟨_, rfl⟩
              rw [hXe] at c0 c1 hX hX3 ⊢
              clear hlk HKn HOw HB2 bx0 bx1 hw3
              clear hXe
              have hsz3 : B ≤ _ := hB ▸ HBB.size
              cases hh : hasT acc u
              · have hst := Lib.hid (HG6.out (x, u) hk4 hq0 rfl (fun _ => hle) hh)
                rw [hh] at LK
                clear HG1 HG2 HG3 HG4 HG5 HG6
                go_wp2_with (at_mapUpdate; refine wpList_known rfl _ _ 68 rfl Tryd.underlying68 B (j + 1) _ rfl HKN (by unfold maxLen; omega) (mk u) (by unfold maxLen; omega) rfl ?_)
                intro w4 hkn4 hg4
                have hnr := HKN.not_row HOW
                have d0 := (cell_block (hg4.block X hX3 (by simp; omega)) 0).trans c0
                have d1 := (cell_block (hg4.block X hX3 (by simp; omega)) 1).trans c1
                have hb4 := HBB.grown hg4 hsz3 (fun g e => by cases e; exact Nat.le_refl _)
                have hs4 : B ≤ _ := hB ▸ hb4.size
                have HOA := Lib.hid ((HOW.kept hg4 (.inr hnr)).alloc (.cells #[.int .i64 x, .string (mk u)] 31))
                have HKA := Lib.hid (hkn4.alloc (.cells #[.int .i64 x, .string (mk u)] 31))
                have HBA := Lib.hid (hb4.alloc hs4 (.cells #[.int .i64 x, .string (mk u)] 31))
                clear hkn4 hg4 hb4 HKN HOW HBB c0 c1 LK hX3 hsz3 hs4
                clear w3
                go_wp2_with (at_builtin; refine wpList_append_lies _ rfl (.tmp 70) (.tmp 72) 28 rfl B 31 i0 _ 2 24 Tryd.underlying28 hi hz0 hz1 hz2 rfl (by decide) (.slice (some ⟨g, 0, none⟩) (j + 1) cap) (j + 1) _ rfl HOA.out ⟨_, 0, none⟩ 1 1 [.int .i64 x, .string (mk u)] rfl rfl (World.news_of_block (cs := #[.int .i64 x, .string (mk u)]) (heap_alloc_new _ _)) (by simp [Value.oneCell']) (by omega) (by simp only [maxLen]; omega) (by omega) (hB ▸ HBA.out.size) _ rfl ?_; intro ga capa w5 hown5 hgr5 _ _; have hb5 : Below B w w5 := HBA.out.grown hgr5 (hB ▸ HBA.out.size) (fun k e => (HOA.out.lt k e).1); have hkn5 := HKA.out.kept hgr5 (fun e => hnr e.symm); clear hgr5)
                go_roundw
                case rel => exact ⟨rs, acc ++ [(x, u)], rfl, by have h1 := Hdl.out; have h2 := Hrl.out; omega, by rw [List.length_append, Hk.out]; show _ + 1 ≤ 4096; omega, congrArg (Value.int .i64) (by rw [List.length_append, Hk.out]; simp), by rw [List.length_append, Hk.out, ecs_snoc]; exact hown5, by rw [List.length_append, Hk.out]; exact hkn5.congr (fun t => by rw [hasT_snoc, mk_data]), hb5, hst.out.symm⟩
                case measure => simp only [strLen]; rw [mk_size, hsr]; exact Hdl.out
              · have hR := HG5.out (x, u) hk4 hq0 rfl (fun _ => hle) hh
                rw [hh] at LK
                clear HG1 HG2 HG3 HG4 HG5 HG6 HKN HOW
                subst hR
                go_wp2
                go_ret3
                exact ⟨_, rfl, World.ownsRow_nil _ _ _ _, HBB⟩
end Go.Proofs.YtejokbfejkkpmaaDoor
