/- The document's own Parse, walked: it gives what vocab.Parse gives. -/
import Derived.Test.YtejokbfejkkpmaaDoorRl
namespace Go.Proofs.YtejokbfejkkpmaaDoor
open Go.RowKit Go.Maps Go.WideMaps
theorem info44 : (Tryd.prog.info? 44).map (fun i => (i.zero, i.size, i.bytes)) = some (some (.agg #[.int .i64 0, .string ⟨#[]⟩]), 2, 24) := by kernel_rfl
theorem hasT_at (acc : List En) (u : Bs) (j : Nat) (h : j < acc.length) (e : acc[j].2 = u) : hasT acc u = true := by
  unfold hasT
  rw [List.any_eq_true]
  exact ⟨acc[j], List.getElem_mem h, by rw [e]; simp⟩
theorem hasT_none (acc : List En) (u : Bs) (h : ∀ j (h : j < acc.length), acc[j].2 ≠ u) : hasT acc u = false := by
  unfold hasT
  rw [List.any_eq_false]
  intro e he
  obtain ⟨j, hj, rfl⟩ := List.getElem_of_mem he
  simpa using h j hj
set_option maxRecDepth 100000 in
set_option maxHeartbeats 16000000 in
theorem rparse_any (s : ByteArray) (w : World) (hs : s.size ≤ maxLen) :
    Calls Tryd.prog 24 #[.string s] w fun e w' => ∃ v, e = .returned (.tuple #[v, .int .i64 (parseV s.data.toList).2.1, .int .i64 (parseV s.data.toList).2.2]) ∧
      w'.ownsRow w.heap.size 44 2 v (parseV s.data.toList).1.length (ecs (parseV s.data.toList).1) ∧ Below w.heap.size w w' := by
  unfold maxLen at hs
  obtain ⟨i0, hi, hz0, hz1, hz2⟩ := info_parts info44
  have hsl : s.data.toList.length = s.size := by simp
  obtain ⟨R, hR⟩ : ∃ R, parseV s.data.toList = R := ⟨_, rfl⟩
  rw [hR]
  by_cases hlong : 262144 < s.size
  · rw [parseV, if_pos (by omega)] at hR
    subst hR
    clear hsl
    go_enter Tryd.func24, Tryd.ntmps24
    go_wp2
    go_ret3
    exact ⟨_, rfl, World.ownsRow_nil _ _ _ _, Below.refl _ _⟩
  · rw [parseV, if_neg (by omega)] at hR
    have HR := Lib.hid hR
    obtain ⟨B, hB⟩ : ∃ B, w.heap.size = B := ⟨_, rfl⟩
    have HB := Lib.hid hB
    rw [hB]
    clear hR hB
    have hb0 : Below B w w := Below.refl _ _
    go_enter Tryd.func24, Tryd.ntmps24
    go_wp2
    go_loopw [5, 6, 7, 8, 9, 10, 11] (fun out fr nv _ _ _ _ wr => ∃ (f : Nat) (acc : List En), f ≤ s.size ∧ fr = .int .i64 f ∧ acc.length ≤ 4096 ∧ nv = .int .i64 ((acc.length : Int) + 1) ∧ wr.ownsRow B 44 2 out acc.length (ecs acc) ∧
        Below B w wr ∧ goV (s.data.toList.drop f) acc = R) (fun _ fr _ _ _ _ _ _ => s.size - (intOf fr).toNat)
    case atStart => exact ⟨0, [], Nat.zero_le _, rfl, by simp, rfl, World.ownsRow_nil _ _ _ _, hb0, HR.out⟩
    case round =>
      clear hb0
      obtain ⟨f, acc, hf, rfl, hacc, rfl, hown, hBw, hst⟩ := hrel
      obtain ⟨A, cap, rfl⟩ := own_form hown
      obtain ⟨k, hk⟩ : ∃ k, acc.length = k := ⟨_, rfl⟩
      rw [hk] at hacc hown ⊢
      obtain ⟨r, hr⟩ : ∃ r, s.data.toList.drop f = r := ⟨_, rfl⟩
      rw [hr] at hst
      have hrl : r.length = s.size - f := by rw [← hr, List.length_drop, hsl]
      by_cases hfs : f < s.size
      rotate_left
      · have hre : r = [] := List.eq_nil_of_length_eq_zero (by omega)
        rw [hre, goV_nil] at hst
        subst hst
        subst hk
        clear HR hr hre
        go_wp2
        go_ret3
        exact ⟨_, rfl, hown, hBw⟩
      · have hr0 : r ≠ [] := by intro e; rw [e] at hrl; simp at hrl; omega
        have hq := q_le r
        have F1 : ∀ j (h : f + j < s.size), j < qOf r → ((s[f + j].toNat : Int) != 10) = true := fun j h hj => by
          have hg : s[f + j] = r[j]'(by omega) := by subst hr; show s.data[f + j] = _; simp
          have := q_ne r j hj (by omega)
          rw [hg, bne_iff_ne]
          intro e
          exact this (UInt8.toNat_inj.1 (Int.ofNat_inj.1 e))
        have F2 : ∀ (h : f + qOf r < s.size), ((s[f + qOf r].toNat : Int) != 10) = false := fun h => by
          have hg : s[f + qOf r] = r[qOf r]'(by omega) := by subst hr; show s.data[f + _] = _; simp
          rw [hg, q_at r (by omega)]; rfl
        have G1 := fun h => goV_long r acc hr0 h
        have G2 := fun h1 h2 => goV_open r acc hr0 h1 h2
        have G3 := fun h1 h2 => goV_form r acc hr0 h1 h2
        have G4 := fun x h1 h2 h3 h4 h5 => goV_order r acc x h1 h2 h3 h4 h5
        have G5 := fun x h1 h2 h3 h4 h5 => goV_known r acc x h1 h2 h3 h4 h5
        have G6 := fun x h1 h2 h3 h4 h5 => goV_next r acc x h1 h2 h3 h4 h5
        rw [hst, hk] at G1 G2 G3 G4 G5
        rw [hst, hk] at G6
        have hla := lastI_at acc
        have hex : s.extract f (f + qOf r) = mk (bodyOf r) := by rw [ext_mk, hr, body_take]
        have hdr : r.drop (qOf r + 1) = s.data.toList.drop (f + qOf r + 1) := by rw [← hr, List.drop_drop]; congr 1
        have hbl : (bodyOf r).length = qOf r := rfl
        rw [hdr] at G6
        obtain ⟨bd, hbd⟩ : ∃ x, bodyOf r = x := ⟨_, rfl⟩
        obtain ⟨q, hqe⟩ : ∃ x, qOf r = x := ⟨_, rfl⟩
        rw [hbd] at hex hbl G3 G4 G5 G6
        rw [hqe] at hex hbl F1 F2 hq G2 G4 G5 G6
        have hul : ∀ x u, lineV bd = some (x, u) → u.length ≤ q ∧ x ≤ 1073741824 := fun x u h => by
          obtain ⟨h1, h2, h3⟩ := (lineV_some _ _ _).1 h
          rw [h3] at hbl
          simp only [List.length_append, List.length_cons] at hbl
          exact ⟨by omega, h1⟩
        have KL := rline_any (mk bd) wr (by rw [mk_size]; unfold maxLen; omega)
        rw [mk_data] at KL
        obtain ⟨LV, hLV⟩ : ∃ x, lineV bd = x := ⟨_, rfl⟩
        rw [hLV] at KL G3 G4 G5 G6 hul
        have HG1 := Lib.hid G1
        have HG2 := Lib.hid G2
        have HG3 := Lib.hid G3
        have HG4 := Lib.hid G4
        have HG5 := Lib.hid G5
        have HG6 := Lib.hid G6
        have HF1 := Lib.hid F1
        have HF2 := Lib.hid F2
        have Hk := Lib.hid hk
        have Hla := Lib.hid hla
        have HUL := Lib.hid hul
        have Hex := Lib.hid hex
        have Hown := Lib.hid hown
        have HBw := Lib.hid hBw
        have Hrl := Lib.hid hrl
        clear hr F1 F2 G1 G2 G3 G4 G5 G6 hst hla hex hdr hbd hqe hul hLV hown hBw hk HR hlong hr0 hbl
        have hq2 : f + q ≤ s.size := by omega
        have hfs' : (f : Int) < (s.size : Int) := by omega
        clear hrl
        go_upto_block 2 with fail
        go_cut [8] from 22 to 33 (fun s8 wx => s8 = .int .i64 ((f : Int) + (q : Int)) ∧ wx = wr)
        case first =>
          clear KL
          go_wp2_with fail
          go_loop [8] (fun tv => ∃ j : Nat, j ≤ q ∧ tv = .int .i64 ((f : Int) + (j : Int))) (fun tv => s.size - (intOf tv).toNat)
          case atStart => exact ⟨0, Nat.zero_le _, by simp⟩
          case round =>
            obtain ⟨j, hj, rfl⟩ := hrel
            by_cases hjl : f + j < s.size
            · have hjl' : (f : Int) + (j : Int) < (s.size : Int) := by omega
              have hj0 : (0 : Int) ≤ (f : Int) + (j : Int) := by omega
              have hjn : ((f : Int) + (j : Int)).toNat = f + j := by omega
              by_cases hjq : j < q
              · have h10 := HF1.out j hjl hjq
                go_wp2
                go_round
                case rel => exact ⟨j + 1, by omega, by go_num⟩
                case measure => simp [intOf]; omega
              · obtain rfl : j = q := by omega
                have h10 := HF2.out hjl
                go_wp2
                go_meet
                case rel => exact ⟨rfl, rfl⟩
            · obtain rfl : j = q := by omega
              have hjl' : ¬ ((f : Int) + (j : Int) < (s.size : Int)) := by omega
              go_wp2
              go_meet
              case rel => exact ⟨rfl, rfl⟩
        case rest =>
          obtain ⟨rfl, hwc⟩ := hcut
          rw [hwc]
          clear hwc
          by_cases h4 : k = 4096
          · have hR := HG1.out (by omega)
            subst h4
            clear HG1 HG2 HG3 HG4 HG5 HG6
            subst hR
            go_wp2
            go_ret3
            exact ⟨_, rfl, World.ownsRow_nil _ _ _ _, HBw.out⟩
          have hk4 : k < 4096 := by omega
          have hex := Hex.out
          have z1 : (0 : Int) ≤ (f : Int) := by omega
          have z2 : (f : Int) ≤ (f : Int) + (q : Int) := by omega
          have z3 : (f : Int) + (q : Int) ≤ (s.size : Int) := by omega
          have z4 : ((f : Int) + (q : Int)).toNat = f + q := by omega
          go_upto_region 14 with (go_at_call 39; refine KL.mono ?_; rintro e w2 ⟨n, T, rfl, hL, hb2⟩)
          clear KL hex z1 z2 z3 z4
          have hsz : B ≤ wr.heap.size := by have h1 := HB.out; have h2 := HBw.out.size; omega
          have hX : B ≤ w2.heap.size := Nat.le_trans hsz hb2.size
          have HOw := Lib.hid ((own_below Hown.out hb2).alloc (.cells #[.int .i64 n, .string T] 44))
          have HB2 := Lib.hid ((HBw.out.trans (hb2.mono hsz)).alloc hX (.cells #[.int .i64 n, .string T] 44))
          have bx := Bl.new w2 #[.int .i64 n, .string T] 44
          have bx0 : (w2.alloc (.cells #[.int .i64 n, .string T] 44)).cell? ⟨w2.heap.size, 0, none⟩ = some (.int .i64 n) := bx.cell 0
          have bx1 : (w2.alloc (.cells #[.int .i64 n, .string T] 44)).cell? ⟨w2.heap.size, 1, none⟩ = some (.string T) := bx.cell 1
          clear bx hsz hb2 Hown HBw
          clear wr
          by_cases hqe : f + q = s.size
          · have hR := HG2.out hk4 (by have := Hrl.out; omega)
            clear HG1 HG2 HG3 HG4 HG5 HG6 HOw bx0 bx1
            have he : ((f : Int) + (q : Int) == (s.size : Int)) = true := by simp; omega
            subst hR
            go_wp2
            go_ret3
            exact ⟨_, rfl, World.ownsRow_nil _ _ _ _, HB2.out⟩
          have he : ((f : Int) + (q : Int) == (s.size : Int)) = false := by simp; omega
          have hq0 : q < r.length := by have := Hrl.out; omega
          cases LV with
          | none =>
            have hR := HG3.out hk4 rfl
            clear HG1 HG2 HG3 HG4 HG5 HG6 HOw bx0 bx1
            subst hR
            go_wp2
            go_ret3
            exact ⟨_, rfl, World.ownsRow_nil _ _ _ _, HB2.out⟩
          | some xu =>
            obtain ⟨x, u⟩ := xu
            obtain ⟨rfl, rfl⟩ := hL x u rfl
            obtain ⟨hul, hx⟩ := HUL.out x u rfl
            clear hL HUL
            by_cases hk0 : k = 0
            · subst hk0
              go_wp2_with fail
              go_quiet (fail)
              have HOW : ((w2.alloc (.cells #[.int .i64 x, .string (mk u)] 44)).drewN nq).ownsRow B 44 2 (.slice A (0) cap) (0) (ecs acc) := HOw.out
              have HBB : Below B w ((w2.alloc (.cells #[.int .i64 x, .string (mk u)] 44)).drewN nq) := below_drewN HB2.out nq
              have c0 : ((w2.alloc (.cells #[.int .i64 x, .string (mk u)] 44)).drewN nq).cell? ⟨w2.heap.size, 0, none⟩ = some (.int .i64 x) := bx0
              have c1 : ((w2.alloc (.cells #[.int .i64 x, .string (mk u)] 44)).drewN nq).cell? ⟨w2.heap.size, 1, none⟩ = some (.string (mk u)) := bx1
              have hX3 : B ≤ ((w2.alloc (.cells #[.int .i64 x, .string (mk u)] 44)).drewN nq).heap.size := by show _ ≤ (w2.alloc _).heap.size; simp; omega
              obtain ⟨w3, hw3⟩ : ∃ w3, (w2.alloc (.cells #[.int .i64 x, .string (mk u)] 44)).drewN nq = w3 := ⟨_, rfl⟩
              rw [hw3] at HOW HBB c0 c1 hX3 ⊢
              obtain ⟨X, hXe⟩ : ∃ X, w2.heap.size = X := ⟨_, rfl⟩
              rw [hXe] at c0 c1 ⊢
              clear HOw HB2 bx0 bx1 hw3 hXe hX
              have HOWH := Lib.hid HOW
              have HBBH := Lib.hid HBB
              have C0 := Lib.hid c0
              have C1 := Lib.hid c1
              clear HOW HBB c0 c1
              clear w2
              go_upto_block 4 with fail
              go_cut [11] from 70 to 83 (fun s11 wx => hasT acc u = false ∧ ∃ m, wx = w3.drewN m)
              case first =>
                go_wp2_with fail
                go_loopw [11] (fun iv wy => ∃ (i0 m : Nat), i0 ≤ 0 ∧ iv = .int .i64 i0 ∧ (∀ i (h : i < acc.length), i < i0 → acc[i].2 ≠ u) ∧ wy = w3.drewN m) (fun iv _ => 0 - (intOf iv).toNat)
                case atStart => exact ⟨0, 0, Nat.zero_le _, rfl, fun i h h0 => absurd h0 (by omega), rfl⟩
                case round =>
                  obtain ⟨i, m, hi2, rfl, hall, hwy⟩ := hrel
                  rw [hwy]
                  clear hwy
                  by_cases hik : i < 0
                  · exact absurd hik (by omega)
                  · obtain rfl : i = 0 := by omega
                    have hno := Lib.hid (hasT_none acc u (fun j h => hall j h (by have := Hk.out; omega)))
                    clear hall
                    go_wp2
                    go_meet
                    case rel => exact ⟨hno.out, m, rfl⟩
              case rest =>
                obtain ⟨hno, m, hwc⟩ := hcut
                rw [hwc]
                clear hwc
                have hst := Lib.hid (HG6.out (x, u) hk4 hq0 rfl (fun h => absurd h (by omega)) hno)
                have HBA0 : Below B w (w3.drewN m) := below_drewN HBBH.out m
                have hs4 : B ≤ (w3.drewN m).heap.size := hX3
                have HOA0 : (w3.drewN m).ownsRow B 44 2 (.slice A (0) cap) (0) (ecs acc) := HOWH.out
                have d0 : (w3.drewN m).cell? ⟨X, 0, none⟩ = some (.int .i64 x) := C0.out
                have d1 : (w3.drewN m).cell? ⟨X, 1, none⟩ = some (.string (mk u)) := C1.out
                obtain ⟨w4, hw4⟩ : ∃ w4, w3.drewN m = w4 := ⟨_, rfl⟩
                rw [hw4] at HBA0 hs4 HOA0 d0 d1 ⊢
                have HOA := Lib.hid (HOA0.alloc (.cells #[.int .i64 x, .string (mk u)] 44))
                have HBA := Lib.hid (HBA0.alloc hs4 (.cells #[.int .i64 x, .string (mk u)] 44))
                have hs5 : B ≤ (w4.alloc (.cells #[.int .i64 x, .string (mk u)] 44)).heap.size := by simp; omega
                have HS5 := Lib.hid hs5
                clear HBA0 HOA0 hs4 hs5 hw4 hX3 HBBH HOWH C0 C1 HG1 HG2 HG3 HG4 HG5 HG6 hno
                clear w3
                go_wp2_with (at_builtin; refine wpList_append_lies _ rfl (.tmp 85) (.tmp 87) 35 rfl B 44 i0 _ 2 24 Tryd.underlying35 hi hz0 hz1 hz2 rfl (by decide) (.slice A (0) cap) (0) _ rfl HOA.out ⟨_, 0, none⟩ 1 1 [.int .i64 x, .string (mk u)] rfl rfl (World.news_of_block (cs := #[.int .i64 x, .string (mk u)]) (heap_alloc_new _ _)) (by simp [Value.oneCell']) (by omega) (by simp only [maxLen]; omega) (by omega) HS5.out _ rfl ?_; intro ga capa w5 hown5 hgr5 _ _; have hb5 : Below B w w5 := HBA.out.grown hgr5 HS5.out (fun k e => (HOA.out.lt k e).1); clear hgr5)
                go_roundw
                case rel => exact ⟨f + q + 1, acc ++ [(x, u)], by have := Hrl.out; omega, congrArg (Value.int .i64) (by omega), by rw [List.length_append, Hk.out]; show _ + 1 ≤ 4096; omega, congrArg (Value.int .i64) (by rw [List.length_append, Hk.out]; simp), by rw [List.length_append, Hk.out, ecs_snoc]; exact hown5, hb5, hst.out.symm⟩
                case measure => simp [intOf]; omega
            · obtain ⟨j, rfl⟩ : ∃ j, k = j + 1 := ⟨k - 1, by omega⟩
              obtain ⟨g, cap', hg2⟩ := ownsRow_succ HOw.out
              injection hg2 with hg3 _ hg4
              subst hg3
              subst hg4
              have hla := Hla.out j Hk.out
              have hj' : j < acc.length := by have := Hk.out; omega
              have hcl2 := HOw.out.cellAt (j * 2) (by show j * 2 < (j + 1) * 2; omega)
              rw [(ecs_at acc j hj').1] at hcl2
              obtain ⟨pr, hpr⟩ : ∃ x, acc[j].1 = x := ⟨_, rfl⟩
              rw [hpr] at hla hcl2
              have hwr : IntKind.i64.wrap ((j : Int) + 1 - 1) = (j : Int) := by rw [Go.IntWalk.i64_left, Go.IntWalk.wrap64_in _ (by omega)]; omega
              have hgt : (0 : Int) < (j : Int) + 1 := by omega
              by_cases hle : x ≤ pr
              · have hR := HG4.out (x, u) hk4 hq0 rfl (by omega) (by rw [hla]; exact hle)
                have hle' : (x : Int) ≤ (pr : Int) := by omega
                clear hla hpr hj' hle
                clear HG1 HG2 HG3 HG4 HG5 HG6
                subst hR
                go_wp2_with fail
                go_quiet (fail)
                go_wp2
                go_ret3
                exact ⟨_, rfl, World.ownsRow_nil _ _ _ _, below_drewN HB2.out _⟩
              · have hle : ¬ x ≤ lastI acc := by rw [hla]; exact hle
                have hle' : (pr : Int) < (x : Int) := by omega
                clear hla hpr hj'
                go_wp2_with fail
                go_quiet (fail)
                clear hcl2 hwr
                have HOW : ((w2.alloc (.cells #[.int .i64 x, .string (mk u)] 44)).drewN nq).ownsRow B 44 2 (.slice (some ⟨g, 0, none⟩) ((j + 1)) cap) ((j + 1)) (ecs acc) := HOw.out
                have HBB : Below B w ((w2.alloc (.cells #[.int .i64 x, .string (mk u)] 44)).drewN nq) := below_drewN HB2.out nq
                have c0 : ((w2.alloc (.cells #[.int .i64 x, .string (mk u)] 44)).drewN nq).cell? ⟨w2.heap.size, 0, none⟩ = some (.int .i64 x) := bx0
                have c1 : ((w2.alloc (.cells #[.int .i64 x, .string (mk u)] 44)).drewN nq).cell? ⟨w2.heap.size, 1, none⟩ = some (.string (mk u)) := bx1
                have hX3 : B ≤ ((w2.alloc (.cells #[.int .i64 x, .string (mk u)] 44)).drewN nq).heap.size := by show _ ≤ (w2.alloc _).heap.size; simp; omega
                obtain ⟨w3, hw3⟩ : ∃ w3, (w2.alloc (.cells #[.int .i64 x, .string (mk u)] 44)).drewN nq = w3 := ⟨_, rfl⟩
                rw [hw3] at HOW HBB c0 c1 hX3 ⊢
                obtain ⟨X, hXe⟩ : ∃ X, w2.heap.size = X := ⟨_, rfl⟩
                rw [hXe] at c0 c1 ⊢
                clear HOw HB2 bx0 bx1 hw3 hXe hX
                have HOWH := Lib.hid HOW
                have HBBH := Lib.hid HBB
                have C0 := Lib.hid c0
                have C1 := Lib.hid c1
                clear HOW HBB c0 c1
                clear w2
                go_upto_block 4 with fail
                go_cut [11] from 70 to 83 (fun s11 wx => hasT acc u = false ∧ ∃ m, wx = w3.drewN m)
                case first =>
                  go_wp2_with fail
                  go_loopw [11] (fun iv wy => ∃ (i0 m : Nat), i0 ≤ (j + 1) ∧ iv = .int .i64 i0 ∧ (∀ i (h : i < acc.length), i < i0 → acc[i].2 ≠ u) ∧ wy = w3.drewN m) (fun iv _ => (j + 1) - (intOf iv).toNat)
                  case atStart => exact ⟨0, 0, Nat.zero_le _, rfl, fun i h h0 => absurd h0 (by omega), rfl⟩
                  case round =>
                    obtain ⟨i, m, hi2, rfl, hall, hwy⟩ := hrel
                    rw [hwy]
                    clear hwy
                    by_cases hik : i < (j + 1)
                    · have hia : i < acc.length := by have := Hk.out; omega
                      have hc2 : (w3.drewN m).cell? ⟨g, i * 2 + 1, none⟩ = some (.string (mk acc[i].2)) := by
                        have h := HOWH.out.cellAt (i * 2 + 1) (by omega)
                        rw [(ecs_at acc i hia).2] at h
                        exact h
                      have d1 : (w3.drewN m).cell? ⟨X, 1, none⟩ = some (.string (mk u)) := C1.out
                      have hik' : (i : Int) < (j : Int) + 1 := by omega
                      by_cases hu : acc[i].2 = u
                      · have hR := HG5.out (x, u) hk4 hq0 rfl (fun _ => hle) (hasT_at acc u i hia hu)
                        rw [hu] at hc2
                        have he4 : ((mk u).toList == (mk u).toList) = true := by simp
                        have HBB3 : Below B w (w3.drewN m) := below_drewN HBBH.out m
                        obtain ⟨w4, hw4⟩ : ∃ w4, w3.drewN m = w4 := ⟨_, rfl⟩
                        rw [hw4] at hc2 d1 HBB3 ⊢
                        clear HG1 HG2 HG3 HG4 HG5 HG6 hall hw4
                        subst hR
                        go_wp2_with fail
                        go_quiet (fail)
                        go_wp2
                        go_ret3
                        exact ⟨_, rfl, World.ownsRow_nil _ _ _ _, below_drewN HBB3 _⟩
                      · have he4 : ((mk acc[i].2).toList == (mk u).toList) = false := by rw [ByteArray.toList_eq, ByteArray.toList_eq, mk_data, mk_data, beq_eq_false_iff_ne]; exact hu
                        have hall2 : ∀ i' (h : i' < acc.length), i' < i + 1 → acc[i'].2 ≠ u := fun i' h h2 => by
                          by_cases hii : i' = i
                          · subst hii; exact hu
                          · exact hall i' h (by omega)
                        have HALL := Lib.hid hall2
                        obtain ⟨M, hM⟩ : ∃ M, mk acc[i].2 = M := ⟨_, rfl⟩
                        rw [hM] at hc2 he4
                        obtain ⟨w4, hw4⟩ : ∃ w4, w3.drewN m = w4 := ⟨_, rfl⟩
                        rw [hw4] at hc2 d1 ⊢
                        have HW4 := Lib.hid hw4
                        clear hall hall2 hu hM hw4
                        go_wp2_with fail
                        go_quiet (fail)
                        go_wp2
                        go_roundw
                        case rel => exact ⟨i + 1, m + nq, by omega, by go_num, HALL.out, by rw [← HW4.out, World.drewN_drewN]⟩
                        case measure => simp [intOf]; omega
                    · obtain rfl : i = (j + 1) := by omega
                      have hno := Lib.hid (hasT_none acc u (fun j h => hall j h (by have := Hk.out; omega)))
                      clear hall
                      go_wp2
                      go_meet
                      case rel => exact ⟨hno.out, m, rfl⟩
                case rest =>
                  obtain ⟨hno, m, hwc⟩ := hcut
                  rw [hwc]
                  clear hwc
                  have hst := Lib.hid (HG6.out (x, u) hk4 hq0 rfl (fun _ => hle) hno)
                  have HBA0 : Below B w (w3.drewN m) := below_drewN HBBH.out m
                  have hs4 : B ≤ (w3.drewN m).heap.size := hX3
                  have HOA0 : (w3.drewN m).ownsRow B 44 2 (.slice (some ⟨g, 0, none⟩) ((j + 1)) cap) ((j + 1)) (ecs acc) := HOWH.out
                  have d0 : (w3.drewN m).cell? ⟨X, 0, none⟩ = some (.int .i64 x) := C0.out
                  have d1 : (w3.drewN m).cell? ⟨X, 1, none⟩ = some (.string (mk u)) := C1.out
                  obtain ⟨w4, hw4⟩ : ∃ w4, w3.drewN m = w4 := ⟨_, rfl⟩
                  rw [hw4] at HBA0 hs4 HOA0 d0 d1 ⊢
                  have HOA := Lib.hid (HOA0.alloc (.cells #[.int .i64 x, .string (mk u)] 44))
                  have HBA := Lib.hid (HBA0.alloc hs4 (.cells #[.int .i64 x, .string (mk u)] 44))
                  have hs5 : B ≤ (w4.alloc (.cells #[.int .i64 x, .string (mk u)] 44)).heap.size := by simp; omega
                  have HS5 := Lib.hid hs5
                  clear HBA0 HOA0 hs4 hs5 hw4 hX3 HBBH HOWH C0 C1 HG1 HG2 HG3 HG4 HG5 HG6 hno
                  clear w3
                  go_wp2_with (at_builtin; refine wpList_append_lies _ rfl (.tmp 85) (.tmp 87) 35 rfl B 44 i0 _ 2 24 Tryd.underlying35 hi hz0 hz1 hz2 rfl (by decide) (.slice (some ⟨g, 0, none⟩) ((j + 1)) cap) ((j + 1)) _ rfl HOA.out ⟨_, 0, none⟩ 1 1 [.int .i64 x, .string (mk u)] rfl rfl (World.news_of_block (cs := #[.int .i64 x, .string (mk u)]) (heap_alloc_new _ _)) (by simp [Value.oneCell']) (by omega) (by simp only [maxLen]; omega) (by omega) HS5.out _ rfl ?_; intro ga capa w5 hown5 hgr5 _ _; have hb5 : Below B w w5 := HBA.out.grown hgr5 HS5.out (fun k e => (HOA.out.lt k e).1); clear hgr5)
                  go_roundw
                  case rel => exact ⟨f + q + 1, acc ++ [(x, u)], by have := Hrl.out; omega, congrArg (Value.int .i64) (by omega), by rw [List.length_append, Hk.out]; show _ + 1 ≤ 4096; omega, congrArg (Value.int .i64) (by rw [List.length_append, Hk.out]; simp), by rw [List.length_append, Hk.out, ecs_snoc]; exact hown5, hb5, hst.out.symm⟩
                  case measure => simp [intOf]; omega
end Go.Proofs.YtejokbfejkkpmaaDoor
