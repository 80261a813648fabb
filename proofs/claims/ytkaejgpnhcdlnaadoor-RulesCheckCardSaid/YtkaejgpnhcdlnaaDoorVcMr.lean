/- The document's own Parse of lists of merges, walked: it gives what merges.Parse gives. -/
import Derived.Test.YtkaejgpnhcdlnaaDoorVcMn
import Derived.Laws.StructEq
namespace Go.Proofs.YtkaejgpnhcdlnaaDoor.Vc
open Go.RowKit Go.Maps Go.WideMaps
theorem info85 : (Tryd.prog.info? 85).map (fun i => (i.zero, i.size, i.bytes)) = some (some (.agg #[.string ⟨#[]⟩, .string ⟨#[]⟩]), 2, 32) := by kernel_rfl
theorem pair_eq (a b c d : ByteArray) (w : World) : (binOp .eql 85 (.agg #[.string a, .string b]) (.agg #[.string c, .string d])).run Tryd.prog w = .ok (.bool (a.toList == c.toList && b.toList == d.toList)) w := by
  rw [run_eql_struct, run_equalIn_struct w _ _ _ _ (by kernel_rfl) (by kernel_rfl)]
  have hf : (Tryd.prog.fieldsOf 85).toList = (match Tryd.prog.underlying 85 with | some (.struct fs) => fs.toList | _ => []) := by kernel_rfl
  rw [hf, Tryd.underlying85]
  simp only [Op.eqFields]
  go_simp
  by_cases h1 : a.toList = c.toList
  · by_cases h2 : b.toList = d.toList
    · simp [h1, h2]
    · simp [h1, h2]
  · simp [h1]
set_option maxRecDepth 100000 in
set_option maxHeartbeats 8000000 in
theorem rmparse_any (s : ByteArray) (w : World) (hs : s.size ≤ maxLen) :
    Calls Tryd.prog 28 #[.string s] w fun e w' => ∃ v, e = .returned (.tuple #[v, .int .i64 (parseM s.data.toList).2.1, .int .i64 (parseM s.data.toList).2.2]) ∧
      w'.ownsRow w.heap.size 85 2 v (parseM s.data.toList).1.length (pcs (parseM s.data.toList).1) ∧ Below w.heap.size w w' := by
  unfold maxLen at hs
  obtain ⟨i0, hi, hz0, hz1, hz2⟩ := info_parts info85
  have hsl : s.data.toList.length = s.size := by simp
  obtain ⟨R, hR⟩ : ∃ R, parseM s.data.toList = R := ⟨_, rfl⟩
  rw [hR]
  by_cases hlong : 262144 < s.size
  · rw [parseM, if_pos (by omega)] at hR
    subst hR
    clear hsl
    go_enter Tryd.func28, Tryd.ntmps28
    go_wp2
    go_ret3
    exact ⟨_, rfl, World.ownsRow_nil _ _ _ _, Below.refl _ _⟩
  · rw [parseM, if_neg (by omega)] at hR
    have HR := Lib.hid hR
    obtain ⟨B, hB⟩ : ∃ B, w.heap.size = B := ⟨_, rfl⟩
    have HB := Lib.hid hB
    rw [hB]
    clear hR hB
    have hb0 : Below B w w := Below.refl _ _
    go_enter Tryd.func28, Tryd.ntmps28
    go_wp2
    go_loopw [5, 6, 7, 8, 9, 10, 11] (fun out fr nv _ _ _ _ wr => ∃ (f : Nat) (acc : List Pr), f ≤ s.size ∧ fr = .int .i64 f ∧ acc.length ≤ 4096 ∧ nv = .int .i64 ((acc.length : Int) + 1) ∧ wr.ownsRow B 85 2 out acc.length (pcs acc) ∧
        Below B w wr ∧ goM (s.data.toList.drop f) acc = R) (fun _ fr _ _ _ _ _ _ => s.size - (intOf fr).toNat)
    case atStart => exact ⟨0, [], Nat.zero_le _, rfl, by simp, rfl, World.ownsRow_nil _ _ _ _, hb0, HR.out⟩
    case round =>
      clear hb0
      obtain ⟨f, acc, hf, rfl, hacc, rfl, hown, hBw, hst⟩ := hrel
      obtain ⟨A, cap, rfl⟩ := own_form hown
      obtain ⟨k, hk⟩ : ∃ k, acc.length = k := ⟨_, rfl⟩
      rw [hk] at hacc hown ⊢
      obtain ⟨r, hr⟩ : ∃ r, s.data.toList.drop f = r := ⟨_, rfl⟩
      rw [hr] at hst
      have hrl : r.length = s.size - f := by rw [← hr, List.length_drop, hsl]
      by_cases hfs : f < s.size
      rotate_left
      · have hre : r = [] := List.eq_nil_of_length_eq_zero (by omega)
        rw [hre, goM_nil] at hst
        subst hst
        subst hk
        clear HR hr hre
        go_wp2
        go_ret3
        exact ⟨_, rfl, hown, hBw⟩
      · have hr0 : r ≠ [] := by intro e; rw [e] at hrl; simp at hrl; omega
        have hq := q_le r
        have F1 : ∀ j (h : f + j < s.size), j < qOf r → ((s[f + j].toNat : Int) != 10) = true := fun j h hj => by
          have hg : s[f + j] = r[j]'(by omega) := by subst hr; show s.data[f + j] = _; simp
          have := q_ne r j hj (by omega)
          rw [hg, bne_iff_ne]
          intro e
          exact this (UInt8.toNat_inj.1 (Int.ofNat_inj.1 e))
        have F2 : ∀ (h : f + qOf r < s.size), ((s[f + qOf r].toNat : Int) != 10) = false := fun h => by
          have hg : s[f + qOf r] = r[qOf r]'(by omega) := by subst hr; show s.data[f + _] = _; simp
          rw [hg, q_at r (by omega)]; rfl
        have G1 := fun h => goM_long r acc hr0 h
        have G2 := fun h1 h2 => goM_open r acc hr0 h1 h2
        have G3 := fun h1 h2 => goM_form r acc hr0 h1 h2
        have G5 := fun x h1 h2 h3 h4 => goM_known r acc x h1 h2 h3 h4
        have G6 := fun x h1 h2 h3 h4 => goM_next r acc x h1 h2 h3 h4
        rw [hst, hk] at G1 G2 G3 G5
        rw [hst, hk] at G6
        have hex : s.extract f (f + qOf r) = mk (bodyOf r) := by rw [ext_mk, hr, body_take]
        have hdr : r.drop (qOf r + 1) = s.data.toList.drop (f + qOf r + 1) := by rw [← hr, List.drop_drop]; congr 1
        have hbl : (bodyOf r).length = qOf r := rfl
        rw [hdr] at G6
        obtain ⟨bd, hbd⟩ : ∃ x, bodyOf r = x := ⟨_, rfl⟩
        obtain ⟨q, hqe⟩ : ∃ x, qOf r = x := ⟨_, rfl⟩
        rw [hbd] at hex hbl G3 G5 G6
        rw [hqe] at hex hbl F1 F2 hq G2 G5 G6
        have KL := rmline_any (mk bd) wr (by rw [mk_size]; unfold maxLen; omega)
        rw [mk_data] at KL
        obtain ⟨LV, hLV⟩ : ∃ x, lineM bd = x := ⟨_, rfl⟩
        rw [hLV] at KL G3 G5 G6
        have HG1 := Lib.hid G1
        have HG2 := Lib.hid G2
        have HG3 := Lib.hid G3
        have HG5 := Lib.hid G5
        have HG6 := Lib.hid G6
        have HF1 := Lib.hid F1
        have HF2 := Lib.hid F2
        have Hk := Lib.hid hk
        have Hex := Lib.hid hex
        have Hown := Lib.hid hown
        have HBw := Lib.hid hBw
        have Hrl := Lib.hid hrl
        clear hr F1 F2 G1 G2 G3 G5 G6 hst hex hdr hbd hqe hLV hown hBw hk HR hlong hr0 hbl
        have hq2 : f + q ≤ s.size := by omega
        have hfs' : (f : Int) < (s.size : Int) := by omega
        clear hrl
        go_upto_block 2 with fail
        go_cut [8] from 22 to 33 (fun s8 wx => s8 = .int .i64 ((f : Int) + (q : Int)) ∧ wx = wr)
        case first =>
          clear KL
          go_wp2_with fail
          go_loop [8] (fun tv => ∃ j : Nat, j ≤ q ∧ tv = .int .i64 ((f : Int) + (j : Int))) (fun tv => s.size - (intOf tv).toNat)
          case atStart => exact ⟨0, Nat.zero_le _, by simp⟩
          case round =>
            obtain ⟨j, hj, rfl⟩ := hrel
            by_cases hjl : f + j < s.size
            · have hjl' : (f : Int) + (j : Int) < (s.size : Int) := by omega
              have hj0 : (0 : Int) ≤ (f : Int) + (j : Int) := by omega
              have hjn : ((f : Int) + (j : Int)).toNat = f + j := by omega
              by_cases hjq : j < q
              · have h10 := HF1.out j hjl hjq
                go_wp2
                go_round
                case rel => exact ⟨j + 1, by omega, by go_num⟩
                case measure => simp [intOf]; omega
              · obtain rfl : j = q := by omega
                have h10 := HF2.out hjl
                go_wp2
                go_meet
                case rel => exact ⟨rfl, rfl⟩
            · obtain rfl : j = q := by omega
              have hjl' : ¬ ((f : Int) + (j : Int) < (s.size : Int)) := by omega
              go_wp2
              go_meet
              case rel => exact ⟨rfl, rfl⟩
        case rest =>
          obtain ⟨rfl, hwc⟩ := hcut
          rw [hwc]
          clear hwc
          by_cases h4 : k = 4096
          · have hR := HG1.out (by omega)
            subst h4
            clear HG1 HG2 HG3 HG5 HG6
            subst hR
            go_wp2
            go_ret3
            exact ⟨_, rfl, World.ownsRow_nil _ _ _ _, HBw.out⟩
          have hk4 : k < 4096 := by omega
          have hex := Hex.out
          have z1 : (0 : Int) ≤ (f : Int) := by omega
          have z2 : (f : Int) ≤ (f : Int) + (q : Int) := by omega
          have z3 : (f : Int) + (q : Int) ≤ (s.size : Int) := by omega
          have z4 : ((f : Int) + (q : Int)).toNat = f + q := by omega
          go_upto_region 14 with (go_at_call 40; refine KL.mono ?_; rintro e w2 ⟨a, b, rfl, hL, hb2⟩)
          clear KL hex z1 z2 z3 z4
          have hsz : B ≤ wr.heap.size := by have h1 := HB.out; have h2 := HBw.out.size; omega
          have hX : B ≤ w2.heap.size := Nat.le_trans hsz hb2.size
          have HOw := Lib.hid ((own_below Hown.out hb2).alloc (.cells #[.string a, .string b] 85))
          have HB2 := Lib.hid ((HBw.out.trans (hb2.mono hsz)).alloc hX (.cells #[.string a, .string b] 85))
          have bx := Bl.new w2 #[.string a, .string b] 85
          have bx0 : (w2.alloc (.cells #[.string a, .string b] 85)).cell? ⟨w2.heap.size, 0, none⟩ = some (.string a) := bx.cell 0
          have bx1 : (w2.alloc (.cells #[.string a, .string b] 85)).cell? ⟨w2.heap.size, 1, none⟩ = some (.string b) := bx.cell 1
          clear bx hsz hb2 Hown HBw
          clear wr
          by_cases hqe : f + q = s.size
          · have hR := HG2.out hk4 (by have := Hrl.out; omega)
            clear HG1 HG2 HG3 HG5 HG6 HOw bx0 bx1
            have he : ((f : Int) + (q : Int) == (s.size : Int)) = true := by simp; omega
            subst hR
            go_wp2
            go_ret3
            exact ⟨_, rfl, World.ownsRow_nil _ _ _ _, HB2.out⟩
          have he : ((f : Int) + (q : Int) == (s.size : Int)) = false := by simp; omega
          have hq0 : q < r.length := by have := Hrl.out; omega
          cases LV with
          | none =>
            have hR := HG3.out hk4 rfl
            clear HG1 HG2 HG3 HG5 HG6 HOw bx0 bx1
            subst hR
            go_wp2
            go_ret3
            exact ⟨_, rfl, World.ownsRow_nil _ _ _ _, HB2.out⟩
          | some xu =>
            obtain ⟨pa, pb⟩ := xu
            obtain ⟨rfl, rfl⟩ := hL (pa, pb) rfl
            clear hL
            simp only [Option.isSome_some] at HOw HB2 bx0 bx1 ⊢
            have hX3 : B ≤ (w2.alloc (.cells #[.string (mk pa), .string (mk pb)] 85)).heap.size := by simp; omega
            obtain ⟨w3, hw3⟩ : ∃ w3, w2.alloc (.cells #[.string (mk pa), .string (mk pb)] 85) = w3 := ⟨_, rfl⟩
            have HW3 := Lib.hid hw3
            rw [hw3] at HOw HB2 bx0 bx1 hX3
            obtain ⟨X, hXe⟩ : ∃ X, w2.heap.size = X := ⟨_, rfl⟩
            rw [hXe] at bx0 bx1
            have HXE := Lib.hid hXe
            have HOWH := HOw
            have HBBH := HB2
            have C0 := Lib.hid bx0
            have C1 := Lib.hid bx1
            clear HOw HB2 bx0 bx1 hw3 hXe hX
            go_upto_block 4 with fail
            rw [HW3.out]
            simp only [HXE.out]
            clear HW3 HXE
            clear w2
            go_cut [11] from 54 to 65 (fun s11 wx => hasP acc (pa, pb) = false ∧ ∃ m, wx = w3.drewN m)
            case first =>
              go_wp2_with fail
              go_loopw [11] (fun iv wy => ∃ (i0 m : Nat), i0 ≤ k ∧ iv = .int .i64 i0 ∧ (∀ i (h : i < acc.length), i < i0 → acc[i] ≠ (pa, pb)) ∧ wy = w3.drewN m) (fun iv _ => k - (intOf iv).toNat)
              case atStart => exact ⟨0, 0, Nat.zero_le _, rfl, fun i h h0 => absurd h0 (by omega), rfl⟩
              case round =>
                obtain ⟨i, m, hi2, rfl, hall, hwy⟩ := hrel
                rw [hwy]
                clear hwy
                by_cases hik : i < k
                · have hia : i < acc.length := by have := Hk.out; omega
                  obtain ⟨g, cc, hv, _, _⟩ := HOWH.out.form (by omega)
                  injection hv with hA _ hcc
                  subst hA
                  subst hcc
                  have hca : (w3.drewN m).cell? ⟨g, i * 2, none⟩ = some (.string (mk acc[i].1)) := by
                    have h := HOWH.out.cellAt (i * 2) (by omega)
                    rw [(pcs_at acc i hia).1] at h
                    exact h
                  have hcb : (w3.drewN m).cell? ⟨g, i * 2 + 1, none⟩ = some (.string (mk acc[i].2)) := by
                    have h := HOWH.out.cellAt (i * 2 + 1) (by omega)
                    rw [(pcs_at acc i hia).2] at h
                    exact h
                  have d0 : (w3.drewN m).cell? ⟨X, 0, none⟩ = some (.string (mk pa)) := C0.out
                  have d1 : (w3.drewN m).cell? ⟨X, 1, none⟩ = some (.string (mk pb)) := C1.out
                  have hik' : (i : Int) < (k : Int) := by omega
                  by_cases hu : acc[i] = (pa, pb)
                  · have hR := HG5.out (pa, pb) hk4 hq0 rfl (hasP_at acc (pa, pb) i hia hu)
                    rw [hu] at hca hcb
                    simp only at hca hcb
                    have HBB3 : Below B w (w3.drewN m) := below_drewN HBBH.out m
                    obtain ⟨w4, hw4⟩ : ∃ w4, w3.drewN m = w4 := ⟨_, rfl⟩
                    rw [hw4] at hca hcb d0 d1 HBB3 ⊢
                    clear HG1 HG2 HG3 HG5 HG6 hall hw4
                    subst hR
                    go_wp2_with fail
                    go_quiet (fail)
                    go_wp2
                    go_ret3
                    exact ⟨_, rfl, World.ownsRow_nil _ _ _ _, below_drewN HBB3 _⟩
                  · have he4 : ((mk acc[i].1).toList == (mk pa).toList && (mk acc[i].2).toList == (mk pb).toList) = false := by
                      rw [ByteArray.toList_eq, ByteArray.toList_eq, ByteArray.toList_eq, ByteArray.toList_eq, mk_data, mk_data, mk_data, mk_data, Bool.eq_false_iff]
                      intro h
                      simp only [Bool.and_eq_true, beq_iff_eq] at h
                      exact hu (Prod.ext h.1 h.2)
                    have hall2 : ∀ i' (h : i' < acc.length), i' < i + 1 → acc[i'] ≠ (pa, pb) := fun i' h h2 => by
                      by_cases hii : i' = i
                      · subst hii; exact hu
                      · exact hall i' h (by omega)
                    have HALL := Lib.hid hall2
                    obtain ⟨M1, hM1⟩ : ∃ M, mk acc[i].1 = M := ⟨_, rfl⟩
                    obtain ⟨M2, hM2⟩ : ∃ M, mk acc[i].2 = M := ⟨_, rfl⟩
                    rw [hM1] at hca he4
                    rw [hM2] at hcb he4
                    have hes := pair_eq M1 M2 (mk pa) (mk pb)
                    rw [he4] at hes
                    obtain ⟨w4, hw4⟩ : ∃ w4, w3.drewN m = w4 := ⟨_, rfl⟩
                    rw [hw4] at hca hcb d0 d1 ⊢
                    have HW4 := Lib.hid hw4
                    clear hall hall2 hu hM1 hM2 hw4 he4
                    go_wp2_with fail
                    go_quiet (fail)
                    go_wp2
                    go_roundw
                    case rel => exact ⟨i + 1, m + nq, by omega, by go_num, HALL.out, by rw [← HW4.out, World.drewN_drewN]⟩
                    case measure => simp [intOf]; omega
                · obtain rfl : i = k := by omega
                  have hno := Lib.hid (hasP_none acc (pa, pb) (fun j h => hall j h (by have := Hk.out; omega)))
                  clear hall
                  go_wp2
                  go_meet
                  case rel => exact ⟨hno.out, m, rfl⟩
            case rest =>
              obtain ⟨hno, m, hwc⟩ := hcut
              rw [hwc]
              clear hwc
              have hst := Lib.hid (HG6.out (pa, pb) hk4 hq0 rfl hno)
              have HBA0 : Below B w (w3.drewN m) := below_drewN HBBH.out m
              have hs4 : B ≤ (w3.drewN m).heap.size := hX3
              have HOA0 : (w3.drewN m).ownsRow B 85 2 (.slice A k cap) k (pcs acc) := HOWH.out
              have d0 : (w3.drewN m).cell? ⟨X, 0, none⟩ = some (.string (mk pa)) := C0.out
              have d1 : (w3.drewN m).cell? ⟨X, 1, none⟩ = some (.string (mk pb)) := C1.out
              obtain ⟨w4, hw4⟩ : ∃ w4, w3.drewN m = w4 := ⟨_, rfl⟩
              rw [hw4] at HBA0 hs4 HOA0 d0 d1 ⊢
              have HOA := Lib.hid (HOA0.alloc (.cells #[.string (mk pa), .string (mk pb)] 85))
              have HBA := Lib.hid (HBA0.alloc hs4 (.cells #[.string (mk pa), .string (mk pb)] 85))
              have hs5 : B ≤ (w4.alloc (.cells #[.string (mk pa), .string (mk pb)] 85)).heap.size := by simp; omega
              have HS5 := Lib.hid hs5
              clear HBA0 HOA0 hs4 hs5 hw4 hX3 HBBH HOWH C0 C1 HG1 HG2 HG3 HG5 HG6 hno
              clear w3
              go_wp2_with (at_builtin; refine wpList_append_lies _ rfl (.tmp 67) (.tmp 69) 67 rfl B 85 i0 _ 2 32 Tryd.underlying67 hi hz0 hz1 hz2 rfl (by decide) (.slice A k cap) k _ rfl HOA.out ⟨_, 0, none⟩ 1 1 [.string (mk pa), .string (mk pb)] rfl rfl (World.news_of_block (cs := #[.string (mk pa), .string (mk pb)]) (heap_alloc_new _ _)) (by simp [Value.oneCell']) (by omega) (by simp only [maxLen]; omega) (by omega) HS5.out _ rfl ?_; intro ga capa w5 hown5 hgr5 _ _; have hb5 : Below B w w5 := HBA.out.grown hgr5 HS5.out (fun k e => (HOA.out.lt k e).1); clear hgr5)
              go_roundw
              case rel => exact ⟨f + q + 1, acc ++ [(pa, pb)], by have := Hrl.out; omega, congrArg (Value.int .i64) (by omega), by rw [List.length_append, Hk.out]; show _ + 1 ≤ 4096; omega, congrArg (Value.int .i64) (by rw [List.length_append, Hk.out]; simp), by rw [List.length_append, Hk.out, pcs_snoc]; exact hown5, hb5, hst.out.symm⟩
              case measure => simp [intOf]; omega
end Go.Proofs.YtkaejgpnhcdlnaaDoor.Vc
