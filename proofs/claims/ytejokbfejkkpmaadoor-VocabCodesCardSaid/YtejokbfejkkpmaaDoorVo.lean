/- The document's own Find and Of, walked: Of gives what vocab.Of gives. -/
import Derived.Test.YtejokbfejkkpmaaDoorVq
import Derived.Test.YtejokbfejkkpmaaDoorVm
namespace Go.Proofs.YtejokbfejkkpmaaDoor
open Go.RowKit Go.Maps Go.WideMaps
/-- Tokens, numbered from n on. -/
def numE : Nat → List Bs → List En
  | _, [] => []
  | n, t :: l => (n, t) :: numE (n + 1) l
theorem ecs_numE (l : List Bs) : ∀ n, ecs (numE n l) = ents n l := by
  induction l with
  | nil => intro n; rfl
  | cons a l ih => intro n; have := ih (n + 1); simp only [ecs, numE, ents, List.flatMap_cons] at this ⊢; rw [this]; rfl
theorem numE_length (l : List Bs) : ∀ n, (numE n l).length = l.length := by
  induction l with
  | nil => intro n; rfl
  | cons a l ih => intro n; simp only [numE, List.length_cons, ih (n + 1)]
theorem hasT_numE (l : List Bs) (u : Bs) : ∀ n, hasT (numE n l) u = l.contains u := by
  induction l with
  | nil => intro n; rfl
  | cons a l ih =>
    intro n
    have h := ih (n + 1)
    unfold hasT at h ⊢
    simp only [numE, List.any_cons, List.contains_cons, h]
    congr 1
    exact Bool.eq_iff_iff.2 (by rw [beq_iff_eq, beq_iff_eq]; exact eq_comm)
theorem numE_get (l : List Bs) : ∀ (n j : Nat) (h : j < (numE n l).length), (numE n l)[j] = (n + j, l[j]'(by rw [numE_length] at h; exact h)) := by
  induction l with
  | nil => intro n j h; simp [numE] at h
  | cons a l ih =>
    intro n j h
    cases j with
    | zero => rfl
    | succ j =>
      have := ih (n + 1) j (by simpa [numE] using h)
      simp only [numE, List.getElem_cons_succ]
      rw [this]
      congr 1
      omega
/-- The number of a text's entry; -1. -/
def findE (es : List En) (s : Bs) : Int := match es.find? (fun e => e.2 == s) with
  | some e => (e.1 : Int)
  | none => -1
theorem findE_at (es : List En) (s : Bs) (j : Nat) (h : j < es.length) (e : es[j].2 = s) (hno : ∀ i (h : i < es.length), i < j → es[i].2 ≠ s) : findE es s = (es[j].1 : Int) := by
  have : es.find? (fun e => e.2 == s) = some es[j] := by
    rw [List.find?_eq_some_iff_getElem]
    refine ⟨by simpa using e, j, h, rfl, fun i hi => ?_⟩
    have := hno i (by omega) hi
    simpa using this
  unfold findE
  rw [this]
theorem findE_none (es : List En) (s : Bs) (hno : ∀ i (h : i < es.length), es[i].2 ≠ s) : findE es s = -1 := by
  have : es.find? (fun e => e.2 == s) = none := by
    rw [List.find?_eq_none]
    intro e he
    obtain ⟨j, hj, rfl⟩ := List.getElem_of_mem he
    simpa using hno j hj
  unfold findE
  rw [this]
theorem findE_neg (es : List En) (s : Bs) : (decide (findE es s < 0)) = !hasT es s := by
  unfold findE hasT
  cases h : es.find? (fun e => e.2 == s) with
  | none =>
    have : es.any (fun e => e.2 == s) = false := by
      rw [List.any_eq_false]; exact List.find?_eq_none.1 h
    rw [this]; rfl
  | some e =>
    have h1 := List.find?_some h
    have h2 := List.mem_of_find?_eq_some h
    have : es.any (fun e => e.2 == s) = true := by
      rw [List.any_eq_true]; exact ⟨e, h2, h1⟩
    rw [this]
    simp
set_option maxRecDepth 100000 in
set_option maxHeartbeats 4000000 in
theorem find_any (A : Option Addr) (cap : Nat) (es : List En) (s : ByteArray) (w : World) (hn : es.length ≤ 100000) (h1 : EArg w A es) :
    Calls Tryd.prog 17 #[.slice A es.length cap, .string s] w fun e w' => e = .returned (.int .i64 (findE es s.data.toList)) ∧ w = w' := by
  obtain ⟨n, hl⟩ : ∃ n, es.length = n := ⟨_, rfl⟩
  rw [hl] at hn ⊢
  have H1 := Lib.hid h1
  have Hl := Lib.hid hl
  obtain ⟨F, hF⟩ : ∃ F, findE es s.data.toList = F := ⟨_, rfl⟩
  rw [hF]
  have HF := Lib.hid hF
  clear h1 hl hF
  go_enter Tryd.func17, Tryd.ntmps17
  go_wp2
  go_loop [5] (fun i => ∃ k : Nat, k ≤ n ∧ i = .int .i64 k ∧ ∀ i (h : i < es.length), i < k → es[i].2 ≠ s.data.toList) (fun i => n - (intOf i).toNat)
  case atStart => exact ⟨0, Nat.zero_le _, rfl, fun i h h0 => absurd h0 (by omega)⟩
  case round =>
    obtain ⟨k, hk, rfl, hno⟩ := hrel
    by_cases hlt : k < n
    · have hke : k < es.length := by have := Hl.out; omega
      obtain ⟨g, o, rfl, hg, hc⟩ := H1.out (by omega)
      obtain ⟨a0, a1⟩ := hc k hke
      have hk0 : (0 : Int) ≤ (k : Int) := by omega
      have hk1 : (k : Int) < (n : Int) := by omega
      by_cases hu : es[k].2 = s.data.toList
      · have hv := findE_at es s.data.toList k hke hu hno
        rw [HF.out] at hv
        rw [hu, mk_list] at a1
        obtain ⟨x, hx⟩ : ∃ x, es[k].1 = x := ⟨_, rfl⟩
        rw [hx] at a0 hv
        have he : (s.toList == s.toList) = true := by simp
        have HV := Lib.hid hv
        clear hc hno hv hu hx
        go_wp2
        go_ret
        exact ⟨by rw [HV.out]; rfl, rfl⟩
      · have he : ((mk es[k].2).toList == s.toList) = false := by rw [ByteArray.toList_eq, ByteArray.toList_eq, mk_data, beq_eq_false_iff_ne]; exact hu
        have hall2 : ∀ i' (h : i' < es.length), i' < k + 1 → es[i'].2 ≠ s.data.toList := fun i' h h2 => by
          by_cases hii : i' = k
          · subst hii; exact hu
          · exact hno i' h (by omega)
        have HALL := Lib.hid hall2
        obtain ⟨M, hM⟩ : ∃ M, mk es[k].2 = M := ⟨_, rfl⟩
        rw [hM] at a1 he
        clear hc hno hall2 hu hM a0
        go_wp2
        go_round
        case rel => exact ⟨k + 1, by omega, by go_num, HALL.out⟩
        case measure => simp [intOf]; omega
    · obtain rfl : k = n := by omega
      have hv := findE_none es s.data.toList (fun i h => hno i h (by have := Hl.out; omega))
      rw [HF.out] at hv
      have HV := Lib.hid hv
      clear hno hv
      go_wp2
      go_ret
      exact ⟨by rw [HV.out]; rfl, rfl⟩
theorem base_snoc : ∀ i, i < 94 → baseT.take (i + 1) = baseT.take i ++ [[UInt8.ofNat (33 + i)]] := by decide
set_option maxRecDepth 100000 in
set_option maxHeartbeats 8000000 in
theorem rof_any (A : Option Addr) (cap : Nat) (ps : List (Bs × Bs)) (w : World) (hn : ps.length ≤ 1000) (hp : Pairs w A ps) :
    Calls Tryd.prog 13 #[.slice A ps.length cap] w fun e w' => ∃ v, e = .returned v ∧ w'.ownsRow w.heap.size 44 2 v (ofT ps).length (ents 0 (ofT ps)) ∧ Below w.heap.size w w' := by
  obtain ⟨i0, hi, hz0, hz1, hz2⟩ := info_parts info44
  obtain ⟨n, hL⟩ : ∃ n, ps.length = n := ⟨_, rfl⟩
  rw [hL] at hn ⊢
  have HBS := Lib.hid base_snoc
  have HBA := Lib.hid base_all
  obtain ⟨bt, hbt⟩ : ∃ bt, baseT = bt := ⟨_, rfl⟩
  rw [hbt] at HBS HBA
  have HP := Lib.hid hp
  have HO0 := Lib.hid (show ofT (ps.take 0) = bt from hbt)
  have hbl : bt.length = 94 := by rw [← hbt]; decide
  have Hbl := Lib.hid hbl
  obtain ⟨B, hB0⟩ : ∃ B, w.heap.size = B := ⟨_, rfl⟩
  have HB0 := Lib.hid hB0
  rw [hB0]
  have hb0 : Below B w w := Below.refl _ _
  clear hp hbt hbl hB0
  go_enter Tryd.func13, Tryd.ntmps13
  go_wp2
  go_loopw [3, 4] (fun out c wr => ∃ i : Nat, i ≤ 94 ∧ c = .int .i64 (33 + (i : Int)) ∧ wr.ownsRow B 44 2 out i (ents 0 (bt.take i)) ∧ Below B w wr) (fun _ c _ => 127 - (intOf c).toNat)
  case atStart => exact ⟨0, Nat.zero_le _, rfl, World.ownsRow_nil _ _ _ _, hb0⟩
  case round =>
    clear hb0
    obtain ⟨i, hi94, rfl, hrow, hB⟩ := hrel
    obtain ⟨A1, c1, rfl⟩ := own_form hrow
    have hsz : B ≤ wr.heap.size := HB0.out ▸ hB.size
    by_cases hlt : i < 94
    · have hnat : (UInt8.ofNat (33 + i)).toNat = 33 + i := by rw [UInt8.toNat_ofNat']; omega
      have hcv : (convert 53 9 (.slice (some ⟨wr.heap.size, 0, none⟩) 1 1)).run Tryd.prog (wr.alloc (.cells #[.int .u8 (33 + (i : Int))] 5)) = .ok (.string (mk [UInt8.ofNat (33 + i)])) (wr.alloc (.cells #[.int .u8 (33 + (i : Int))] 5)) := by
        refine run_convert_bytes_back (P := Tryd.prog) (wr.alloc (.cells #[.int .u8 (33 + (i : Int))] 5)) 53 9 5 ⟨wr.heap.size, 0, none⟩ 1 [UInt8.ofNat (33 + i)] Tryd.underlying53 Tryd.underlying5 Tryd.underlying9 (fun j hj => ?_)
        obtain rfl : j = 0 := by simpa using hj
        refine (World.news_of_block (cs := #[.int .u8 (33 + (i : Int))]) (t := 5) (fr := (0, 0)) (heap_alloc_new wr _) 0 _ rfl).trans ?_
        show some (Value.int .u8 (33 + (i : Int))) = some (Value.int .u8 (((UInt8.ofNat (33 + i)).toNat : Nat) : Int))
        rw [hnat]
        congr 2
      have hsn : ents 0 (bt.take (i + 1)) = ents 0 (bt.take i) ++ [.int .i64 (33 + (i : Int) - 33), .string (mk [UInt8.ofNat (33 + i)])] := by
        rw [HBS.out i hlt, ents_snoc, List.length_take, Hbl.out, Nat.min_eq_left (by omega), Nat.zero_add, show (33 : Int) + (i : Int) - 33 = (i : Int) by omega]
      obtain ⟨S, hS⟩ : ∃ S, mk [UInt8.ofNat (33 + i)] = S := ⟨_, rfl⟩
      rw [hS] at hcv hsn
      have HSN := Lib.hid hsn
      have HR := Lib.hid ((hrow.alloc (.cells #[.int .u8 (33 + (i : Int))] 5)).alloc (.cells #[.int .i64 (33 + (i : Int) - 33), .string S] 44))
      have HBB := Lib.hid ((hB.alloc hsz (.cells #[.int .u8 (33 + (i : Int))] 5)).alloc (by simp; omega) (.cells #[.int .i64 (33 + (i : Int) - 33), .string S] 44))
      have HSZ := Lib.hid (show B ≤ ((wr.alloc (.cells #[.int .u8 (33 + (i : Int))] 5)).alloc (.cells #[.int .i64 (33 + (i : Int) - 33), .string S] 44)).heap.size by simp; omega)
      clear hsn hS hnat hrow hB
      go_wp2_with (at_builtin; refine wpList_append_lies _ rfl (.tmp 11) (.tmp 19) 35 rfl B 44 i0 _ 2 24 Tryd.underlying35 hi hz0 hz1 hz2 rfl (by decide) (.slice A1 (i) c1) (i) _ rfl HR.out ⟨_, 0, none⟩ 1 1 [.int .i64 (33 + (i : Int) - 33), .string S] rfl rfl (World.news_of_block (cs := #[.int .i64 (33 + (i : Int) - 33), .string S]) (heap_new _ _ _ (by simp))) (by simp [Value.oneCell']) (by omega) (by simp only [maxLen]; omega) (by omega) HSZ.out _ rfl ?_; intro ga capa w5 hown5 hgr5 _ _; have hb5 : Below B w w5 := HBB.out.grown hgr5 HSZ.out (fun k e => (HR.out.lt k e).1); clear hgr5)
      go_roundw
      case rel => exact ⟨i + 1, by omega, by go_num, by rw [HSN.out]; exact hown5, hb5⟩
      case measure => simp [intOf]; omega
    · obtain rfl : i = 94 := by omega
      rw [HBA.out, ← HO0.out] at hrow
      have hl0 : (ofT (ps.take 0)).length = 94 := by rw [HO0.out]; exact Hbl.out
      have HR0 := Lib.hid hrow
      have HB1 := Lib.hid hB
      have HL0 := Lib.hid hl0
      rw [show (33 : Int) + ((94 : Nat) : Int) = 127 from rfl]
      clear HBS HBA hrow hB hl0
      go_wp2
      go_loopw [3, 5, 6] (fun out j _ wr => ∃ k : Nat, k ≤ n ∧ j = .int .i64 k ∧ (ofT (ps.take k)).length ≤ 94 + k ∧ wr.ownsRow B 44 2 out (ofT (ps.take k)).length (ents 0 (ofT (ps.take k))) ∧ Below B w wr) (fun _ j _ _ => n - (intOf j).toNat)
      case atStart => exact ⟨0, Nat.zero_le _, rfl, by rw [HL0.out]; omega, by rw [HL0.out]; exact HR0.out, HB1.out⟩
      case round =>
        clear HR0 HB1 hsz
        obtain ⟨k, hk, rfl, hlen, hrow, hB⟩ := hrel
        obtain ⟨T, hT⟩ : ∃ T, ofT (ps.take k) = T := ⟨_, rfl⟩
        rw [hT] at hlen hrow
        obtain ⟨L, hL2⟩ : ∃ L, T.length = L := ⟨_, rfl⟩
        rw [hL2] at hlen hrow
        obtain ⟨A1, c1, rfl⟩ := own_form hrow
        have hsz : B ≤ wr.heap.size := HB0.out ▸ hB.size
        by_cases hkn : k < n
        · obtain ⟨g, rfl, hgl, hcs⟩ := HP.out.1 (by omega)
          obtain ⟨g0, g1⟩ := hcs k (by omega)
          rw [HB0.out] at hgl
          have d0 := (hB.cell (p := ⟨g, k * 2, none⟩) hgl).trans g0
          have d1 := (hB.cell (p := ⟨g, k * 2 + 1, none⟩) hgl).trans g1
          have hsm := HP.out.2 _ (List.getElem_mem (show k < ps.length by omega))
          have hsn : ofT (ps.take (k + 1)) = addT (ofT (ps.take k)) (ps[k].1 ++ ps[k].2) := by
            rw [List.take_succ_eq_append_getElem (by omega), ofT_snoc]
          have hal := addT_len (ofT (ps.take k)) (ps[k].1 ++ ps[k].2)
          rw [← hsn] at hal
          obtain ⟨pr, hpr⟩ : ∃ p, ps[k] = p := ⟨_, rfl⟩
          rw [hpr] at d0 d1 hsm hsn
          have hap := mk_append pr.1 pr.2
          have z0 : (mk pr.1).size = pr.1.length := mk_size _
          have z1 : (mk pr.2).size = pr.2.length := mk_size _
          have hPl : (pr.1 ++ pr.2).length ≤ 9223372036854775807 := by rw [List.length_append]; omega
          obtain ⟨P, hP⟩ : ∃ P, pr.1 ++ pr.2 = P := ⟨_, rfl⟩
          rw [hP] at hap hsn hPl
          rw [hT] at hsn hal
          rw [hL2] at hal
          have hEA : EArg wr A1 (numE 0 T) := earg_of (B := B) (n := L) (cap := c1) (t := 44) (by rw [numE_length, hL2, ecs_numE]; exact hrow)
          have KF := fun w' (h : EArg w' A1 (numE 0 T)) => find_any A1 c1 (numE 0 T) (mk P) w' (by rw [numE_length, hL2]; omega) h
          have hF := findE_neg (numE 0 T) P
          rw [hasT_numE] at hF
          rw [mk_data, numE_length, hL2] at KF
          have KT := fun w' => rtok_any (mk P) w' (by rw [mk_size]; exact hPl)
          rw [mk_data] at KT
          obtain ⟨F, hFe⟩ : ∃ F, findE (numE 0 T) P = F := ⟨_, rfl⟩
          rw [hFe] at KF hF
          rw [← hap] at KF KT
          have hadd : ofT (ps.take (k + 1)) = if T.contains P || !tok P then T else T ++ [P] := hsn
          obtain ⟨a, ha⟩ : ∃ a, mk pr.1 = a := ⟨_, rfl⟩
          obtain ⟨b, hb⟩ : ∃ a, mk pr.2 = a := ⟨_, rfl⟩
          rw [ha] at d0 z0 hap KF KT
          rw [hb] at d1 z1 hap KF KT
          have HAP := Lib.hid hap
          have HADD := Lib.hid hadd
          have HEA := Lib.hid hEA
          have HROW := Lib.hid hrow
          have HBW := Lib.hid hB
          have HKF := Lib.hid KF
          have HTL := Lib.hid hL2
          have HALT := Lib.hid hal
          have hk0 : (0 : Int) ≤ (k : Int) := by omega
          have hk1 : (k : Int) < (n : Int) := by omega
          clear hcs g0 g1 hap hsn hadd hpr ha hb hT hL2 hEA hrow hB KF hP hPl hFe hal
          go_wp2_with fail
          go_quiet (fail)
          have HR1 : (wr.drewN nq).ownsRow B 44 2 (.slice A1 L c1) L (ents 0 T) := HROW.out
          have hB1 : Below B w (wr.drewN nq) := below_drewN HBW.out nq
          have hsz1 : B ≤ (wr.drewN nq).heap.size := hsz
          have KF := HKF.out _ (show EArg (wr.drewN nq) A1 (numE 0 T) from HEA.out)
          obtain ⟨w3, hw3⟩ : ∃ w3, wr.drewN nq = w3 := ⟨_, rfl⟩
          rw [hw3] at HR1 hB1 hsz1 KF ⊢
          have HR1 := Lib.hid HR1
          have HBB1 := Lib.hid hB1
          clear hw3 HROW HBW HEA HKF d0 d1 hB1
          obtain ⟨S, hS⟩ : ∃ S, a ++ b = S := ⟨_, rfl⟩
          rw [hS] at KF KT HAP ⊢
          clear hS
          cases ht : tok P
          · rw [ht] at KT
            have hadd := HADD.out
            rw [ht] at hadd
            simp only [Bool.not_false, Bool.or_true, if_true] at hadd
            have HA2 := Lib.hid hadd
            clear hadd HADD hF ht
            go_wp2_with (go_at_call 28; refine (KT _).mono ?_; rintro e w4 ⟨rfl, rfl⟩)
            go_roundw
            case rel => exact ⟨k + 1, by omega, by go_num, by rw [HA2.out, HTL.out]; omega, by rw [HA2.out, HTL.out]; exact HR1.out, HBB1.out⟩
            case measure => simp [intOf]; omega
          · rw [ht] at KT
            cases hc : T.contains P
            · have hF0 : F < 0 := by rw [hc] at hF; simpa using hF
              have hadd := HADD.out
              rw [ht, hc] at hadd
              simp only [Bool.not_true, Bool.or_false, Bool.false_eq_true, if_false] at hadd
              have HA2 := Lib.hid hadd
              have hsn : ents 0 (T ++ [P]) = ents 0 T ++ [.int .i64 (L : Int), .string S] := by rw [ents_snoc, HTL.out, Nat.zero_add, HAP.out]
              have HSN := Lib.hid hsn
              have HR := Lib.hid (HR1.out.alloc (.cells #[.int .i64 (L : Int), .string S] 44))
              have HBB := Lib.hid (HBB1.out.alloc hsz1 (.cells #[.int .i64 (L : Int), .string S] 44))
              have HSZ := Lib.hid (show B ≤ (w3.alloc (.cells #[.int .i64 (L : Int), .string S] 44)).heap.size by simp; omega)
              have HLE := Lib.hid (show (T ++ [P]).length = L + 1 by rw [List.length_append, HTL.out]; rfl)
              clear hadd HADD hF ht hc hsn HR1 HBB1
              go_wp2_with (first | (go_at_call 28; refine (KT _).mono ?_; rintro e w4 ⟨rfl, rfl⟩) | (go_at_call 17; refine KF.mono ?_; rintro e w4 ⟨rfl, rfl⟩) | (at_builtin; refine wpList_append_lies _ rfl (.tmp 46) (.tmp 51) 35 rfl B 44 i0 _ 2 24 Tryd.underlying35 hi hz0 hz1 hz2 rfl (by decide) (.slice A1 L c1) L _ rfl HR.out ⟨_, 0, none⟩ 1 1 [.int .i64 (L : Int), .string S] rfl rfl (World.news_of_block (cs := #[.int .i64 (L : Int), .string S]) (heap_new _ _ _ (by simp))) (by simp [Value.oneCell']) (by omega) (by simp only [maxLen]; omega) (by omega) HSZ.out _ rfl ?_; intro ga capa w5 hown5 hgr5 _ _; have hb5 : Below B w w5 := HBB.out.grown hgr5 HSZ.out (fun k e => (HR.out.lt k e).1); clear hgr5))
              go_roundw
              case rel => exact ⟨k + 1, by omega, by go_num, by rw [HA2.out, HLE.out]; omega, by rw [HA2.out, HLE.out, HSN.out]; exact hown5, hb5⟩
              case measure => simp [intOf]; omega
            · have hF0 : ¬ F < 0 := by rw [hc] at hF; simpa using hF
              have hadd := HADD.out
              rw [ht, hc] at hadd
              simp only [Bool.not_true, Bool.or_false, if_true] at hadd
              have HA2 := Lib.hid hadd
              clear hadd HADD hF ht hc
              go_wp2_with (first | (go_at_call 28; refine (KT _).mono ?_; rintro e w4 ⟨rfl, rfl⟩) | (go_at_call 17; refine KF.mono ?_; rintro e w4 ⟨rfl, rfl⟩))
              go_roundw
              case rel => exact ⟨k + 1, by omega, by go_num, by rw [HA2.out, HTL.out]; omega, by rw [HA2.out, HTL.out]; exact HR1.out, HBB1.out⟩
              case measure => simp [intOf]; omega
        · obtain rfl : k = n := by omega
          have e : ps.take k = ps := List.take_of_length_le (by omega)
          rw [e] at hT
          have HT := Lib.hid hT
          have HL2 := Lib.hid hL2
          clear hT hL2 e HO0 hlen
          go_wp2
          go_ret
          refine ⟨_, rfl, ?_, hB⟩
          rw [HT.out, HL2.out]
          exact hrow
end Go.Proofs.YtejokbfejkkpmaaDoor
/- VocabOf, walked: it says true. -/
namespace Go.Proofs.YtejokbfejkkpmaaDoor
open Go.RowKit Go.Maps Go.WideMaps
theorem base_nodup : baseT.Nodup := by decide +kernel
theorem addT_nodup (ts : List Bs) (s : Bs) (h : ts.Nodup) : (addT ts s).Nodup := by
  unfold addT
  split
  · exact h
  · rename_i hc
    simp only [Bool.or_eq_true, not_or, Bool.not_eq_true, Bool.not_eq_false'] at hc
    rw [List.nodup_append]
    refine ⟨h, by simp, ?_⟩
    intro a ha b hb
    obtain rfl := List.mem_singleton.1 hb
    rintro rfl
    have := List.contains_iff_mem.2 ha
    rw [hc.1] at this; cases this
theorem fold_nodup (ps : List (Bs × Bs)) : ∀ ts : List Bs, ts.Nodup → (ps.foldl (fun ts p => addT ts (p.1 ++ p.2)) ts).Nodup := by
  induction ps with
  | nil => intro ts h; exact h
  | cons p ps ih => intro ts h; exact ih _ (addT_nodup ts _ h)
theorem ofT_nodup (ps : List (Bs × Bs)) : (ofT ps).Nodup := fold_nodup ps _ base_nodup
theorem tok_no10 {t : Bs} (h : tok t = true) : (10 : UInt8) ∉ t := by
  unfold tok at h
  simp only [Bool.and_eq_true, List.all_eq_true] at h
  intro hm
  have := h.1 10 hm
  exact absurd this (by decide)
theorem goV_numE (ts : List Bs) : ∀ acc : List En, (∀ t ∈ ts, tok t = true) → acc.length + ts.length ≤ 4096 → (0 < acc.length → lastI acc < acc.length) → (∀ t ∈ ts, hasT acc t = false) → ts.Nodup →
    goV (showT Lib.decDigits (numE acc.length ts)) acc = (acc ++ numE acc.length ts, 0, 0) := by
  induction ts with
  | nil => intro acc _ _ _ _ _; show goV [] acc = _; rw [goV_nil]; simp [numE]
  | cons t ts ih =>
    intro acc h1 h2 h3 h4 h5
    have ht := h1 t (by simp)
    simp only [List.length_cons] at h2
    obtain ⟨hn1, hn2⟩ := List.nodup_cons.1 h5
    have hs : showT Lib.decDigits (numE acc.length (t :: ts)) = (Lib.decDigits acc.length ++ 32 :: t) ++ 10 :: showT Lib.decDigits (numE (acc.length + 1) ts) := by
      simp [numE, showT]
    have hno : (10 : UInt8) ∉ Lib.decDigits acc.length ++ 32 :: t := by
      rw [List.mem_append, List.mem_cons]
      rintro (h | h | h)
      · exact dec_no _ 10 (by decide) h
      · exact absurd h (by decide)
      · exact tok_no10 ht h
    obtain ⟨hb, hq⟩ := body_line (Lib.decDigits acc.length ++ 32 :: t) (showT Lib.decDigits (numE (acc.length + 1) ts)) hno
    have hv : lineV (bodyOf (showT Lib.decDigits (numE acc.length (t :: ts)))) = some (acc.length, t) := by
      rw [hs, hb]
      exact (lineV_some _ _ _).2 ⟨by omega, ht, rfl⟩
    have hql : qOf (showT Lib.decDigits (numE acc.length (t :: ts))) < (showT Lib.decDigits (numE acc.length (t :: ts))).length := by
      rw [hs, hq]; simp only [List.length_append, List.length_cons]; omega
    rw [goV_next _ acc (acc.length, t) (by omega) hql hv (fun h => by have := h3 h; show ¬ acc.length ≤ lastI acc; omega) (h4 t (by simp))]
    have hdrop : (showT Lib.decDigits (numE acc.length (t :: ts))).drop (qOf (showT Lib.decDigits (numE acc.length (t :: ts))) + 1) = showT Lib.decDigits (numE (acc.length + 1) ts) := by
      rw [hs, hq, List.drop_append, List.drop_eq_nil_of_le (by omega), List.nil_append]
      rw [show (Lib.decDigits acc.length ++ 32 :: t).length + 1 - (Lib.decDigits acc.length ++ 32 :: t).length = 1 by omega]
      rfl
    rw [hdrop]
    have hl : (acc ++ [(acc.length, t)]).length = acc.length + 1 := by simp
    have := ih (acc ++ [(acc.length, t)]) (fun u hu => h1 u (by simp [hu])) (by rw [hl]; omega)
      (fun _ => by rw [lastI_at (acc ++ [(acc.length, t)]) acc.length hl]; simp)
      (fun u hu => by
        rw [hasT_snoc, h4 u (by simp [hu])]
        simp only [Bool.false_or, beq_eq_false_iff_ne]
        rintro rfl
        exact hn1 hu) hn2
    rw [hl] at this
    rw [this]
    simp [numE]
theorem show_len (D : Nat → Bs) (c d : Nat) (es : List En) (h1 : ∀ e ∈ es, (D e.1).length ≤ c) (h2 : ∀ e ∈ es, e.2.length ≤ d) : (showT D es).length ≤ es.length * (c + d + 2) := by
  induction es with
  | nil => simp [showT]
  | cons e es ih =>
    have a1 := h1 e (by simp)
    have a2 := h2 e (by simp)
    have a3 := ih (fun x hx => h1 x (by simp [hx])) (fun x hx => h2 x (by simp [hx]))
    simp only [showT, List.length_append, List.length_cons, List.length_nil, Nat.add_mul, Nat.one_mul]
    omega
theorem numE_mem (l : List Bs) : ∀ n, ∀ e ∈ numE n l, e.1 < n + l.length ∧ e.2 ∈ l := by
  induction l with
  | nil => intro n e he; cases he
  | cons a l ih =>
    intro n e he
    rcases List.mem_cons.1 he with rfl | h
    · exact ⟨by simp, by simp⟩
    · have := ih (n + 1) e h
      exact ⟨by simp only [List.length_cons]; omega, by simp [this.2]⟩
theorem of_show_len (ps : List (Bs × Bs)) (h : ps.length ≤ 60) : (showT Lib.decDigits (numE 0 (ofT ps))).length ≤ 12000 := by
  have hl := (ofT_len ps).2
  have := show_len Lib.decDigits 3 64 (numE 0 (ofT ps))
    (fun e he => dec_len 2 e.1 (by have := (numE_mem _ 0 e he).1; omega))
    (fun e he => tok_small (ofT_tok ps _ (numE_mem _ 0 e he).2))
  rw [numE_length] at this
  have h2 : (ofT ps).length * (3 + 64 + 2) ≤ 154 * 69 := Nat.mul_le_mul_right _ (by omega)
  omega
theorem of_parsed (ps : List (Bs × Bs)) (h : ps.length ≤ 60) : parseV (showT Lib.decDigits (numE 0 (ofT ps))) = (numE 0 (ofT ps), 0, 0) := by
  have hl := (ofT_len ps).2
  have hs := of_show_len ps h
  unfold parseV
  rw [if_neg (by omega)]
  exact goV_numE (ofT ps) [] (ofT_tok ps) (by simp; omega) (fun h => absurd h (by simp)) (fun t _ => rfl) (ofT_nodup ps)
theorem pairs_of_row' {w : World} {B cap n : Nat} {t : TypeId} {A : Option Addr} {ps : List (Bs × Bs)} (h : w.ownsRow B t 2 (.slice A n cap) n (pcells ps)) (hn : ps.length = n) (hs : Small ps) : Pairs w A ps := by
  refine ⟨fun h0 => ?_, fun p hp => by have := hs p hp; omega⟩
  obtain ⟨g, c, hv, _, hgl⟩ := h.form (by omega)
  injection hv with hA _ hc
  subst hA
  refine ⟨g, rfl, hgl, fun j hj => ?_⟩
  obtain ⟨e1, e2⟩ := pcells_at ps j hj
  have x1 := h.cellAt (j * 2) (by omega)
  have x2 := h.cellAt (j * 2 + 1) (by omega)
  rw [e1] at x1
  rw [e2] at x2
  exact ⟨x1, x2⟩
set_option maxRecDepth 100000 in
set_option maxHeartbeats 4000000 in
theorem vof_any (A0 : Option Addr) (n0 cap0 : Nat) (ps0 : List (Bs × Bs)) (w : World) (h0 : PairArg w A0 n0 ps0) (s0 : Small ps0) (E : Envw w) :
    Calls Tryd.prog 8 #[.slice A0 n0 cap0] w fun e w' => e = .returned (.bool true) ∧ Below w.heap.size w w' := by
  have KS := speaks_any w
  have HE := Lib.hid E
  clear E
  go_enter Tryd.func8, Tryd.ntmps8
  go_wp2_with (go_at_call 9; refine KS.mono ?_)
  rintro e w1 ⟨rfl, b1⟩
  clear KS
  have z1 := b1.size
  have KA := pairs_any A0 n0 cap0 ps0 w1 (h0.below (Nat.le_refl _) b1)
  go_wp2_with (go_at_call 10; refine KA.mono ?_)
  rintro e w2 ⟨va, vb, rfl, ra, rb, b2⟩
  clear KA
  have B2 : Below w.heap.size w w2 := b1.trans (b2.mono z1)
  have S0 := s0.take 60
  have L0 : (ps0.take 60).length ≤ 60 := by rw [List.length_take]; omega
  obtain ⟨P, hP⟩ : ∃ P, ps0.take 60 = P := ⟨_, rfl⟩
  rw [hP] at ra rb S0 L0
  obtain ⟨A, ca, rfl⟩ := own_form ra
  obtain ⟨A', cb, rfl⟩ := own_form rb
  have KX := of_any A ca P w2 (by omega) (pairs_of_row ra rfl S0)
  have PB := fun w' (hb : Below w2.heap.size w2 w') => pairs_of_row' (own_below rb hb) rfl S0
  have KR := fun w' (hb : Below w2.heap.size w2 w') => rof_any A' cb P w' (by omega) (PB w' hb)
  have hpar := of_parsed P L0
  have hshl := of_show_len P L0
  have hTl := (ofT_len P).2
  have hsm : ∀ e ∈ numE 0 (ofT P), e.1 ≤ 1073741824 := fun e he => by have := (numE_mem _ 0 e he).1; omega
  obtain ⟨T, hT⟩ : ∃ T, ofT P = T := ⟨_, rfl⟩
  rw [hT] at KX KR hpar hshl hTl hsm
  obtain ⟨es, hes⟩ : ∃ es, numE 0 T = es := ⟨_, rfl⟩
  have hel : T.length = es.length := by rw [← hes, numE_length]
  have hec : ents 0 T = ecs es := by rw [← hes, ecs_numE]
  rw [hel, hec] at KX KR
  rw [hes] at hpar hshl hsm
  rw [hel] at hTl
  have HPAR := Lib.hid hpar
  have HSHL := Lib.hid hshl
  have HSM := Lib.hid hsm
  have HTL := Lib.hid hTl
  have HKR := Lib.hid KR
  have HL0 := Lib.hid L0
  obtain ⟨np, hnp⟩ : ∃ n, P.length = n := ⟨_, rfl⟩
  simp only [hnp] at KX ⊢
  have Hnp := Lib.hid hnp
  clear hpar hshl hsm hTl hel hec hes hT hP KR PB ra rb S0 L0 b1 b2 h0 s0 z1 hnp
  go_wp2_with (go_at_call 11; refine KX.mono ?_)
  rintro e w3 ⟨v, rfl, rx, b3⟩
  clear KX
  obtain ⟨AX, cx, rfl⟩ := own_form rx
  have B3 : Below w.heap.size w w3 := B2.trans (b3.mono B2.size)
  have E3 := HE.out.below B3
  have ex := earg_of rx
  have KW := show_parsed AX cx es w3 ex (by have := HTL.out; have := HL0.out; omega) (by have := HSHL.out; omega) HSM.out E3
  clear E3 rx
  go_wp2_with (go_at_call 26; refine KW.mono ?_)
  rintro e w4 ⟨rfl, b4⟩
  clear KW
  have B4 : Below w.heap.size w w4 := B3.trans (b4.mono B3.size)
  have C4 : Below w2.heap.size w2 w4 := b3.trans (b4.mono b3.size)
  have ex4 := earg_below ex b4
  have KP := parse_any (mk (showT Lib.decDigits es)) w4 (by rw [mk_size]; have := HSHL.out; omega) (HE.out.below B4)
  rw [mk_data, HPAR.out] at KP
  simp only at KP
  rw [show (((0 : Nat) : Int)) = 0 from rfl] at KP
  obtain ⟨X, hX⟩ : ∃ X, mk (showT Lib.decDigits es) = X := ⟨_, rfl⟩
  rw [hX] at KP ⊢
  clear hX ex b3 b4 B3
  go_wp2_with (go_at_call 23; refine KP.mono ?_)
  rintro e w5 ⟨v, rfl, ry, b5⟩
  clear KP
  obtain ⟨AY, cy, rfl⟩ := own_form ry
  have B5 : Below w.heap.size w w5 := B4.trans (b5.mono B4.size)
  have C5 : Below w2.heap.size w2 w5 := C4.trans (b5.mono C4.size)
  have ex5 := earg_below ex4 b5
  have ey5 := earg_of ry
  have KQ := HKR.out w5 C5
  simp only [Hnp.out] at KQ
  clear ry ex4 b5 B4 C4
  have hes : es.length ≤ 100000 := by have := HTL.out; have := HL0.out; omega
  have HES := Lib.hid hes
  clear hes
  go_wp2_with (go_at_call 13; refine KQ.mono ?_; rintro e w6 ⟨v, rfl, rz, b6⟩; obtain ⟨AZ, cz, rfl⟩ := own_form rz)
  clear KQ
  have B6 : Below w.heap.size w w6 := B5.trans (b6.mono B5.size)
  have C6 : Below w2.heap.size w2 w6 := C5.trans (b6.mono C5.size)
  have ex6 := earg_below ex5 b6
  have ey6 := earg_below ey5 b6
  have ez6 := earg_of rz
  have KM := same_true AX AZ cx cz es w6 HES.out ex6 ez6
  clear rz ex5 ey5 b6 B5 C5
  refine KM.mono ?_
  rintro e w7 ⟨rfl, m, rfl⟩
  clear KM
  have B7 : Below w.heap.size w (w6.drewN m) := below_drewN B6 m
  have C7 : Below w2.heap.size w2 (w6.drewN m) := below_drewN C6 m
  have ey7 := earg_below ey6 (below_drewN (Below.refl _ _) m)
  have KQ := HKR.out _ C7
  simp only [Hnp.out] at KQ
  obtain ⟨w7, hw7⟩ : ∃ x, w6.drewN m = x := ⟨_, rfl⟩
  rw [hw7] at B7 C7 ey7 KQ ⊢
  clear hw7 B6 C6 ex6 ey6 ez6
  go_wp2_with (go_at_call 13; refine KQ.mono ?_; rintro e w8 ⟨v, rfl, rz, b8⟩; obtain ⟨AZ2, cz2, rfl⟩ := own_form rz)
  clear KQ
  have B8 : Below w.heap.size w w8 := B7.trans (b8.mono B7.size)
  have ey8 := earg_below ey7 b8
  have ez8 := earg_of rz
  have KM := same_true AY AZ2 cy cz2 es w8 HES.out ey8 ez8
  clear rz ey7 b8 B7 C7
  refine KM.mono ?_
  rintro e w9 ⟨rfl, m2, rfl⟩
  clear KM
  go_wp2
  go_ret
  exact ⟨rfl, below_drewN B8 m2⟩
end Go.Proofs.YtejokbfejkkpmaaDoor
