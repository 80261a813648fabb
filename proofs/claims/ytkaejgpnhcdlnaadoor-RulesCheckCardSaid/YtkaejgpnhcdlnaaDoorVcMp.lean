/- merges.Parse, walked. -/
import Derived.Test.YtkaejgpnhcdlnaaDoorVcKm
namespace Go.Proofs.YtkaejgpnhcdlnaaDoor.Vc
open Go.RowKit Go.Maps Go.WideMaps
/-- The memory's cells of pairs of texts. -/
def pcs (l : List Pr) : List Value := l.flatMap fun e => [.string (mk e.1), .string (mk e.2)]
theorem pcs_snoc (l : List Pr) (e : Pr) : pcs (l ++ [e]) = pcs l ++ [.string (mk e.1), .string (mk e.2)] := by simp [pcs]
theorem pcs_length (l : List Pr) : (pcs l).length = l.length * 2 := by
  induction l with
  | nil => rfl
  | cons a l ih => simp only [pcs, List.flatMap_cons, List.length_append, List.length_cons, List.length_nil] at ih ⊢; omega
theorem pcs_at (l : List Pr) : ∀ (j : Nat) (h : j < l.length), (pcs l)[j * 2]? = some (.string (mk l[j].1)) ∧ (pcs l)[j * 2 + 1]? = some (.string (mk l[j].2)) := by
  induction l with
  | nil => intro j h; simp at h
  | cons a l ih =>
    intro j h
    cases j with
    | zero => exact ⟨rfl, rfl⟩
    | succ j =>
      have := ih j (by simpa using h)
      have e1 : (j + 1) * 2 = j * 2 + 1 + 1 := by omega
      rw [e1]
      exact this
set_option maxRecDepth 100000 in
set_option maxHeartbeats 3000000 in
theorem mparse_any (s : ByteArray) (w : World) (hs : s.size < 4294967281) (E : Envw w) :
    Calls Tryd.prog 25 #[.string s] w fun e w' => ∃ v, e = .returned (.tuple #[v, .int .i64 (parseM s.data.toList).2.1, .int .i64 (parseM s.data.toList).2.2]) ∧
      w'.ownsRow w.heap.size 79 2 v (parseM s.data.toList).1.length (pcs (parseM s.data.toList).1) ∧ Below w.heap.size w w' := by
  have hmm := @run_makeMap Tryd.prog
  obtain ⟨i0, hi, hz0, hz1, hz2⟩ := info_parts info79
  have hsl : s.data.toList.length = s.size := by simp
  obtain ⟨R, hR⟩ : ∃ R, parseM s.data.toList = R := ⟨_, rfl⟩
  rw [hR]
  by_cases hlong : 262144 < s.size
  · rw [parseM, if_pos (by omega)] at hR
    subst hR
    clear hsl
    go_enter Tryd.func25, Tryd.ntmps25
    go_wp2
    go_ret3
    exact ⟨_, rfl, World.ownsRow_nil _ _ _ _, Below.refl _ _⟩
  · rw [parseM, if_neg (by omega)] at hR
    have HR := Lib.hid hR
    have HE := Lib.hid E
    obtain ⟨B, hB⟩ : ∃ B, w.heap.size = B := ⟨_, rfl⟩
    have hk0 := KnownP.made w
    have hb0 := below_alloc w (.map #[] 0)
    rw [hB] at hk0 hb0 ⊢
    clear hR E
    go_enter Tryd.func25, Tryd.ntmps25
    go_wp2
    try simp only [hB]
    go_loopw [0, 5, 7, 8, 9, 10, 11, 12, 13, 14] (fun sv out nv _ _ _ _ _ _ _ wr => ∃ (r : Bs) (acc : List Pr), sv = .string (mk r) ∧ r.length ≤ s.size ∧ acc.length ≤ 4096 ∧ nv = .int .i64 ((acc.length : Int) + 1) ∧ wr.ownsRow B 79 2 out acc.length (pcs acc) ∧ KnownP wr B acc.length (hasP acc) ∧
        Below B w wr ∧ goM r acc = R) (fun sv _ _ _ _ _ _ _ _ _ _ => strLen sv)
    case atStart => exact ⟨s.data.toList, [], rfl, by omega, by simp, rfl, World.ownsRow_nil _ _ _ _, hk0, hb0, HR.out⟩
    case round =>
      clear hk0 hb0
      obtain ⟨r, acc, rfl, hrl, hacc, rfl, hown, hkn, hBw, hst⟩ := hrel
      have hsz := hBw.size
      obtain ⟨A, cap, rfl⟩ := own_form hown
      obtain ⟨k, hk⟩ : ∃ k, acc.length = k := ⟨_, rfl⟩
      rw [hk] at hacc hown hkn ⊢
      by_cases hr : r = []
      · subst hr
        rw [goM_nil] at hst
        subst hst
        have he0 : (mk ([] : Bs)).toList.isEmpty = true := by rw [ByteArray.toList_eq, mk_data]; rfl
        obtain ⟨Z, hZ⟩ : ∃ Z, mk ([] : Bs) = Z := ⟨_, rfl⟩
        rw [hZ] at he0 ⊢
        clear HR hZ
        go_wp2
        go_ret3
        subst hk
        exact ⟨_, rfl, hown, hBw⟩
      · have hem := mk_empty r hr
        have hsr : (mk r).size = r.length := mk_size r
        have E1 := HE.out.below (hBw.mono (by omega))
        have KC := cutv_any (mk r) 10 wr (by omega) E1
        rw [mk_data, cut_nl] at KC
        have hql := q_le r
        have hbl : (bodyOf r).length ≤ r.length := by unfold qOf at hql; exact hql
        have hdl : (r.drop (qOf r + 1)).length < r.length := by
          have : 0 < r.length := List.length_pos_iff.2 hr
          rw [List.length_drop]; omega
        have G1 := fun h => goM_long r acc hr h
        have G2 := fun h1 h2 => goM_open r acc hr h1 h2
        have G3 := fun h1 h2 => goM_form r acc hr h1 h2
        have G5 := fun x h1 h2 h3 h4 => goM_known r acc x h1 h2 h3 h4
        have G6 := fun x h1 h2 h3 h4 => goM_next r acc x h1 h2 h3 h4
        rw [hst, hk] at G1 G2 G3 G5
        rw [hst, hk] at G6
        obtain ⟨bd, hbd⟩ : ∃ x, bodyOf r = x := ⟨_, rfl⟩
        obtain ⟨q, hq⟩ : ∃ x, qOf r = x := ⟨_, rfl⟩
        obtain ⟨rs, hrs⟩ : ∃ x, r.drop (qOf r + 1) = x := ⟨_, rfl⟩
        rw [hrs] at KC hdl G6
        rw [hbd] at KC hbl G3 G5 G6
        rw [hq] at KC G2 G5 G6
        have hcl := cut_len 32 bd
        have hlm : lineM bd = if (Lib.cut bd [32]).2.2 = true ∧ tok (Lib.cut bd [32]).1 = true ∧ tok (Lib.cut bd [32]).2.1 = true then some ((Lib.cut bd [32]).1, (Lib.cut bd [32]).2.1) else none := rfl
        have KC2 := fun w' (E' : Envw w') => cutv_any (mk bd) 32 w' (by rw [mk_size]; omega) E'
        rw [mk_data] at KC2
        obtain ⟨C1, hC1⟩ : ∃ x, (Lib.cut bd [32]).1 = x := ⟨_, rfl⟩
        obtain ⟨C2, hC2⟩ : ∃ x, (Lib.cut bd [32]).2.1 = x := ⟨_, rfl⟩
        obtain ⟨ok, hok⟩ : ∃ x, (Lib.cut bd [32]).2.2 = x := ⟨_, rfl⟩
        rw [hC1, hC2, hok] at hlm KC2
        rw [hC1, hC2] at hcl
        obtain ⟨hc1, hc2⟩ := hcl
        have hm1 : C1.length ≤ 9223372036854775807 := by omega
        have hm2 : C2.length ≤ 9223372036854775807 := by omega
        have HS1 := Lib.hid (show (mk C1).size ≤ maxLen by rw [mk_size]; exact hm1)
        have HS2 := Lib.hid (show (mk C2).size ≤ maxLen by rw [mk_size]; exact hm2)
        obtain ⟨en, hen⟩ : ∃ x, decide (q < r.length) = x := ⟨_, rfl⟩
        rw [hen] at KC
        have HLM := Lib.hid hlm
        have HG1 := Lib.hid G1
        have HG2 := Lib.hid G2
        have HG3 := Lib.hid G3
        have HG5 := Lib.hid G5
        have HG6 := Lib.hid G6
        have Hrl := Lib.hid hrl
        have Hdl := Lib.hid hdl
        have Hown := Lib.hid hown
        have Hkn := Lib.hid hkn
        have HBw := Lib.hid hBw
        have Hk := Lib.hid hk
        have HE1 := Lib.hid E1
        have HK2 := Lib.hid KC2
        have HEN := Lib.hid hen
        have Hql := Lib.hid (show q ≤ r.length by rw [← hq]; exact q_le r)
        have Hm1 := Lib.hid hm1
        have Hm2 := Lib.hid hm2
        clear hlm G1 G2 G3 G5 G6 hst hrl hdl hbl hbd hq hrs hown hkn hBw hk hql hsz hC1 hC2 hok hc1 hc2 KC2 E1 hen hm1 hm2
        obtain ⟨Z, hZ⟩ : ∃ Z, mk r = Z := ⟨_, rfl⟩
        rw [hZ] at hem hsr KC ⊢
        clear hZ
        go_upto_region 9 with (go_at_call 21; refine KC.mono ?_; rintro e w1 ⟨rfl, nd, rfl⟩)
        have KD := HK2.out (wr.drewN nd) (HE1.out.below (below_drewN (Below.refl _ _) nd))
        have O1 : (wr.drewN nd).ownsRow B 79 2 (.slice A k cap) k (pcs acc) := Hown.out
        have K1 : KnownP (wr.drewN nd) B k (hasP acc) := Hkn.out
        have B1 : Below B w (wr.drewN nd) := below_drewN HBw.out nd
        clear KC HK2 HE1 Hown Hkn HBw
        obtain ⟨w1, hw1⟩ : ∃ x, wr.drewN nd = x := ⟨_, rfl⟩
        rw [hw1] at KD O1 K1 B1 ⊢
        have HO1 := Lib.hid O1
        have HK1 := Lib.hid K1
        have HB1 := Lib.hid B1
        clear hw1 O1 K1 B1
        clear wr
        go_upto_region 10 with (go_at_call 21; refine KD.mono ?_; rintro e w2 ⟨rfl, nd2, rfl⟩)
        have O2 : (w1.drewN nd2).ownsRow B 79 2 (.slice A k cap) k (pcs acc) := HO1.out
        have K2 : KnownP (w1.drewN nd2) B k (hasP acc) := HK1.out
        have B2 : Below B w (w1.drewN nd2) := below_drewN HB1.out nd2
        clear KD HO1 HK1 HB1
        obtain ⟨w2, hw2⟩ : ∃ x, w1.drewN nd2 = x := ⟨_, rfl⟩
        rw [hw2] at O2 K2 B2 ⊢
        clear hw2
        clear w1
        have hX : B < w2.heap.size := K2.lt
        have HOw := Lib.hid (O2.alloc (.cells #[.string (mk C1), .string (mk C2)] 79))
        have HKn := Lib.hid (K2.alloc (.cells #[.string (mk C1), .string (mk C2)] 79))
        have HB2 := Lib.hid (B2.alloc (Nat.le_of_lt hX) (.cells #[.string (mk C1), .string (mk C2)] 79))
        clear O2 K2 B2
        go_upto_region 11 with fail
        have bx := Bl.new w2 #[.string (mk C1), .string (mk C2)] 79
        have c0 : (w2.alloc (.cells #[.string (mk C1), .string (mk C2)] 79)).cell? ⟨w2.heap.size, 0, none⟩ = some (.string (mk C1)) := bx.cell 0
        have c1 : (w2.alloc (.cells #[.string (mk C1), .string (mk C2)] 79)).cell? ⟨w2.heap.size, 1, none⟩ = some (.string (mk C2)) := bx.cell 1
        have hX3 : w2.heap.size < (w2.alloc (.cells #[.string (mk C1), .string (mk C2)] 79)).heap.size := by simp
        have LK := HKn.out.look 77 Tryd.underlying77 (C1, C2) Hm1.out Hm2.out
        simp only at LK
        obtain ⟨w3, hw3⟩ : ∃ w3, w2.alloc (.cells #[.string (mk C1), .string (mk C2)] 79) = w3 := ⟨_, rfl⟩
        rw [hw3] at HOw HKn HB2 c0 c1 hX3 LK ⊢
        obtain ⟨X, hXe⟩ : ∃ X, w2.heap.size = X := ⟨_, rfl⟩
        rw [hXe] at c0 c1 hX hX3 ⊢
        clear hw3 hXe bx
        clear w2
        by_cases h4 : k = 4096
        · have hR := HG1.out (by omega)
          subst h4
          clear HG1 HG2 HG3 HG5 HG6 HKn HOw LK
          subst hR
          go_wp2
          go_ret3
          exact ⟨_, rfl, World.ownsRow_nil _ _ _ _, HB2.out⟩
        have hk4 : k < 4096 := by omega
        cases en
        · have hR := HG2.out hk4 (by have h1 := HEN.out; have h2 := Hql.out; simp at h1; omega)
          clear HG1 HG2 HG3 HG5 HG6 HKn HOw LK
          subst hR
          go_wp2
          go_ret3
          exact ⟨_, rfl, World.ownsRow_nil _ _ _ _, HB2.out⟩
        have hq0 : q < r.length := by have h1 := HEN.out; simpa using h1
        cases ok
        · have hR := HG3.out hk4 (by rw [HLM.out]; rfl)
          clear HG1 HG2 HG3 HG5 HG6 HKn HOw LK
          subst hR
          go_wp2
          go_ret3
          exact ⟨_, rfl, World.ownsRow_nil _ _ _ _, HB2.out⟩
        cases ht1 : tok C1
        · have hR := HG3.out hk4 (by rw [HLM.out, if_neg (by rw [ht1]; simp)])
          have ht1' : tok (mk C1).data.toList = false := by rw [mk_data]; exact ht1
          clear HG1 HG2 HG3 HG5 HG6 HKn HOw LK
          subst hR
          go_wp2_with (go_at_call 37; refine (tok_any _ _ (by first | exact HS1.out | exact HS2.out)).mono ?_; rintro e w4 ⟨rfl, rfl⟩)
          go_ret3
          exact ⟨_, rfl, World.ownsRow_nil _ _ _ _, HB2.out⟩
        cases ht2 : tok C2
        · have hR := HG3.out hk4 (by rw [HLM.out, if_neg (by rw [ht2]; simp)])
          have ht1' : tok (mk C1).data.toList = true := by rw [mk_data]; exact ht1
          have ht2' : tok (mk C2).data.toList = false := by rw [mk_data]; exact ht2
          clear HG1 HG2 HG3 HG5 HG6 HKn HOw LK
          subst hR
          go_wp2_with (go_at_call 37; refine (tok_any _ _ (by first | exact HS1.out | exact HS2.out)).mono ?_; rintro e w4 ⟨rfl, rfl⟩)
          go_ret3
          exact ⟨_, rfl, World.ownsRow_nil _ _ _ _, HB2.out⟩
        have hlm : lineM bd = some (C1, C2) := by rw [HLM.out, if_pos ⟨rfl, ht1, ht2⟩]
        have ht1' : tok (mk C1).data.toList = true := by rw [mk_data]; exact ht1
        have ht2' : tok (mk C2).data.toList = true := by rw [mk_data]; exact ht2
        clear ht1 ht2 HEN HLM
        have hnr := HKn.out.not_row HOw.out
        cases hh : hasP acc (C1, C2)
        · have hst := Lib.hid (HG6.out (C1, C2) hk4 hq0 hlm hh)
          rw [hh] at LK
          clear HG1 HG2 HG3 HG5 HG6
          go_wp2_with (first | (go_at_call 37; refine (tok_any _ _ (by first | exact HS1.out | exact HS2.out)).mono ?_; rintro e w4 ⟨rfl, rfl⟩) | (at_mapUpdate; refine wpList_knownP rfl _ _ 77 rfl Tryd.underlying77 B k _ rfl HKn.out (by unfold maxLen; omega) (C1, C2) Hm1.out Hm2.out rfl ?_))
          intro w4 hkn4 hg4
          have d0 := (cell_block (hg4.block X hX3 (by simp; omega)) 0).trans c0
          have d1 := (cell_block (hg4.block X hX3 (by simp; omega)) 1).trans c1
          have hs3 : B ≤ _ := hB ▸ HB2.out.size
          have hb4 := HB2.out.grown hg4 hs3 (fun g e => by cases e; exact Nat.le_refl _)
          have hs4 : B ≤ _ := hB ▸ hb4.size
          have HOA := Lib.hid ((HOw.out.kept hg4 (.inr hnr)).alloc (.cells #[.string (mk C1), .string (mk C2)] 79))
          have HKA := Lib.hid (hkn4.alloc (.cells #[.string (mk C1), .string (mk C2)] 79))
          have HBA := Lib.hid (hb4.alloc hs4 (.cells #[.string (mk C1), .string (mk C2)] 79))
          clear hkn4 hg4 hb4 HKn HOw HB2 c0 c1 LK hX3 hs3 hs4
          clear w3
          go_wp2_with (at_builtin; refine wpList_append_lies _ rfl (.tmp 67) (.tmp 69) 60 rfl B 79 i0 _ 2 32 Tryd.underlying60 hi hz0 hz1 hz2 rfl (by decide) (.slice A k cap) k _ rfl HOA.out ⟨_, 0, none⟩ 1 1 [.string (mk C1), .string (mk C2)] rfl rfl (World.news_of_block (cs := #[.string (mk C1), .string (mk C2)]) (heap_alloc_new _ _)) (by simp [Value.oneCell']) (by omega) (by simp only [maxLen]; omega) (by omega) (hB ▸ HBA.out.size) _ rfl ?_; intro ga capa w5 hown5 hgr5 _ _; have hb5 : Below B w w5 := HBA.out.grown hgr5 (hB ▸ HBA.out.size) (fun k e => (HOA.out.lt k e).1); have hkn5 := HKA.out.kept hgr5 (fun e => hnr e.symm); clear hgr5)
          go_roundw
          case rel => exact ⟨rs, acc ++ [(C1, C2)], rfl, by have h1 := Hdl.out; have h2 := Hrl.out; omega, by rw [List.length_append, Hk.out]; show _ + 1 ≤ 4096; omega, congrArg (Value.int .i64) (by rw [List.length_append, Hk.out]; simp), by rw [List.length_append, Hk.out, pcs_snoc]; exact hown5, by rw [List.length_append, Hk.out]; exact hkn5.congr (fun t => by rw [hasP_snoc]), hb5, hst.out.symm⟩
          case measure => simp only [strLen]; rw [mk_size, hsr]; exact Hdl.out
        · have hR := HG5.out (C1, C2) hk4 hq0 hlm hh
          rw [hh] at LK
          clear HG1 HG2 HG3 HG5 HG6 HKn HOw
          subst hR
          go_wp2_with (go_at_call 37; refine (tok_any _ _ (by first | exact HS1.out | exact HS2.out)).mono ?_; rintro e w4 ⟨rfl, rfl⟩)
          go_ret3
          exact ⟨_, rfl, World.ownsRow_nil _ _ _ _, HB2.out⟩
end Go.Proofs.YtkaejgpnhcdlnaaDoor.Vc
