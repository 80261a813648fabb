/- names.Table.Known, walked. -/
import Derived.Test.YtlkfnhcnfjdgbaaDoorKs
import Derived.Test.YtlkfnhcnfjdgbaaDoorAu
namespace Go.Proofs.YtlkfnhcnfjdgbaaDoor
open Go.RowKit Go.Maps Go.WideMaps
def logIds (us : List Upd) : List Bs := us.flatMap fun u => [u.old, u.new]
theorem logIds_len (us : List Upd) : (logIds us).length = us.length * 2 := by
  induction us with
  | nil => rfl
  | cons r R ih => unfold logIds at ih ⊢; simp [ih]; omega
/-- All IDs of a table. -/
def Tbl.ids (t : Tbl) : List Bs := t.refs.map (·.2) ++ logIds t.log
/-- These texts lie from A on. -/
def Strs (w : World) (A : Option Addr) (K : List Bs) : Prop := 0 < K.length → ∃ g, A = some ⟨g, 0, none⟩ ∧ g < w.heap.size ∧ ∀ j (h : j < K.length), w.cell? ⟨g, j, none⟩ = some (.string (mk K[j]))
theorem Strs.below {w w' : World} {A : Option Addr} {K : List Bs} (h : Strs w A K) (hb : Below w.heap.size w w') : Strs w' A K := by
  intro h0
  obtain ⟨g, rfl, hl, hc⟩ := h h0
  exact ⟨g, rfl, Nat.lt_of_lt_of_le hl hb.size, fun j hj => (hb.cell (p := ⟨g, j, none⟩) hl).trans (hc j hj)⟩
theorem Strs.of_row {w : World} {B c n : Nat} {A : Option Addr} {K : List Bs} (h : w.ownsRow B 9 1 (.slice A n c) n (tcells K)) (hn : K.length = n) : Strs w A K := by
  intro h0
  rcases h.2 with ⟨_, e0⟩ | ⟨g, c', cur, hv, hg, hh, hc, _, hs, ht⟩
  · omega
  · injection hv with hA
    refine ⟨g, hA, (Array.getElem?_eq_some_iff.1 hh).1, fun j hj => ?_⟩
    have h1 : (cur.toList.take (n * 1))[j]? = (tcells K)[j]? := by rw [ht]
    rw [List.getElem?_take, if_pos (by omega)] at h1
    unfold World.cell?; rw [hh]
    simp only [Option.isSome_none, Bool.false_eq_true, if_false]
    rw [← Array.getElem?_toList, h1]
    simp [tcells, hj]
theorem tcells_len (K : List Bs) : (tcells K).length = K.length := by simp [tcells]
set_option maxRecDepth 100000 in
set_option maxHeartbeats 8000000 in
theorem known_any (t : Tbl) (v : Value) (w : World) (hv : TblAt w t v) (hrl : t.refs.length ≤ 100000) (hll : t.log.length ≤ 100000) :
    Calls Tryd.prog 20 #[v] w fun e w' => ∃ A c, e = .returned (.slice A (knownL t.ids).length c) ∧ Strs w' A (knownL t.ids) ∧ Below w.heap.size w w' := by
  obtain ⟨A, c, B, cb, rfl, hA0, hB0, hR, hLg, _, _⟩ := hv
  obtain ⟨R, hd, lg⟩ := t
  simp only [Tbl.ids] at hR hrl hll hA0 hB0 hLg ⊢
  obtain ⟨i9, hi9, h90, h91, h92⟩ := info_parts info9
  have hb0 := below_alloc w (.cells #[.slice A R.length c, .string (mk hd), .slice B lg.length cb] 31)
  have hR1 := hR.below (Nat.le_refl _) hb0
  have hL1 := hLg.below (Nat.le_refl _) hb0
  have hbox := Blk.new w #[.slice A R.length c, .string (mk hd), .slice B lg.length cb] 31
  have hws := hb0.size
  obtain ⟨W, hW⟩ : ∃ W, w.alloc (.cells #[.slice A R.length c, .string (mk hd), .slice B lg.length cb] 31) = W := ⟨_, rfl⟩
  rw [hW] at hb0 hR1 hL1 hbox hws
  have hW' := Lib.hid hW
  obtain ⟨nR, hnR⟩ : ∃ L, R.length = L := ⟨_, rfl⟩
  obtain ⟨nL, hnL⟩ : ∃ L, lg.length = L := ⟨_, rfl⟩
  rw [hnR, hnL] at hbox hW'
  rw [hnR] at hrl
  rw [hnL] at hll
  rw [hnR, hnL]
  have GA := Lib.hid (show ∀ w', Below W.heap.size W w' → w'.cell? ⟨w.heap.size, 0, none⟩ = some (.slice A nR c) ∧ w'.cell? ⟨w.heap.size, 2, none⟩ = some (.slice B nL cb) ∧ RefsAt w' A R ∧ Lies w' B (ucells lg) from fun w' hb =>
    ⟨(hbox.below hb).cell 0, (hbox.below hb).cell 2, hR1.below (Nat.le_refl _) hb, hL1.below (Nat.le_refl _) hb⟩)
  have HR := Lib.hid hnR
  have HL := Lib.hid hnL
  clear hR hLg hR1 hL1 hbox hW hnR hnL hA0 hB0
  obtain ⟨b0, b2, _, _⟩ := GA.out _ (Below.refl _ W)
  go_enter Tryd.func20, Tryd.ntmps20
  go_upto_region 2 with fail
  rw [hW'.out]
  go_wp2
  go_loopw [3, 11] (fun v i wr => ∃ (k : Nat) (D : Option Addr) (d : Nat), k ≤ nR ∧ i = .int .i64 k ∧ v = .slice D k d ∧ wr.ownsRow W.heap.size 9 1 (.slice D k d) k (tcells ((R.take k).map (·.2))) ∧ Below W.heap.size W wr) (fun _ i _ => nR - (intOf i).toNat)
  case atStart => exact ⟨0, none, 0, Nat.zero_le _, rfl, rfl, World.ownsRow_nil _ _ _ _, Below.refl _ _⟩
  case round =>
    clear b0 b2
    obtain ⟨k, D, d, hk, rfl, rfl, hD, hb⟩ := hrel
    obtain ⟨b0, b2, hRA, _⟩ := GA.out _ hb
    by_cases hkn : k < nR
    · have hkR : k < R.length := by rw [HR.out]; exact hkn
      obtain ⟨g, rfl, hg, hc⟩ := hRA (by omega)
      obtain ⟨a0, a1⟩ := hc k hkR
      have hsn : tcells ((R.take (k + 1)).map (·.2)) = tcells ((R.take k).map (·.2)) ++ [.string (mk R[k].2)] := by
        rw [List.take_succ_eq_append_getElem hkR, List.map_append]; unfold tcells; rw [List.map_append]; rfl
      obtain ⟨nA, hnA⟩ : ∃ a, mk R[k].1 = a := ⟨_, rfl⟩
      obtain ⟨nB, hnB⟩ : ∃ a, mk R[k].2 = a := ⟨_, rfl⟩
      rw [hnA] at a0
      rw [hnB] at a1 hsn
      have hk0 : (0 : Int) ≤ (k : Int) := by omega
      have hk1 : (k : Int) < (nR : Int) := by omega
      have HSN := Lib.hid hsn
      have HD := Lib.hid ((hD.alloc (.cells #[.string nA, .string nB] 41)).alloc (.cells #[.string nB] 9))
      have hb2a := (hb.alloc hb.size (.cells #[.string nA, .string nB] 41)).alloc (hb.alloc hb.size (.cells #[.string nA, .string nB] 41)).size (.cells #[.string nB] 9)
      clear hsn hc hnA hnB hRA hD hb
      go_wp2_with (at_builtin; refine wpList_append_lies _ rfl (.tmp 15) (.tmp 18) 55 rfl W.heap.size 9 i9 _ 1 16 Tryd.underlying55 hi9 h90 h91 h92 rfl (by decide) (.slice D k d) k _ rfl HD.out ⟨_, 0, none⟩ 1 1 [.string nB] rfl rfl (World.news_of_block (cs := #[.string nB]) (heap_new _ _ _ (by simp))) (by simp [Value.oneCell']) (by omega) (by simp only [maxLen]; omega) (by omega) hb2a.size _ rfl ?_; intro ga capa wa howna hgra _ _; have hba : Below W.heap.size W wa := hb2a.grown hgra hb2a.size (fun k e => (HD.out.lt k e).1); clear hgra)
      go_roundw
      case rel => exact ⟨k + 1, some ⟨ga, 0, none⟩, capa, by omega, by go_num, rfl, by rw [HSN.out]; exact howna, hba⟩
      case measure => first | (simp [intOf]; done) | (simp [intOf]; omega)
    · obtain rfl : k = nR := by omega
      have e : R.take k = R := List.take_of_length_le (by rw [HR.out]; exact Nat.le_refl _)
      rw [e] at hD
      have HD := Lib.hid hD
      have Hb := Lib.hid hb
      clear hD e hRA hb
      go_wp2
      go_loopw [3, 24] (fun v i wr => ∃ (j : Nat) (D : Option Addr) (d : Nat), j ≤ nL ∧ i = .int .i64 j ∧ v = .slice D (k + j * 2) d ∧ wr.ownsRow W.heap.size 9 1 (.slice D (k + j * 2) d) (k + j * 2) (tcells (R.map (·.2) ++ logIds (lg.take j))) ∧ Below W.heap.size W wr) (fun _ i _ => nL - (intOf i).toNat)
      case atStart => exact ⟨0, D, d, Nat.zero_le _, rfl, rfl, by simpa [logIds] using HD.out, Hb.out⟩
      case round =>
        clear HD Hb b0 b2
        obtain ⟨j, E, d2, hj, rfl, rfl, hD, hb⟩ := hrel
        obtain ⟨b0, b2, _, hLA⟩ := GA.out _ hb
        by_cases hjn : j < nL
        · have hjL : j < lg.length := by rw [HL.out]; exact hjn
          obtain ⟨g, o, rfl, hg, hc⟩ := hLA (by rw [ucells_length]; omega)
          obtain ⟨u0, u1, u2⟩ := ucells_at lg j hjL
          have a0 := hc _ _ u0
          have a1 := hc _ _ u1
          have a2 := hc _ _ u2
          have hsn : tcells (R.map (·.2) ++ logIds (lg.take (j + 1))) = tcells (R.map (·.2) ++ logIds (lg.take j)) ++ [.string (mk lg[j].old), .string (mk lg[j].new)] := by
            rw [List.take_succ_eq_append_getElem hjL]; unfold tcells logIds; rw [List.flatMap_append, ← List.append_assoc, List.map_append]; rfl
          obtain ⟨nA, hnA⟩ : ∃ a, mk lg[j].name = a := ⟨_, rfl⟩
          obtain ⟨nB, hnB⟩ : ∃ a, mk lg[j].old = a := ⟨_, rfl⟩
          obtain ⟨nC, hnC⟩ : ∃ a, mk lg[j].new = a := ⟨_, rfl⟩
          rw [hnA] at a0
          rw [hnB] at a1 hsn
          rw [hnC] at a2 hsn
          rw [← Nat.add_assoc] at a1 a2
          have hk0 : (0 : Int) ≤ (j : Int) := by omega
          have hk1 : (j : Int) < (nL : Int) := by omega
          have HSN := Lib.hid hsn
          obtain ⟨M, hM⟩ : ∃ M, k + j * 2 = M := ⟨_, rfl⟩
          have hM1 : k + (j + 1) * 2 = M + 2 := by omega
          rw [hM] at hD
          have hM2 : M ≤ 400000 := by omega
          have HM1 := Lib.hid hM1
          have HD := Lib.hid ((hD.alloc (.cells #[.string nA, .string nB, .string nC] 39)).alloc (.cells #[.string nB, .string nC] 9))
          have hb2a := (hb.alloc hb.size (.cells #[.string nA, .string nB, .string nC] 39)).alloc (hb.alloc hb.size (.cells #[.string nA, .string nB, .string nC] 39)).size (.cells #[.string nB, .string nC] 9)
          clear hsn hc hnA hnB hnC hLA hD hb u0 u1 u2 hM1
          simp only [hM]
          clear hM
          go_wp2_with (at_builtin; refine wpList_append_lies _ rfl (.tmp 28) (.tmp 33) 55 rfl W.heap.size 9 i9 _ 1 16 Tryd.underlying55 hi9 h90 h91 h92 rfl (by decide) (.slice E M d2) M _ rfl HD.out ⟨_, 0, none⟩ 2 2 [.string nB, .string nC] rfl rfl (World.news_of_block (cs := #[.string nB, .string nC]) (heap_new _ _ _ (by simp))) (by simp [Value.oneCell']) (by omega) (by simp only [maxLen]; omega) (by omega) hb2a.size _ rfl ?_; intro ga capa wa howna hgra _ _; have hba : Below W.heap.size W wa := hb2a.grown hgra hb2a.size (fun k e => (HD.out.lt k e).1); clear hgra)
          go_roundw
          case rel => exact ⟨j + 1, some ⟨ga, 0, none⟩, capa, by omega, by go_num, by rw [HM1.out], by rw [HM1.out, HSN.out]; exact howna, hba⟩
          case measure => first | (simp [intOf]; done) | (simp [intOf]; omega)
        · obtain rfl : j = nL := by omega
          have e : lg.take j = lg := List.take_of_length_le (by rw [HL.out]; exact Nat.le_refl _)
          rw [e] at hD
          obtain ⟨S, hS⟩ : ∃ S, R.map (·.2) ++ logIds lg = S := ⟨_, rfl⟩
          have hSl : S.length = k + j * 2 := by rw [← hS, List.length_append, List.length_map, HR.out, logIds_len, HL.out]
          rw [hS] at hD
          have HS := Lib.hid hS
          obtain ⟨M, hM⟩ : ∃ M, k + j * 2 = M := ⟨_, rfl⟩
          rw [hM] at hD hSl
          have hM2 : M ≤ 1000000 := by omega
          simp only [hM]
          clear e hS hM hLA
          by_cases h0 : M = 0
          · subst h0
            obtain rfl : S = [] := List.eq_nil_of_length_eq_zero hSl
            have HZ := Lib.hid (show knownL [] = [] from List.eq_nil_iff_forall_not_mem.2 fun x hx => by simpa using ((known_mem [] x).1 hx).1)
            have HB := Lib.hid (hb0.trans (hb.mono hws))
            clear hD hb
            go_wp2_with (first
              | (go_at_call 40; refine (Tryd.slices_Sort_string_none E d2 _).mono ?_; rintro e w' ⟨rfl, rfl⟩)
              | (go_at_call 42; refine (Tryd.slices_Compact_string_empty E d2 _).mono ?_; rintro e w' ⟨rfl, rfl⟩)
              | (go_at_call 41; refine (delete_none E d2 _).mono ?_; rintro e w' ⟨rfl, rfl⟩))
            go_ret
            exact ⟨E, d2, by rw [HS.out, HZ.out]; rfl, by rw [HS.out, HZ.out]; exact fun h => absurd h (by simp), HB.out⟩
          · obtain ⟨g0, d0, e0, hg0, _⟩ := hD.form (by omega)
            simp only [Value.slice.injEq, true_and] at e0
            obtain ⟨e0, e1⟩ := e0
            subst e0
            subst e1
            have K40 : Calls Tryd.prog 40 #[.slice (some ⟨g0, 0, none⟩) M d2] wr fun e w' => e = .returned (.tuple #[]) ∧ w'.ownsRow W.heap.size 9 1 (.slice (some ⟨g0, 0, none⟩) M d2) M (tcells (sortB S)) ∧ wr.grownBy w' (some g0) := by
              have := sort_own g0 d2 W.heap.size S wr (by omega) (by rw [hSl]; exact hD)
              rw [hSl] at this
              exact this
            have hsl : (sortB S).length = M := by rw [sortB_len, hSl]
            have K42 : ∀ wa, wa.ownsRow W.heap.size 9 1 (.slice (some ⟨g0, 0, none⟩) M d2) M (tcells (sortB S)) → Calls Tryd.prog 42 #[.slice (some ⟨g0, 0, none⟩) M d2] wa fun e w' => e = .returned (.slice (some ⟨g0, 0, none⟩) (Lib.compact (sortB S)).length d2) ∧ w'.ownsRow W.heap.size 9 1 (.slice (some ⟨g0, 0, none⟩) (Lib.compact (sortB S)).length d2) (Lib.compact (sortB S)).length (tcells (Lib.compact (sortB S))) ∧ wa.grownBy w' (some g0) := fun wa ho => by
              have := compact_own g0 d2 W.heap.size (sortB S) wa (by omega) (by rw [hsl]; exact ho)
              rw [hsl] at this
              exact this
            have hcl : (Lib.compact (sortB S)).length ≤ M := by
              rw [← hsl]
              unfold Lib.compact Lib.compactUpTo
              rw [List.length_map]
              exact Nat.le_trans (List.length_filter_le _ _) (by simp)
            have K41 : ∀ wa, wa.ownsRow W.heap.size 9 1 (.slice (some ⟨g0, 0, none⟩) (Lib.compact (sortB S)).length d2) (Lib.compact (sortB S)).length (tcells (Lib.compact (sortB S))) → Calls Tryd.prog 41 #[.slice (some ⟨g0, 0, none⟩) (Lib.compact (sortB S)).length d2, .func (.func 43) #[] #[]] wa fun e w' => e = .returned (.slice (some ⟨g0, 0, none⟩) (knownL S).length d2) ∧ w'.ownsRow W.heap.size 9 1 (.slice (some ⟨g0, 0, none⟩) (knownL S).length d2) (knownL S).length (tcells (knownL S)) ∧ wa.grownBy w' (some g0) := fun wa ho =>
              delete_own g0 d2 W.heap.size (Lib.compact (sortB S)) wa (by omega) ho
            obtain ⟨C, hC⟩ : ∃ C, (Lib.compact (sortB S)).length = C := ⟨_, rfl⟩
            obtain ⟨D, hDD⟩ : ∃ D, (knownL S).length = D := ⟨_, rfl⟩
            rw [hC] at K41 K42
            rw [hDD] at K41
            have HDD := Lib.hid hDD
            have HGr : ∀ w', wr.grownBy w' (some g0) → Below W.heap.size W w' := fun w' hg => hb.grown hg hb.size (fun k e => by cases e; exact hg0)
            have Q40 := Lib.hid K40
            have Q42 := Lib.hid K42
            have Q41 := Lib.hid K41
            have QGr := Lib.hid HGr
            clear hD hb hC hDD hcl hsl hSl h0 K40 K42 K41 HGr
            go_wp2_with (first
              | (go_at_call 40; refine Q40.out.mono ?_; rintro e wa ⟨rfl, hoa, hga⟩)
              | (go_at_call 42; refine (Q42.out _ hoa).mono ?_; rintro e wb ⟨rfl, hob, hgb⟩)
              | (go_at_call 41; refine (Q41.out _ hob).mono ?_; rintro e wc ⟨rfl, hoc, hgc⟩))
            go_ret
            exact ⟨_, d2, by rw [HS.out, HDD.out]; rfl, by rw [HS.out]; exact Strs.of_row hoc HDD.out, hb0.trans ((QGr.out _ (grown_trans hga (grown_trans hgb hgc))).mono hws)⟩
end Go.Proofs.YtlkfnhcnfjdgbaaDoor
