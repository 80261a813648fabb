/- names.Encode, walked. -/
import Derived.Test.YtlkfnhcnfjdgbaaDoorNj
import Derived.Test.YtlkfnhcnfjdgbaaDoorAy
import Derived.Lib.ItoaMem
import Derived.BigQuiet
namespace Go.Proofs.YtlkfnhcnfjdgbaaDoor
open Go.RowKit Go.Maps Go.WideMaps
def rtx (R : Refs) : List Bs := R.flatMap fun r => [r.1, r.2]
def utx (us : List Upd) : List Bs := us.flatMap fun u => [u.name, u.old, u.new]
def encB (t : Tbl) : Bs := joinB [t.head, joinB (rtx t.refs), joinB (utx t.log)]
theorem txc_rtx (R : Refs) : txc (rtx R) = rcells R := by
  unfold txc rtx rcells; rw [List.map_flatMap]; rfl
theorem txc_utx (us : List Upd) : txc (utx us) = ucells us := by
  unfold txc utx ucells; rw [List.map_flatMap]; rfl
theorem rtx_len (R : Refs) : (rtx R).length = R.length * 2 := by
  have := congrArg List.length (txc_rtx R); rw [rcells_length] at this; simpa [txc] using this
theorem utx_len (us : List Upd) : (utx us).length = us.length * 3 := by
  have := congrArg List.length (txc_utx us); rw [ucells_length] at this; simpa [txc] using this
theorem rcells_snoc' (R : Refs) (r : Bs × Bs) : rcells (R ++ [r]) = rcells R ++ [.string (mk r.1), .string (mk r.2)] := by simp [rcells]
theorem ucells_snoc' (us : List Upd) (u : Upd) : ucells (us ++ [u]) = ucells us ++ [.string (mk u.name), .string (mk u.old), .string (mk u.new)] := by simp [ucells]
theorem row_lies {w : World} {B n c e : Nat} {A : Option Addr} {xs : List Value} (h : w.ownsRow B e 1 (.slice A n c) n xs) : Lies w A xs := by
  intro h0
  have hl := h.1
  obtain ⟨g, cc, hv, hgb, hgl⟩ := h.form (by omega)
  injection hv with hA _ hc
  subst hA
  refine ⟨g, 0, rfl, hgl, fun j u hj => ?_⟩
  rw [Nat.zero_add, h.cellAt j (by have := (List.getElem?_eq_some_iff.1 hj).1; omega)]
  exact hj
theorem joinB_mem (l : List Bs) (t : Bs) (h : t ∈ l) : t.length ≤ (joinB l).length := by
  obtain ⟨a, b, rfl⟩ := List.append_of_mem h
  rw [show a ++ t :: b = (a ++ [t]) ++ b by simp]
  have : joinB ((a ++ [t]) ++ b) = joinB (a ++ [t]) ++ joinB b := by unfold joinB; rw [List.flatMap_append]
  rw [this, joinB_snoc]
  simp only [List.length_append]; omega
set_option maxRecDepth 100000 in
set_option maxHeartbeats 8000000 in
theorem encode_any (t : Tbl) (v : Value) (w : World) (hv : TblAt w t v) (hrl : t.refs.length ≤ 100000) (hll : t.log.length ≤ 100000) (hsz : (encB t).length ≤ 1099511627776) :
    Calls Tryd.prog 16 #[v] w fun e w' => e = .returned (.string (mk (encB t))) ∧ Below w.heap.size w w' := by
  obtain ⟨i9, hi, hz0, hz1, hz2⟩ := info_parts info9n
  obtain ⟨A, cA, B, cB, rfl, _, _, hR, hL, _, _⟩ := hv
  have hj1 := joinB_mem [t.head, joinB (rtx t.refs), joinB (utx t.log)] (joinB (rtx t.refs)) (by simp)
  have hj2 := joinB_mem [t.head, joinB (rtx t.refs), joinB (utx t.log)] (joinB (utx t.log)) (by simp)
  have HJ1 : Hid ((joinB (rtx t.refs)).length ≤ 1099511627776) := Lib.hid (Nat.le_trans hj1 hsz)
  have HJ2 : Hid ((joinB (utx t.log)).length ≤ 1099511627776) := Lib.hid (Nat.le_trans hj2 hsz)
  have HSZ := Lib.hid hsz
  obtain ⟨nR, hnR⟩ : ∃ n, t.refs.length = n := ⟨_, rfl⟩
  obtain ⟨nL, hnL⟩ : ∃ n, t.log.length = n := ⟨_, rfl⟩
  obtain ⟨hd, hhd⟩ : ∃ n, mk t.head = n := ⟨_, rfl⟩
  rw [hnR, hhd, hnL]
  rw [hnR] at hrl
  rw [hnL] at hll
  have HNR := Lib.hid hnR
  have HNL := Lib.hid hnL
  have HHD := Lib.hid hhd
  have hbx := Blk.new w #[.slice A nR cA, .string hd, .slice B nL cB] 31
  have hb0 := below_alloc w (.cells #[.slice A nR cA, .string hd, .slice B nL cB] 31)
  have HR := Lib.hid (hR.below (Nat.le_refl _) hb0)
  have HL := Lib.hid (hL.below (Nat.le_refl _) hb0)
  obtain ⟨H, hH⟩ : ∃ H, w.heap.size = H := ⟨_, rfl⟩
  obtain ⟨W, hW⟩ : ∃ W, w.alloc (.cells #[.slice A nR cA, .string hd, .slice B nL cB] 31) = W := ⟨_, rfl⟩
  rw [hW] at hbx hb0 HR HL
  rw [hH] at hbx hb0 ⊢
  have HWW := Lib.hid hW
  have HBX := Lib.hid hbx
  have Hb0 := Lib.hid hb0
  have HH := Lib.hid hH
  have x0 := hbx.cell 0
  have x1 := hbx.cell 1
  have x2 := hbx.cell 2
  simp at x0 x1 x2
  clear hj1 hj2 hsz hnR hnL hhd hR hL hbx hb0
  go_enter Tryd.func16, Tryd.ntmps16
  go_wp2
  clear hH hW
  go_loopw [3, 6, 12] (fun ov _ iv wr => ∃ k : Nat, k ≤ nR ∧ iv = .int .i64 k ∧ wr.ownsRow W.heap.size 9 1 ov (k * 2) (rcells (t.refs.take k)) ∧ Below W.heap.size W wr) (fun _ _ iv _ => nR - (intOf iv).toNat)
  case atStart => exact ⟨0, by omega, rfl, World.ownsRow_nil _ _ _ _, Below.refl _ _⟩
  case round =>
    obtain ⟨k, hk, rfl, hown, hb⟩ := hrel
    obtain ⟨A3, c3, rfl⟩ := own_form' hown
    have k0 : (0 : Int) ≤ (k : Int) := by omega
    have k9 : (k : Int) ≤ 100000 := by omega
    rcases Nat.lt_or_ge k nR with hlt | hge
    · have k1 : (k : Int) < (nR : Int) := by omega
      have hkl : k < t.refs.length := by rw [HNR.out]; exact hlt
      obtain ⟨g, rfl, hg, hc⟩ := HR.out (by omega)
      obtain ⟨c0, c1⟩ := hc k hkl
      have d0 := (hb.cell (p := ⟨g, k * 2, none⟩) hg).trans c0
      have d1 := (hb.cell (p := ⟨g, k * 2 + 1, none⟩) hg).trans c1
      have hsn : rcells (t.refs.take (k + 1)) = rcells (t.refs.take k) ++ [.string (mk t.refs[k].1), .string (mk t.refs[k].2)] := by
        rw [List.take_succ_eq_append_getElem hkl, rcells_snoc']
      obtain ⟨x, hx⟩ : ∃ x, mk t.refs[k].1 = x := ⟨_, rfl⟩
      obtain ⟨y, hy⟩ : ∃ x, mk t.refs[k].2 = x := ⟨_, rfl⟩
      rw [hx] at d0 hsn
      rw [hy] at d1 hsn
      obtain ⟨XS, hXS⟩ : ∃ x, rcells (t.refs.take k) = x := ⟨_, rfl⟩
      rw [hXS] at hsn hown
      have HSN := Lib.hid hsn
      have e0 := World.news_of_block (cs := #[.string x, .string y]) (t := 41) (fr := (0, 0)) (heap_alloc_new wr _) 0 _ rfl
      have e1 := World.news_of_block (cs := #[.string x, .string y]) (t := 41) (fr := (0, 0)) (heap_alloc_new wr _) 1 _ rfl
      clear hc c0 c1 hsn hx hy hXS
      go_wp2_with (at_builtin; refine wpList_append_own _ rfl (.tmp 16) (.tmp 21) 55 rfl W.heap.size 9 i9 _ 1 16 Tryd.underlying55 hi hz0 hz1 hz2 rfl (by decide) _ (k * 2) XS rfl ((hown.alloc _).alloc _) ⟨wr.heap.size + 1, 0, none⟩ 2 2 [.string x, .string y] rfl rfl ?q1 ?q2 ?q3 ?q4 ?q5 ?_)
      case q1 => exact World.news_of_block (cs := #[.string x, .string y]) (by
        have := heap_alloc_new (wr.alloc (.cells #[.string x, .string y] 41)) (.cells #[.string x, .string y] 9)
        simpa using this)
      case q2 => intro u hu; simp at hu; rcases hu with rfl | rfl <;> rfl
      case q3 => simp only [maxLen]; omega
      case q4 => omega
      case q5 => have := hb.size; simp; omega
      intro v' w2 hown2 hg2 _
      have hb2 := ((hb.alloc hb.size (.cells #[.string x, .string y] 41)).alloc (by have := hb.size; simp; omega) (.cells #[.string x, .string y] 9)).grown hg2 (by have := hb.size; simp; omega) (fun j e => (hown.lt j e).1)
      have HO2 := Lib.hid hown2
      have HB2 := Lib.hid hb2
      clear hown2 hg2 hb2 hown hb d0 d1 e0 e1
      go_wp2
      go_roundw
      case rel => exact ⟨k + 1, by omega, by go_num, by rw [HSN.out, show (k + 1) * 2 = k * 2 + 2 by omega]; exact HO2.out, HB2.out⟩
      case measure => simp [intOf]; omega
    · obtain rfl : k = nR := by omega
      rename World => W1
      rw [List.take_of_length_le (by rw [HNR.out]; exact Nat.le_refl _)] at hown
      have y0 := (hb.cell (p := ⟨H, 0, none⟩) HBX.out.lt).trans x0
      have y1 := (hb.cell (p := ⟨H, 1, none⟩) HBX.out.lt).trans x1
      have y2 := (hb.cell (p := ⟨H, 2, none⟩) HBX.out.lt).trans x2
      have HO1 := Lib.hid hown
      have HB1 := Lib.hid hb
      have hHl : H < W1.heap.size := Nat.lt_of_lt_of_le HBX.out.lt hb.size
      clear hown hb x0 x1 x2
      go_wp2
      go_loopw [4, 8, 27] (fun ov _ iv wr => ∃ k : Nat, k ≤ nL ∧ iv = .int .i64 k ∧ wr.ownsRow W1.heap.size 9 1 ov (k * 3) (ucells (t.log.take k)) ∧ Below W1.heap.size W1 wr) (fun _ _ iv _ => nL - (intOf iv).toNat)
      case atStart => exact ⟨0, by omega, rfl, World.ownsRow_nil _ _ _ _, Below.refl _ _⟩
      case round =>
        obtain ⟨j, hj, rfl, hown, hb⟩ := hrel
        obtain ⟨A4, c4, rfl⟩ := own_form' hown
        have j0 : (0 : Int) ≤ (j : Int) := by omega
        have j9 : (j : Int) ≤ 100000 := by omega
        rcases Nat.lt_or_ge j nL with hlt | hge
        · have j1 : (j : Int) < (nL : Int) := by omega
          have hjl : j < t.log.length := by rw [HNL.out]; exact hlt
          obtain ⟨g, o, rfl, hg, hc⟩ := HL.out (by rw [ucells_length]; omega)
          obtain ⟨q0, q1, q2⟩ := ucells_at t.log j hjl
          have hg1 := Nat.lt_of_lt_of_le hg HB1.out.size
          have d0 : wr.cell? ⟨g, o + j * 3, none⟩ = _ := (hb.cell (p := ⟨g, o + j * 3, none⟩) hg1).trans ((HB1.out.cell (p := ⟨g, o + j * 3, none⟩) hg).trans (hc _ _ q0))
          have d1 : wr.cell? ⟨g, o + j * 3 + 1, none⟩ = _ := (hb.cell (p := ⟨g, o + j * 3 + 1, none⟩) hg1).trans ((HB1.out.cell (p := ⟨g, o + j * 3 + 1, none⟩) hg).trans (hc _ _ q1))
          have d2 : wr.cell? ⟨g, o + j * 3 + 2, none⟩ = _ := (hb.cell (p := ⟨g, o + j * 3 + 2, none⟩) hg1).trans ((HB1.out.cell (p := ⟨g, o + j * 3 + 2, none⟩) hg).trans (hc _ _ q2))
          have hsn : ucells (t.log.take (j + 1)) = ucells (t.log.take j) ++ [.string (mk t.log[j].name), .string (mk t.log[j].old), .string (mk t.log[j].new)] := by
            rw [List.take_succ_eq_append_getElem hjl, ucells_snoc']
          obtain ⟨x, hx⟩ : ∃ x, mk t.log[j].name = x := ⟨_, rfl⟩
          obtain ⟨y, hy⟩ : ∃ x, mk t.log[j].old = x := ⟨_, rfl⟩
          obtain ⟨z, hz⟩ : ∃ x, mk t.log[j].new = x := ⟨_, rfl⟩
          rw [hx] at d0 hsn
          rw [hy] at d1 hsn
          rw [hz] at d2 hsn
          obtain ⟨XS, hXS⟩ : ∃ x, ucells (t.log.take j) = x := ⟨_, rfl⟩
          rw [hXS] at hsn hown
          have HSN := Lib.hid hsn
          have e0 := World.news_of_block (cs := #[.string x, .string y, .string z]) (t := 39) (fr := (0, 0)) (heap_alloc_new wr _) 0 _ rfl
          have e1 := World.news_of_block (cs := #[.string x, .string y, .string z]) (t := 39) (fr := (0, 0)) (heap_alloc_new wr _) 1 _ rfl
          have e2 := World.news_of_block (cs := #[.string x, .string y, .string z]) (t := 39) (fr := (0, 0)) (heap_alloc_new wr _) 2 _ rfl
          clear hc q0 q1 q2 hsn hx hy hz hXS y0 y1 y2
          go_wp2_with (at_builtin; refine wpList_append_own _ rfl (.tmp 31) (.tmp 38) 55 rfl W1.heap.size 9 i9 _ 1 16 Tryd.underlying55 hi hz0 hz1 hz2 rfl (by decide) _ (j * 3) XS rfl ((hown.alloc _).alloc _) ⟨wr.heap.size + 1, 0, none⟩ 3 3 [.string x, .string y, .string z] rfl rfl ?r1 ?r2 ?r3 ?r4 ?r5 ?_)
          case r1 => exact World.news_of_block (cs := #[.string x, .string y, .string z]) (by
            have := heap_alloc_new (wr.alloc (.cells #[.string x, .string y, .string z] 39)) (.cells #[.string x, .string y, .string z] 9)
            simpa using this)
          case r2 => intro u hu; simp at hu; rcases hu with rfl | rfl | rfl <;> rfl
          case r3 => simp only [maxLen]; omega
          case r4 => omega
          case r5 => have := hb.size; simp; omega
          intro v' w2 hown2 hg2 _
          have hb2 := ((hb.alloc hb.size (.cells #[.string x, .string y, .string z] 39)).alloc (by have := hb.size; simp; omega) (.cells #[.string x, .string y, .string z] 9)).grown hg2 (by have := hb.size; simp; omega) (fun j e => (hown.lt j e).1)
          have HO2 := Lib.hid hown2
          have HB2 := Lib.hid hb2
          clear hown2 hg2 hb2 hown hb d0 d1 d2 e0 e1 e2
          go_wp2
          go_roundw
          case rel => exact ⟨j + 1, by omega, by go_num, by rw [HSN.out, show (j + 1) * 3 = j * 3 + 3 by omega]; exact HO2.out, HB2.out⟩
          case measure => simp [intOf]; omega
        · obtain rfl : j = nL := by omega
          rw [List.take_of_length_le (by rw [HNL.out]; exact Nat.le_refl _)] at hown
          rename World => W2
          have z1 := (hb.cell (p := ⟨H, 1, none⟩) hHl).trans y1
          have HO2 := Lib.hid hown
          have HB2 := Lib.hid hb
          have HO12 := Lib.hid (own_below HO1.out hb)
          have hs2 := hb.size
          have hH2 : H < W2.heap.size := by omega
          have KR := fun (w' : World) (h : Below W2.heap.size W2 w') => by
            have hl := row_lies (own_below HO12.out h)
            rw [← txc_rtx] at hl
            have := join_any A3 c3 (rtx t.refs) w' hl (by rw [rtx_len, HNR.out]; omega) HJ1.out
            rw [rtx_len, HNR.out] at this
            exact this
          have KL := fun (w' : World) (h : Below W2.heap.size W2 w') => by
            have hl := row_lies (own_below HO2.out h)
            rw [← txc_utx] at hl
            have := join_any A4 c4 (utx t.log) w' hl (by rw [utx_len, HNL.out]; omega) HJ2.out
            rw [utx_len, HNL.out] at this
            exact this
          obtain ⟨X, hX⟩ : ∃ X, mk (joinB (rtx t.refs)) = X := ⟨_, rfl⟩
          obtain ⟨Y, hY⟩ : ∃ X, mk (joinB (utx t.log)) = X := ⟨_, rfl⟩
          simp only [hX] at KR
          simp only [hY] at KL
          have KJ := fun (w' : World) (b : Nat) (h : w'.heap[b]? = some (.cells #[.string hd, .string X, .string Y] 9 (0, 0))) => by
            have hl : Lies w' (some ⟨b, 0, none⟩) (txc [t.head, joinB (rtx t.refs), joinB (utx t.log)]) := fun _ => ⟨b, 0, rfl, (Array.getElem?_eq_some_iff.1 h).1, fun j u hj => by
              have hc := World.news_of_block (cs := #[.string hd, .string X, .string Y]) h j u (by rw [← HHD.out, ← hX, ← hY]; exact hj)
              rw [Go.Lib.add_plain] at hc; exact hc⟩
            exact (show Calls Tryd.prog 35 #[.slice (some ⟨b, 0, none⟩) 3 3] w' fun e w'' => e = .returned (.string (mk (encB t))) ∧ Below w'.heap.size w' w'' from join_any (some ⟨b, 0, none⟩) 3 [t.head, joinB (rtx t.refs), joinB (utx t.log)] w' hl (by simp) HSZ.out)
          have HX := Lib.hid hX
          have HY := Lib.hid hY
          clear hown hb hX hY y0 y1 y2
          go_wp2_with fail
          go_region_held3 (fun w' => w'.cell? ⟨H, 1, none⟩ = some (.string hd))
            (first | (go_keep) | (exact ((hbR).cell (p := ⟨H, 1, none⟩) hH2).trans z1) | (exact ((hbL).cell (p := ⟨H, 1, none⟩) hH2).trans z1) | (exact ((hbR.alloc hbR.size _).cell (p := ⟨H, 1, none⟩) hH2).trans z1) | (exact ((hbL.alloc hbL.size _).cell (p := ⟨H, 1, none⟩) hH2).trans z1) | (exact ((hb9).cell (p := ⟨H, 1, none⟩) hH2).trans z1))
            (first
              | (go_at_call 35; first
                 | ((with_reducible refine (KR _ (by first | exact Below.refl _ _ | exact (Below.refl _ _).drew | exact hbL)).mono ?_); rintro e wR ⟨rfl, hbR0⟩; first | (have hbR := below_step hbL hbR0) | (have hbR := below_step (Below.refl _ W2).drew hbR0) | (have hbR := hbR0))
                 | ((with_reducible refine (KL _ (by first | exact Below.refl _ _ | exact (Below.refl _ _).drew | exact hbR)).mono ?_); rintro e wL ⟨rfl, hbL0⟩; first | (have hbL := below_step hbR hbL0) | (have hbL := below_step (Below.refl _ W2).drew hbL0) | (have hbL := hbL0))
                 | ((with_reducible refine (KJ _ _ (by exact heap_alloc_new _ _)).mono ?_); rintro e w9 ⟨rfl, hb90⟩; first | (have hb9 := below_step (hbR.alloc hbR.size _) hb90) | (have hb9 := below_step (hbL.alloc hbL.size _) hb90)))
              | fail)
          all_goals go_wp2
          all_goals go_ret
          all_goals
            have s0 : H ≤ W.heap.size := by have := Hb0.out.size; have := HH.out; omega
            have s1 := HB1.out.size
            have s2 := HB2.out.size
            exact ⟨rfl, ((Hb0.out.trans (HB1.out.mono s0)).trans (HB2.out.mono (by omega))).trans (hb9.mono (by omega))⟩
end Go.Proofs.YtlkfnhcnfjdgbaaDoor
