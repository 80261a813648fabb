/- merges.Invalid and its closure, walked: the first pair with a part that there isn't yet. -/
import Derived.Test.YtkaejgpnhcdlnaaDoorVcMr
namespace Go.Proofs.YtkaejgpnhcdlnaaDoor.Vc
open Go.RowKit Go.Maps Go.WideMaps
theorem invM_at (l : List Pr) (m : Nat) (hm : badM l m = true) : ∀ (k i : Nat), i ≤ m → m < i + k → (∀ j, i ≤ j → j < m → badM l j = false) → invM l i k = (m : Int) := by
  intro k
  induction k with
  | zero => intro i h1 h2; omega
  | succ k ih =>
    intro i h1 h2 h3
    rw [invM]
    by_cases he : i = m
    · subst he; rw [if_pos hm]
    · rw [if_neg (by rw [h3 i (Nat.le_refl _) (by omega)]; simp)]
      exact ih (i + 1) (by omega) (by omega) (fun j h4 h5 => h3 j (by omega) h5)
theorem inv_at (l : List Pr) (m : Nat) (h : m < l.length) (hm : badM l m = true) (hno : ∀ j, j < m → badM l j = false) : invalidM l = (m : Int) :=
  invM_at l m hm l.length 0 (Nat.zero_le _) (by omega) (fun j _ h => hno j h)
theorem invM_none (l : List Pr) : ∀ (k i : Nat), (∀ j, i ≤ j → j < i + k → badM l j = false) → invM l i k = -1 := by
  intro k
  induction k with
  | zero => intro i _; rfl
  | succ k ih =>
    intro i h
    rw [invM, if_neg (by rw [h i (Nat.le_refl _) (by omega)]; simp)]
    exact ih (i + 1) (fun j h1 h2 => h j (by omega) (by omega))
theorem inv_none (l : List Pr) (h : ∀ j, j < l.length → badM l j = false) : invalidM l = -1 := invM_none l l.length 0 (fun j _ h2 => h j (by omega))
theorem badM_at (l : List Pr) (i : Nat) (h : i < l.length) : badM l i = !(isT (joins (l.take i)) l[i].1 && isT (joins (l.take i)) l[i].2) := by
  unfold badM; rw [List.getElem?_eq_getElem h]
theorem cont_snoc (D : List Bs) (P t : Bs) : (D ++ [P]).contains t = (decide (t ∈ D) || t == P) := by
  rw [Bool.eq_iff_iff]; simp
/-- A slice of pairs of texts. -/
def PArg (w : World) (A : Option Addr) (l : List Pr) : Prop :=
  0 < l.length → ∃ g, A = some ⟨g, 0, none⟩ ∧ g < w.heap.size ∧ ∀ j (h : j < l.length), w.cell? ⟨g, j * 2, none⟩ = some (.string (mk l[j].1)) ∧ w.cell? ⟨g, j * 2 + 1, none⟩ = some (.string (mk l[j].2))
theorem parg_of {w : World} {B n cap : Nat} {t : TypeId} {A : Option Addr} {es : List Pr} (h : w.ownsRow B t 2 (.slice A n cap) es.length (pcs es)) : PArg w A es := by
  intro h0
  obtain ⟨g, c, hv, hgb, hgl⟩ := h.form h0
  injection hv with hA hnn hc
  subst hA
  subst hnn
  refine ⟨g, rfl, hgl, fun j hj => ?_⟩
  obtain ⟨e1, e2⟩ := pcs_at es j hj
  have x1 := h.cellAt (j * 2) (by omega)
  have x2 := h.cellAt (j * 2 + 1) (by omega)
  rw [e1] at x1
  rw [e2] at x2
  exact ⟨x1, x2⟩
set_option maxRecDepth 100000 in
set_option maxHeartbeats 1600000 in
theorem is_any (bm bk n : Nat) (D : List Bs) (s : ByteArray) (w : World) (hs : s.size ≤ maxLen) (hk : Boxed w bk 80 (.map (some bm))) (hn : Known w bm n (fun u => D.contains u)) (b : Bool) (hb : isT D s.data.toList = b) :
    Calls Tryd.prog 38 #[.string s, .pointer (some ⟨bk, 0, none⟩)] w fun e w' => e = .returned (.bool b) ∧ w = w' := by
  have c1 := hk.cell
  have l1 := hn.look 80 Tryd.underlying80 s hs
  have hsl : s.data.toList.length = s.size := by simp
  have hT : isT D s.data.toList = (decide (s.size ≤ 1) || D.contains s.data.toList) := by unfold isT; rw [hsl]
  rw [hb] at hT
  have HT := Lib.hid hT
  clear hk hn hT hb hsl
  by_cases h1 : s.size ≤ 1
  · go_enter Tryd.func38, Tryd.ntmps38
    go_wp2
    go_ret
    exact ⟨by rw [HT.out]; simp [h1] <;> omega, rfl⟩
  · cases hc : D.contains s.data.toList
    all_goals
      rw [hc] at l1
      have HC := Lib.hid hc
      clear hc
      go_enter Tryd.func38, Tryd.ntmps38
      go_wp2
      go_ret
      exact ⟨by rw [HT.out, HC.out]; simp [h1] <;> omega, rfl⟩
set_option maxRecDepth 100000 in
set_option maxHeartbeats 4000000 in
theorem invalid_any (A : Option Addr) (cap : Nat) (l : List Pr) (w : World) (hn : l.length ≤ 4096) (hs : ∀ p ∈ l, p.1.length ≤ 64 ∧ p.2.length ≤ 64) (hp : PArg w A l) :
    Calls Tryd.prog 26 #[.slice A l.length cap] w fun e w' => e = .returned (.int .i64 (invalidM l)) ∧ Below w.heap.size w w' := by
  have hmm := @run_makeMap Tryd.prog
  obtain ⟨n, hL⟩ : ∃ n, l.length = n := ⟨_, rfl⟩
  rw [hL] at hn ⊢
  have HP := Lib.hid hp
  have HS := Lib.hid hs
  have HL := Lib.hid hL
  obtain ⟨B, hB0⟩ : ∃ B, w.heap.size = B := ⟨_, rfl⟩
  have HB0 := Lib.hid hB0
  have k0 := (Known.made w).alloc (.cells #[.map (some w.heap.size)] 80)
  have b0 := Boxed.new (w.alloc (.map #[] 0)) 80 (.map (some w.heap.size))
  have bb0 := (below_alloc w (.map #[] 0)).alloc (by simp) (.cells #[.map (some w.heap.size)] 80)
  rw [show (w.alloc (.map #[] 0)).heap.size = w.heap.size + 1 by simp] at b0
  rw [hB0] at k0 b0 bb0 ⊢
  clear hp hs hL
  have HK0 := Lib.hid k0
  have Hb0 := Lib.hid b0
  have Hbb0 := Lib.hid bb0
  clear k0 b0 bb0
  go_enter Tryd.func26, Tryd.ntmps26
  go_wp2
  try simp only [hB0]
  go_loopw [5, 6, 11] (fun _ _ i wr => ∃ k : Nat, k ≤ n ∧ i = .int .i64 k ∧ Known wr B k (fun u => (joins (l.take k)).contains u) ∧ Boxed wr (B + 1) 80 (.map (some B)) ∧ Below B w wr ∧ ∀ j, j < k → badM l j = false) (fun _ _ i _ => n - (intOf i).toNat)
  case atStart => exact ⟨0, Nat.zero_le _, rfl, HK0.out, Hb0.out, Hbb0.out, fun j h => absurd h (by omega)⟩
  case round =>
    clear HK0 Hb0 Hbb0
    obtain ⟨k, hk, rfl, hkn, hbx, hBw, hno⟩ := hrel
    by_cases hlt : k < n
    · have hkl : k < l.length := by rw [HL.out]; exact hlt
      obtain ⟨g, rfl, hg, hc⟩ := HP.out (by omega)
      rw [HB0.out] at hg
      obtain ⟨g0, g1⟩ := hc k hkl
      have d0 := (hBw.cell (p := ⟨g, k * 2, none⟩) hg).trans g0
      have d1 := (hBw.cell (p := ⟨g, k * 2 + 1, none⟩) hg).trans g1
      have hsm := HS.out _ (List.getElem_mem hkl)
      have hbad := badM_at l k hkl
      have hjs : joins (l.take (k + 1)) = joins (l.take k) ++ [l[k].1 ++ l[k].2] := by rw [List.take_succ_eq_append_getElem hkl, joins_snoc]
      have hat := inv_at l k hkl
      obtain ⟨p, hpe⟩ : ∃ p, l[k] = p := ⟨_, rfl⟩
      rw [hpe] at d0 d1 hsm hbad hjs
      obtain ⟨D, hD⟩ : ∃ D, joins (l.take k) = D := ⟨_, rfl⟩
      rw [hD] at hbad hjs hkn
      have hap := mk_append p.1 p.2
      have z0 : (mk p.1).size = p.1.length := mk_size _
      have z1 : (mk p.2).size = p.2.length := mk_size _
      have hPl : (p.1 ++ p.2).length ≤ 128 := by rw [List.length_append]; omega
      obtain ⟨P, hP⟩ : ∃ P, p.1 ++ p.2 = P := ⟨_, rfl⟩
      rw [hP] at hap hjs hPl
      have hsz : B ≤ wr.heap.size := HB0.out ▸ hBw.size
      have HKn := Lib.hid (hkn.alloc (.cells #[.string (mk p.1), .string (mk p.2)] 79))
      have HBx := Lib.hid (hbx.alloc (.cells #[.string (mk p.1), .string (mk p.2)] 79))
      have HBw := Lib.hid (hBw.alloc hsz (.cells #[.string (mk p.1), .string (mk p.2)] 79))
      have hX : B + 1 < wr.heap.size := hbx.lt
      have c1 := HBx.out.cell
      have HT1 : ∀ b, isT D p.1 = b → isT D (mk p.1).data.toList = b := fun b h => by rw [mk_data]; exact h
      have HT2 : ∀ b, isT D p.2 = b → isT D (mk p.2).data.toList = b := fun b h => by rw [mk_data]; exact h
      have HS1 := Lib.hid (show (mk p.1).size ≤ maxLen by unfold maxLen; omega)
      have HS2 := Lib.hid (show (mk p.2).size ≤ maxLen by unfold maxLen; omega)
      have HNO := Lib.hid hno
      have HJS := Lib.hid hjs
      have HAP := Lib.hid hap
      have HAT := Lib.hid hat
      have hk1 : (k : Int) < (n : Int) := by omega
      have HPL := Lib.hid hPl
      obtain ⟨a, ha⟩ : ∃ a, mk p.1 = a := ⟨_, rfl⟩
      obtain ⟨b, hb⟩ : ∃ a, mk p.2 = a := ⟨_, rfl⟩
      rw [ha] at d0 z0 HKn HBx HBw c1 HT1 HS1 HAP
      rw [hb] at d1 z1 HKn HBx HBw c1 HT2 HS2 HAP
      clear hc g0 g1 hap hjs hat hpe hD hP hno hkn hbx hBw hsz ha hb hPl
      have e0 := (Bl.new wr #[.string a, .string b] 79).cell 0
      have e1 := (Bl.new wr #[.string a, .string b] 79).cell 1
      have hX3 : wr.heap.size < (wr.alloc (.cells #[.string a, .string b] 79)).heap.size := by simp
      cases ht1 : isT D p.1
      · have hb1 : badM l k = true := by rw [hbad, ht1]; rfl
        have hv := HAT.out hb1 HNO.out
        have HV := Lib.hid hv
        have ht1' := HT1 _ ht1
        clear hbad hb1 hv HT1 HT2 ht1
        go_wp2_with (go_at_call 38; refine (is_any B (B + 1) k D _ _ (by first | exact HS1.out | exact HS2.out) HBx.out HKn.out _ ht1').mono ?_; rintro e w4 ⟨rfl, rfl⟩)
        go_ret
        exact ⟨by rw [HV.out]; rfl, HBw.out⟩
      · cases ht2 : isT D p.2
        · have hb1 : badM l k = true := by rw [hbad, ht1, ht2]; rfl
          have hv := HAT.out hb1 HNO.out
          have HV := Lib.hid hv
          have ht1' := HT1 _ ht1
          have ht2' := HT2 _ ht2
          clear hbad hb1 hv HT1 HT2 ht1 ht2
          go_wp2_with (go_at_call 38; refine (is_any B (B + 1) k D _ _ (by first | exact HS1.out | exact HS2.out) HBx.out HKn.out _ (by first | exact ht1' | exact ht2')).mono ?_; rintro e w4 ⟨rfl, rfl⟩)
          go_ret
          exact ⟨by rw [HV.out]; rfl, HBw.out⟩
        · have hb1 : badM l k = false := by rw [hbad, ht1, ht2]; rfl
          have hall : ∀ j, j < k + 1 → badM l j = false := fun j h => by
            by_cases hj : j = k
            · subst hj; exact hb1
            · exact HNO.out j (by omega)
          have HALL := Lib.hid hall
          have ht1' := HT1 _ ht1
          have ht2' := HT2 _ ht2
          clear hbad hb1 hall HT1 HT2 ht1 ht2 HNO HAT
          go_wp2_with (first
            | (go_at_call 38; refine (is_any B (B + 1) k D _ _ (by first | exact HS1.out | exact HS2.out) HBx.out HKn.out _ (by first | exact ht1' | exact ht2')).mono ?_; rintro e w4 ⟨rfl, rfl⟩)
            | (at_mapUpdate; refine wpList_known rfl _ _ 80 rfl Tryd.underlying80 B k _ rfl HKn.out (by unfold maxLen; omega) _ (by rw [HAP.out, mk_size]; have := HPL.out; unfold maxLen; omega) rfl ?_))
          intro w5 hkn5 hg5
          have hbx5 := HBx.out.kept hg5 (by simp)
          have hs5 : B ≤ _ := HB0.out ▸ HBw.out.size
          have hb5 := HBw.out.grown hg5 hs5 (fun g e => by cases e; exact Nat.le_refl _)
          clear HKn HBx HBw c1 e0 e1 hX3 hg5 d0 d1
          go_wp2
          go_roundw
          case rel => exact ⟨k + 1, by omega, by go_num, hkn5.congr (fun t => by rw [HJS.out]; have hPd : a.data.toList ++ b.data.toList = P := (by have h := congrArg (fun s : ByteArray => s.data.toList) HAP.out; simpa [ByteArray.data_append, mk_data] using h); rw [hPd]; exact cont_snoc D P t), hbx5, hb5, HALL.out⟩
          case measure => simp [intOf]; omega
    · obtain rfl : k = n := by omega
      have hv := inv_none l (fun j h => hno j (by rw [HL.out] at h; exact h))
      have HV := Lib.hid hv
      clear hv hno hkn hbx
      go_wp2
      go_ret
      exact ⟨by rw [HV.out]; rfl, hBw⟩
end Go.Proofs.YtkaejgpnhcdlnaaDoor.Vc
