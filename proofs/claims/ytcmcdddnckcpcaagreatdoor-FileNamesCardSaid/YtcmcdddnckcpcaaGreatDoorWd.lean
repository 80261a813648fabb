/- wal: said, walked. -/
import Derived.Test.YtcmcdddnckcpcaaGreatDoorWk
namespace Go.Proofs.YtcmcdddnckcpcaaGreatDoor
open Go.RowKit
def byteAt (h : Bs) (i : Nat) : Nat := (h[i]?.getD 0).toNat
def numAt (h : Bs) (i : Nat) : Nat := byteAt h i * 256 + byteAt h (i + 1)
def secAt (v : List Bs) (i : Nat) : Bs := v[i]?.getD []
/-- The changes that a head tells. -/
def saidX (v : List Bs) (f n : Nat) : List (Nat × Bs) := (List.range n).map fun i => (numAt (secAt v f) (3 + 2 * i), secAt v (f + 1 + i))
def saidOk (v : List Bs) (f s : Nat) : Bool := (secAt v f).take 2 == [87, 76] && decide (1 ≤ byteAt (secAt v f) 2) && decide (byteAt (secAt v f) 2 ≤ s - 1) && ((saidX v f (byteAt (secAt v f) 2)).all fun c => mayB v.length f s c.1) && secAt v f == fullB (headW (saidX v f (byteAt (secAt v f) 2)))
/-- The changes that the log says; none. -/
def saidB (v : List Bs) (f s : Nat) : List (Nat × Bs) := if saidOk v f s then saidX v f (byteAt (secAt v f) 2) else []
theorem at_mk (l : Bs) (j : Nat) (hj : j < l.length) : ∃ h : j < (mk l).size, ((mk l)[j]'h).toNat = byteAt l j := by
  have hs := mk_size l
  refine ⟨by omega, ?_⟩
  have h2 : (mk l).data.toList[j]? = l[j]? := by rw [mk_data]
  rw [Array.getElem?_toList, Array.getElem?_eq_getElem (by show j < (mk l).size; omega)] at h2
  unfold byteAt
  rw [← h2]; rfl
theorem at_mkH (l : Bs) (H : ByteArray) (hH : mk l = H) (j : Nat) (hj : j < l.length) : ∃ h : j < H.size, (H[j]'h).toNat = byteAt l j := by subst hH; exact at_mk l j hj
theorem byteAt_lt (l : Bs) (j : Nat) : byteAt l j < 256 := UInt8.toNat_lt _
theorem saidX_length (v : List Bs) (f n : Nat) : (saidX v f n).length = n := by simp [saidX]
theorem saidX_snoc (v : List Bs) (f n : Nat) : saidX v f (n + 1) = saidX v f n ++ [(numAt (secAt v f) (3 + 2 * n), secAt v (f + 1 + n))] := by
  unfold saidX; rw [List.range_succ, List.map_append]; rfl
theorem bdN {B : Nat} {a w : World} (h : Below B a w) (n : Nat) : Below B a (w.drewN n) := ⟨h.os, h.tape, h.output, h.size, h.block⟩
theorem word64 {a m : Int} (h0 : 0 ≤ a) (h1 : a < m) (h2 : m ≤ 9223372036854775807) : wrap64 a = a := Go.IntWalk.wrap64_in _ (by omega)
theorem word256 {a : Int} (h0 : 0 ≤ a) (h1 : a < 256) : IntKind.i64.wrap (a * 256) = a * 256 := by rw [Go.IntWalk.i64_left, Go.IntWalk.wrap64_in _ (by omega)]
theorem word1 {a : Int} (h0 : 0 ≤ a) (h1 : a < 512) : IntKind.i64.wrap (a + 1) = a + 1 := by rw [Go.IntWalk.i64_left, Go.IntWalk.wrap64_in _ (by omega)]
theorem row2_at {w : World} {B m : Nat} {e : TypeId} {v : Value} {S : List (Nat × Bs)} (h : w.ownsRow B e 2 v m (scells S)) (hm : S.length = m) (j : Nat) (hj : j < S.length) : ∃ g c, v = .slice (some ⟨g, 0, none⟩) m c ∧ g < w.heap.size ∧ w.cell? ⟨g, j * 2, none⟩ = some (.int .i64 S[j].1) ∧ w.cell? ⟨g, j * 2 + 1, none⟩ = some (.string (mk S[j].2)) := by
  obtain ⟨g, cap, rfl, _, hl⟩ := h.form (by omega)
  obtain ⟨h0, h1⟩ := scells_at S j hj
  refine ⟨g, cap, rfl, hl, ?_, ?_⟩
  · rw [h.cellAt (j * 2) (by omega)]; exact h0
  · rw [h.cellAt (j * 2 + 1) (by omega)]; exact h1
theorem info156 : (Tryz.prog.info? 156).map (fun i => (i.zero, i.size, i.bytes)) = some (some (.agg #[.int .i64 0, .string ⟨#[]⟩]), 2, 24) := by kernel_rfl
theorem vis_length (d : DS) : d.vis.length = d.L.length := overlay_length _ _
theorem vis_sec {d : DS} (h : DGood d) (i : Nat) (hi : i < d.L.length) : (secAt d.vis i).length = 512 := by
  unfold secAt
  have hl := vis_length d
  rw [List.getElem?_eq_getElem (by rw [hl]; exact hi)]
  exact over_good d.L.length d.S d.L h.lasts h.wrote _ (List.getElem_mem _)
set_option maxRecDepth 100000 in
set_option maxHeartbeats 2000000 in
theorem said_any (X : List Nat) (D : Nat) (ds : DS) (b f s : Nat) (w : World) (hD : Dsk w X D ds) (hW : WLog w b D f s) (hf : f + s ≤ ds.L.length) (hs : 2 ≤ s) (hs2 : s ≤ 65) (ho : ds.off = false) (hT : TB w) (hw : 0 < w.heap.size) :
    Calls Tryz.prog 96 #[.pointer (some ⟨b, 0, none⟩)] w fun e w' => (∃ A c, e = .returned (.tuple #[.slice A (saidB ds.vis f s).length c, .int .i64 0]) ∧ w'.ownsRow w.heap.size 156 2 (.slice A (saidB ds.vis f s).length c) (saidB ds.vis f s).length (scells (saidB ds.vis f s))) ∧ Below w.heap.size w w' := by
  have hsm := hD.good.small
  have hvl := vis_length ds
  have hh := vis_sec hD.good f (by omega)
  have KR := fun (i : Nat) (hi : i < ds.L.length) (w' : World) (hb : Below w.heap.size w w') => read_any X D ds i w' (hD.below hb) hi ho
  have HXG := Lib.hid (show ∀ n ≤ s - 1, ∀ c ∈ saidX ds.vis f n, c.1 ≤ 1000000 ∧ c.2.length = 512 from fun n hn c hc => by
    unfold saidX at hc
    obtain ⟨i, hi, rfl⟩ := List.mem_map.1 hc
    have hi2 := List.mem_range.1 hi
    refine ⟨?_, vis_sec hD.good _ (by omega)⟩
    have h1 := byteAt_lt (secAt ds.vis f) (3 + 2 * i)
    have h2 := byteAt_lt (secAt ds.vis f) (3 + 2 * i + 1)
    show numAt _ _ ≤ _
    unfold numAt
    omega)
  have HKR := Lib.hid KR
  have KR0 := fun (w' : World) (hb : Below w.heap.size w w') => KR f (by omega) w' hb
  simp only [show (ds.vis[f]?.getD []) = secAt ds.vis f from rfl] at KR0
  have x0 := Blk.cell hW 0
  have x1 := Blk.cell hW 1
  simp at x0 x1
  have hsl := fun (w : World) => run_slice_string_h (P := Tryz.prog) (w := w) (t := 9) (s := mk (secAt ds.vis f)) Tryz.underlying9 .i64 2 (by omega) (by rw [mk_size, hh]; omega)
  rw [show (2 : Int).toNat = 2 from rfl, show (mk (secAt ds.vis f)).extract 0 2 = mk ((secAt ds.vis f).take 2) by have := ext_mk' (mk (secAt ds.vis f)) 0 2; simpa [mk_data] using this] at hsl
  obtain ⟨nb, hnb⟩ : ∃ q, byteAt (secAt ds.vis f) 2 = q := ⟨_, rfl⟩
  have hnb8 : nb < 256 := by rw [← hnb]; exact byteAt_lt _ _
  have hok : saidOk ds.vis f s = ((secAt ds.vis f).take 2 == [87, 76] && decide (1 ≤ nb) && decide (nb ≤ s - 1) && ((saidX ds.vis f nb).all fun c => mayB ds.L.length f s c.1) && secAt ds.vis f == fullB (headW (saidX ds.vis f nb))) := by unfold saidOk; rw [hnb, hvl]
  have HSD := Lib.hid (show saidB ds.vis f s = if saidOk ds.vis f s then saidX ds.vis f nb else [] by unfold saidB; rw [hnb])
  have HOK := Lib.hid hok
  obtain ⟨R, hR⟩ : ∃ q, saidB ds.vis f s = q := ⟨_, rfl⟩
  rw [hR] at HSD ⊢
  have HHH := Lib.hid hh
  obtain ⟨hd, hhd⟩ : ∃ q, secAt ds.vis f = q := ⟨_, rfl⟩
  rw [hhd] at hsl hh HOK hnb
  simp only [hhd] at KR0
  have hz := mk_size hd
  rw [hh] at hz
  obtain ⟨H, hHe⟩ : ∃ q, mk hd = q := ⟨_, rfl⟩
  obtain ⟨h2a, h2b⟩ := at_mkH hd H hHe 2 (by omega)
  rw [hnb] at h2b
  rw [hHe] at hsl hz
  simp only [hHe] at KR0
  have HE := Lib.hid (And.intro hhd hHe)
  obtain ⟨i156, hi0, hi1, hi2, hi3⟩ := info_parts info156
  have mixed : Tryz.prog.follows Departure.mixedOrders = true := by kernel_rfl
  have HKR0 := Lib.hid KR0
  have HTW := Lib.hid (And.intro hT hw)
  have HF5 := Lib.hid (show f ≤ 5000 by omega)
  have HFS := Lib.hid (And.intro hf (And.intro hs hs2))
  have HW := Lib.hid hW
  have HD := Lib.hid hD
  have HNIL := Lib.hid (show ∀ w' : World, w'.ownsRow w.heap.size 156 2 (.slice none 0 0) 0 [] from fun w' => World.ownsRow_nil _ _ _ _)
  clear hD hW hf hs hs2 ho hT hw hsm hvl hh KR KR0 hnb hok hR hhd hHe
  by_cases hp1 : hd.take 2 = [87, 76]
  case neg =>
    have hne2 : ((mk (hd.take 2)).toList == [87, 76]) = false := by rw [mk_toList']; exact beq_eq_false_iff_ne.2 hp1
    have hne3 : ((mk (hd.take 2)).toList == ByteArray.toList ⟨#[87, 76]⟩) = false := by rw [mk_toList', show ByteArray.toList ⟨#[87, 76]⟩ = [87, 76] from mk_toList' [87, 76]]; exact beq_eq_false_iff_ne.2 hp1
    have HRN := Lib.hid (show R = [] by rw [HSD.out, HOK.out, show (hd.take 2 == [87, 76]) = false from beq_eq_false_iff_ne.2 hp1]; simp)
    obtain ⟨H2, hH2e⟩ : ∃ q, mk (hd.take 2) = q := ⟨_, rfl⟩
    rw [hH2e] at hne2 hne3 hsl
    obtain rfl := HRN.out
    clear hH2e hp1 HSD HOK h2b HRN
    go_enter Tryz.func96, Tryz.ntmps96
    go_upto_region 1 with (fail)
    go_quiet ((go_at_call 33; exact Calls.quiet_of_same (HKR0.out _ (bdN (Below.refl _ _) _))))
    go_wp2
    go_ret2
    exact ⟨⟨none, 0, rfl, HNIL.out _⟩, bdN (Below.refl _ _) _⟩
  rw [hp1] at hsl
  have he2 : (ByteArray.toList ⟨#[87, 76]⟩ == [87, 76]) = true := by rw [show ByteArray.toList ⟨#[87, 76]⟩ = [87, 76] from mk_toList' [87, 76]]; rfl
  rw [show mk [87, 76] = ⟨#[87, 76]⟩ from rfl] at hsl
  have hwn : wrap64 (nb : Int) = (nb : Int) := Go.IntWalk.wrap64_in _ (by omega)
  by_cases hp2 : 1 ≤ nb
  case neg =>
    have HRN := Lib.hid (show R = [] by rw [HSD.out, HOK.out, show decide (1 ≤ nb) = false by simpa using hp2]; simp)
    obtain rfl := HRN.out
    have b0 : (nb : Int) < 1 := by omega
    clear HSD HOK hp1 hp2 hnb8 HRN
    go_enter Tryz.func96, Tryz.ntmps96
    go_upto_region 1 with (fail)
    go_quiet ((go_at_call 33; exact Calls.quiet_of_same (HKR0.out _ (bdN (Below.refl _ _) _))))
    go_wp2
    go_ret2
    exact ⟨⟨none, 0, rfl, HNIL.out _⟩, bdN (Below.refl _ _) _⟩
  have hfs := HFS.out
  have KM := fun n => most_any b D f s (w.drewN n) (show WLog (w.drewN n) b D f s from HW.out) (by omega)
  by_cases hp3 : nb ≤ s - 1
  case neg =>
    have HRN := Lib.hid (show R = [] by rw [HSD.out, HOK.out, show decide (nb ≤ s - 1) = false by simpa using hp3]; simp)
    obtain rfl := HRN.out
    obtain ⟨s1, hs1⟩ : ∃ q, s - 1 = q := ⟨_, rfl⟩
    rw [hs1] at KM hp3
    have b0 : ¬ ((nb : Int) < 1) := by omega
    have b1 : (s1 : Int) < (nb : Int) := by omega
    clear HSD HOK hp1 hp2 hnb8 HRN hp3 hs1 hfs
    go_enter Tryz.func96, Tryz.ntmps96
    go_upto_region 1 with (fail)
    go_quiet ((go_at_call 33; exact Calls.quiet_of_same (HKR0.out _ (bdN (Below.refl _ _) _))))
    go_wp2_with (go_at_call 115; refine (KM _).mono ?_; rintro e w1 ⟨rfl, hw⟩; obtain rfl := hw.symm)
    go_ret2
    exact ⟨⟨none, 0, rfl, HNIL.out _⟩, bdN (Below.refl _ _) _⟩
  have HB63 := Lib.hid (show nb ≤ 64 from by omega)
  have HXG := Lib.hid (HXG.out nb hp3)
  obtain ⟨s1, hs1⟩ : ∃ q, s - 1 = q := ⟨_, rfl⟩
  rw [hs1] at KM
  have b0 : ¬ ((nb : Int) < 1) := by omega
  have b1 : ¬ ((s1 : Int) < (nb : Int)) := by omega
  have b1n : ¬ (s1 < nb) := by omega
  have b2 : (0 : Int) ≤ (nb : Int) := by omega
  have b3 : (nb : Int) ≤ 64 := by omega
  have HOK2 := Lib.hid (show saidOk ds.vis f s = (((saidX ds.vis f nb).all fun c => mayB ds.L.length f s c.1) && hd == fullB (headW (saidX ds.vis f nb))) by
    rw [HOK.out, hp1, show decide (1 ≤ nb) = true by simpa using hp2, show decide (nb ≤ s - 1) = true by simpa using hp3]; simp)
  have HS1 := Lib.hid hs1.symm
  clear HOK hp1 hp2 hnb8 hp3 hs1 hfs
  go_enter Tryz.func96, Tryz.ntmps96
  go_upto_region 1 with (fail)
  go_quiet ((go_at_call 33; exact Calls.quiet_of_same (HKR0.out _ (bdN (Below.refl _ _) _))))
  go_wp2_with (go_at_call 115; refine (KM _).mono ?_; rintro e w1 ⟨rfl, hw⟩; obtain rfl := hw.symm)
  go_loopw [7, 47] (fun v i wr => ∃ k : Nat, k ≤ nb ∧ i = .int .i64 k ∧ wr.ownsRow w.heap.size 156 2 v k (scells (saidX ds.vis f k)) ∧ Below w.heap.size w wr) (fun _ i _ => nb - (intOf i).toNat)
  case atStart => exact ⟨0, Nat.zero_le _, rfl, World.ownsRow_nil _ _ _ _, bdN (Below.refl _ _) _⟩
  case round =>
    obtain ⟨k, hk, rfl, hrow, hb⟩ := hrel
    by_cases hlt : k < nb
    · have hsz := hb.size
      have hf3 := HFS.out
      have hnb := HB63.out
      have hn1 : s1 = s - 1 := HS1.out
      have KRk := fun n => HKR.out (f + 1 + k) (by omega) (wr.drewN n) (bdN hb n)
      simp only [show ∀ i : Nat, (ds.vis[i]?.getD []) = secAt ds.vis i from fun _ => rfl] at KRk
      rw [show ((f + 1 + k : Nat) : Int) = (f : Int) + 1 + (k : Int) by omega] at KRk
      obtain ⟨y, hy⟩ : ∃ q, secAt ds.vis (f + 1 + k) = q := ⟨_, rfl⟩
      obtain ⟨Y, hY⟩ : ∃ q, mk y = q := ⟨_, rfl⟩
      simp only [hy, hY] at KRk
      have x0 := Blk.cell (show WLog wr b D f s from HW.out.below hb) 0
      have x1 := Blk.cell (show WLog wr b D f s from HW.out.below hb) 1
      simp at x0 x1
      have hfb : f ≤ 5000 := HF5.out
      have w1 : IntKind.i64.wrap ((f : Int) + 1) = (f : Int) + 1 := by rw [Go.IntWalk.i64_left, Go.IntWalk.wrap64_in _ (by omega)]
      have w2 : IntKind.i64.wrap ((f : Int) + 1 + (k : Int)) = (f : Int) + 1 + (k : Int) := by rw [Go.IntWalk.i64_left, Go.IntWalk.wrap64_in _ (by omega)]
      have k0 : (0 : Int) ≤ (k : Int) := by omega
      have k1 : (k : Int) < (nb : Int) := by omega
      have HROW := Lib.hid hrow
      have HB := Lib.hid hb
      have HY := Lib.hid (And.intro hy hY)
      clear hrow hb hy hY hlt hf3 hnb hn1 hfb
      go_upto_region 11 with (fail)
      go_quiet ((go_at_call 33; exact Calls.quiet_of_same (KRk _)))
      go_upto_region 15 with (fail)
      clear w1 w2
      obtain ⟨j, hj⟩ : ∃ j, 3 + 2 * k = j := ⟨_, rfl⟩
      have hji : 3 + 2 * (k : Int) = (j : Int) := by omega
      have hjl : j + 1 < hd.length := by have := HHH.out; rw [HE.out.1] at this; have := HB63.out; omega
      obtain ⟨ja, jb⟩ := at_mkH hd H HE.out.2 j (by omega)
      obtain ⟨jc, jd⟩ := at_mkH hd H HE.out.2 (j + 1) hjl
      obtain ⟨a1, ha1⟩ : ∃ q, byteAt hd j = q := ⟨_, rfl⟩
      obtain ⟨a2, ha2⟩ : ∃ q, byteAt hd (j + 1) = q := ⟨_, rfl⟩
      rw [ha1] at jb
      rw [ha2] at jd
      have q1 : a1 < 256 := by rw [← ha1]; exact byteAt_lt _ _
      have q2 : a2 < 256 := by rw [← ha2]; exact byteAt_lt _ _
      have q3 : (0 : Int) ≤ (a1 : Int) ∧ (a1 : Int) < 256 := by omega
      have q4 : (0 : Int) ≤ (a2 : Int) ∧ (a2 : Int) < 256 := by omega
      have j0 : (0 : Int) ≤ (j : Int) := by omega
      have j1 : (j : Int) < 512 := by have := HHH.out; rw [HE.out.1] at this; omega
      have jt : ((j : Int) + 1).toNat = j + 1 := by omega
      have jp : (j : Int) + 1 < 512 := by have := HHH.out; rw [HE.out.1] at this; omega
      have jp0 : 0 ≤ (j : Int) + 1 := by omega
      obtain ⟨N, hN⟩ : ∃ q, a1 * 256 + a2 = q := ⟨_, rfl⟩
      have hN1 : a1 < 1099511627776 := by omega
      have HNN := Lib.hid (show numAt hd (3 + 2 * k) = N by unfold numAt; rw [hj, ha1, ha2]; exact hN)
      have hor := or_i64 a1 a2 hN1 q2
      have w4 : wrap64 (a2 : Int) = (a2 : Int) := word64 q4.1 q4.2 (by decide)
      rw [w4, hN] at hor
      have w3 : wrap64 (a1 : Int) = (a1 : Int) := word64 q3.1 q3.2 (by decide)
      have w7 : IntKind.i64.wrap (a1 : Int) = (a1 : Int) := by rw [Go.IntWalk.i64_left]; exact w3
      have w8 : IntKind.i64.wrap (a2 : Int) = (a2 : Int) := by rw [Go.IntWalk.i64_left]; exact w4
      have w5 : IntKind.i64.wrap ((a1 : Int) * 256) = (a1 : Int) * 256 := word256 q3.1 q3.2
      have w6 : IntKind.i64.wrap ((j : Int) + 1) = (j : Int) + 1 := word1 j0 j1
      clear ha1 ha2 hN hjl hN1
      rw [hji]
      refine wp_region_held (S := fun _ => True) mixed ?_
      change wpAnyH _ _ _ _ _ _ _ _ (World.drewN _ _).drew
      have hrow0 := Lib.hid (show (wr.drewN nq).drew.ownsRow w.heap.size 156 2 u7 k (scells (saidX ds.vis f k)) from HROW.out)
      have hb0 := Lib.hid (bdN HB.out nq).drew
      obtain ⟨W0, hW0⟩ : ∃ q, (wr.drewN nq).drew = q := ⟨_, rfl⟩
      rw [hW0] at hrow0 hb0 ⊢
      clear hW0
      refine wpAnyH_take (i := 0) (v := u7) rfl (by kernel_rfl) (by kernel_rfl) (by kernel_rfl) (fun c a w h => h) (.inl ⟨by kernel_rfl, fun w' hS => ?_⟩) trivial ?_
      · clear hS; go_simp
      try go_simp
      refine wpAnyH_take (i := 1) (v := .string H) rfl (by kernel_rfl) (by kernel_rfl) (by kernel_rfl) (fun c a w h => h) (.inl ⟨by kernel_rfl, fun w' hS => ?_⟩) trivial ?_
      · clear hS; go_simp
      try go_simp
      refine wpAnyH_take (i := 2) (v := .int .i64 (j : Int)) rfl (by kernel_rfl) (by kernel_rfl) (by kernel_rfl) (fun c a w h => h) (.inl ⟨by kernel_rfl, fun w' hS => ?_⟩) trivial ?_
      · clear hS; go_simp
      try go_simp
      refine wpAnyH_take (i := 3) (v := .int .u8 (a1 : Int)) rfl (by kernel_rfl) (by kernel_rfl) (by kernel_rfl) (fun c a w h => h) (.inl ⟨by kernel_rfl, fun w' hS => ?_⟩) trivial ?_
      · clear hS; go_simp
      try go_simp
      refine wpAnyH_take (i := 4) (v := .int .i64 (a1 : Int)) rfl (by kernel_rfl) (by kernel_rfl) (by kernel_rfl) (fun c a w h => h) (.inl ⟨by kernel_rfl, fun w' hS => ?_⟩) trivial ?_
      · clear hS; go_simp
      try go_simp
      refine wpAnyH_take (i := 5) (v := .int .i64 ((a1 : Int) * 256)) rfl (by kernel_rfl) (by kernel_rfl) (by kernel_rfl) (fun c a w h => h) (.inl ⟨by kernel_rfl, fun w' hS => ?_⟩) trivial ?_
      · clear hS; go_simp
      try go_simp
      refine wpAnyH_take (i := 6) (v := .string H) rfl (by kernel_rfl) (by kernel_rfl) (by kernel_rfl) (fun c a w h => h) (.inl ⟨by kernel_rfl, fun w' hS => ?_⟩) trivial ?_
      · clear hS; go_simp
      try go_simp
      refine wpAnyH_take (i := 7) (v := .int .i64 (j : Int)) rfl (by kernel_rfl) (by kernel_rfl) (by kernel_rfl) (fun c a w h => h) (.inl ⟨by kernel_rfl, fun w' hS => ?_⟩) trivial ?_
      · clear hS; go_simp
      try go_simp
      refine wpAnyH_take (i := 8) (v := .int .i64 ((j : Int) + 1)) rfl (by kernel_rfl) (by kernel_rfl) (by kernel_rfl) (fun c a w h => h) (.inl ⟨by kernel_rfl, fun w' hS => ?_⟩) trivial ?_
      · clear hS; go_simp
      try go_simp
      refine wpAnyH_take (i := 9) (v := .int .u8 (a2 : Int)) rfl (by kernel_rfl) (by kernel_rfl) (by kernel_rfl) (fun c a w h => h) (.inl ⟨by kernel_rfl, fun w' hS => ?_⟩) trivial ?_
      · clear hS; go_simp
      try go_simp
      refine wpAnyH_take (i := 10) (v := .int .i64 (a2 : Int)) rfl (by kernel_rfl) (by kernel_rfl) (by kernel_rfl) (fun c a w h => h) (.inl ⟨by kernel_rfl, fun w' hS => ?_⟩) trivial ?_
      · clear hS; go_simp
      try go_simp
      refine wpAnyH_take (i := 11) (v := .int .i64 (N : Int)) rfl (by kernel_rfl) (by kernel_rfl) (by kernel_rfl) (fun c a w h => h) (.inl ⟨by kernel_rfl, fun w' hS => ?_⟩) trivial ?_
      · clear hS; go_simp
      try go_simp
      refine wpAnyH_take (i := 12) (v := .string Y) rfl (by kernel_rfl) (by kernel_rfl) (by kernel_rfl) (fun c a w h => h) (.inl ⟨by kernel_rfl, fun w' hS => ?_⟩) trivial ?_
      · clear hS; go_simp
      try go_simp
      refine wpAnyH_take (i := 13) (v := .agg #[.int .i64 N, .string Y]) rfl (by kernel_rfl) (by kernel_rfl) (by kernel_rfl) (fun c a w h => h) (.inl ⟨by kernel_rfl, fun w' hS => ?_⟩) trivial ?_
      · clear hS; go_simp
      try go_simp
      refine wpAnyH_all (rs := [14]) (by kernel_rfl) (by simp) ?_
      intro i hi
      simp only [List.mem_cons, List.not_mem_nil, or_false] at hi
      subst hi
      unfold wpOp
      go_simp
      have hN2 := World.news_of_block (cs := #[.int .i64 N, .string Y]) (heap_alloc_new W0 (.cells #[.int .i64 N, .string Y] 156))
      have hr2 := World.ownsRow.alloc hrow0.out (.cells #[.int .i64 N, .string Y] 156)
      have hb2 := hb0.out.alloc hb0.out.size (.cells #[.int .i64 N, .string Y] 156)
      obtain ⟨Z, hZ⟩ : ∃ Z, W0.heap.size = Z := ⟨_, rfl⟩
      obtain ⟨W2, hW2⟩ : ∃ u, W0.alloc (.cells #[.int .i64 N, .string Y] 156) = u := ⟨_, rfl⟩
      rw [hZ] at hN2
      rw [hW2] at hN2 hr2 hb2
      try rw [hZ]
      rw [hW2]
      clear hW2 hZ
      first | refine .inl ⟨trivial, ?_⟩ | refine ⟨trivial, ?_⟩ | refine .inl ?_ | skip
      refine wpAnyH_all (rs := [15]) (by kernel_rfl) (by simp) ?_
      intro i hi
      simp only [List.mem_cons, List.not_mem_nil, or_false] at hi
      subst hi
      refine wpOp_of rfl rfl (wp_append_lies (P := Tryz.prog) W2 (.tmp 71) (.tmp 85) 157 rfl w.heap.size 156 i156 _ 2 24 Tryz.underlying157 hi0 hi1 hi2 hi3 (by rfl) (by decide) u7 k (scells (saidX ds.vis f k)) (by rfl) hr2 ⟨Z, 0, none⟩ 1 1 [.int .i64 N, .string Y] (by rfl) (by rfl) hN2 (by simp [Value.oneCell']) (by omega) (by unfold maxLen; have := HB63.out; omega) (by have := HB63.out; omega) hb2.size W2.heap.size rfl ?_)
      intro g3 c3 W3 hS3 hg3 hat3 _
      have HFN := Lib.hid (show W3.ownsRow w.heap.size 156 2 (.slice (some ⟨g3, 0, none⟩) (k + 1) c3) (k + 1) (scells (saidX ds.vis f (k + 1))) ∧ Below w.heap.size w W3 from by
        refine ⟨?_, hb2.grown hg3 hb2.size (fun g hg => (hr2.lt g hg).1)⟩
        rw [saidX_snoc, scells_snoc]
        simp only [HE.out.1, HNN.out, HY.out.1, HY.out.2]
        exact hS3)
      refine ⟨trivial, ?_⟩
      try go_simp
      refine wpAnyH_take (i := 16) (v := .slice (some ⟨g3, 0, none⟩) (k + 1) c3) rfl (by kernel_rfl) (by kernel_rfl) (by kernel_rfl) (fun c a w h => h) (.inl ⟨by kernel_rfl, fun w' hS => ?_⟩) trivial ?_
      · clear hS; go_simp
      try go_simp
      refine wpAnyH_done (by kernel_rfl) ?_ _
      clear hN2 hr2 hb2 hS3 hg3 hat3 hrow0 hb0 KRk hor w3 w4 w5 w6 w7 w8 jb jd jt
      go_wp2
      go_roundw
      case rel => exact ⟨k + 1, by omega, by go_num, HFN.out.1, HFN.out.2⟩
      case measure => simp [intOf]; omega
    · obtain rfl : nb = k := by omega
      obtain ⟨A, cA, rfl⟩ := row_form hrow
      have hx := HXG.out
      have hxl : (saidX ds.vis f nb).length = nb := saidX_length _ _ _
      obtain ⟨x, hxe⟩ : ∃ q, saidX ds.vis f nb = q := ⟨_, rfl⟩
      rw [hxe] at hrow hx hxl HSD HOK2
      have HX := Lib.hid hx
      have HXL := Lib.hid hxl
      have HROW := Lib.hid hrow
      have HB := Lib.hid hb
      clear hrow hb hx hxl hxe hlt
      rename World => wA
      go_upto_region 17 with (fail)
      go_wp2
      go_loopw [90] (fun i wr => ∃ k : Nat, k ≤ nb ∧ i = .int .i64 k ∧ (x.take k).all (fun c => mayB ds.L.length f s c.1) = true ∧ Below wA.heap.size wA wr) (fun i _ => nb - (intOf i).toNat)
      case atStart => exact ⟨0, Nat.zero_le _, rfl, by simp, Below.refl _ _⟩
      case round =>
        obtain ⟨k, hk, rfl, hall, hb2⟩ := hrel
        by_cases hlt : k < nb
        · have hkl : k < x.length := by rw [HXL.out]; exact hlt
          obtain ⟨g, c', hA, hgl, s0, s1⟩ := row2_at HROW.out HXL.out k hkl
          injection hA with hA1 _ hA3
          subst hA1 hA3
          have d0 := (hb2.cell (p := ⟨g, k * 2, none⟩) hgl).trans s0
          have d1 := (hb2.cell (p := ⟨g, k * 2 + 1, none⟩) hgl).trans s1
          have hgr : g < wr.heap.size := Nat.lt_of_lt_of_le hgl hb2.size
          have hma := List.take_succ_eq_append_getElem hkl
          have hAL := Lib.hid (fun (h : mayB ds.L.length f s x[k].1 = true) => (show (x.take (k + 1)).all (fun c => mayB ds.L.length f s c.1) = true by rw [hma, List.all_append, hall]; simp [h]))
          have hNA := Lib.hid (fun (h : mayB ds.L.length f s x[k].1 = false) => (show x.all (fun c => mayB ds.L.length f s c.1) = false from List.all_eq_false.2 ⟨x[k], List.getElem_mem hkl, by rw [h]; decide⟩))
          obtain ⟨z, hz⟩ : ∃ z, x[k].1 = z := ⟨_, rfl⟩
          obtain ⟨Y, hY⟩ : ∃ z, mk x[k].2 = z := ⟨_, rfl⟩
          rw [hz] at d0 hAL hNA
          rw [hY] at d1
          have hbw := HB.out.trans (hb2.mono HB.out.size)
          have hbw2 := hbw.alloc hbw.size (.cells #[.int .i64 z, .string Y] 156)
          have hf5 := HF5.out
          have hs5 := HFS.out
          have KY := may_any X D ds b f s z (wr.alloc (.cells #[.int .i64 z, .string Y] 156)) (HD.out.below hbw2) (HW.out.below hbw2) (by omega) (by omega)
          obtain ⟨o, hoo⟩ : ∃ o, mayB ds.L.length f s z = o := ⟨_, rfl⟩
          rw [hoo] at KY hAL hNA
          have HB2 := Lib.hid hb2
          have HBW := Lib.hid hbw2
          have k0 : (0 : Int) ≤ (k : Int) := by omega
          have k1 : (k : Int) < (nb : Int) := by omega
          clear hb2 hbw hbw2 hma hz hY hoo s0 s1 hall hf5 hs5 hkl
          cases o with
          | true =>
            have HAL := Lib.hid (hAL.out rfl)
            clear hAL hNA
            go_wp2_with (go_at_call 116; refine KY.mono ?_; rintro e w1 ⟨rfl, q, rfl⟩)
            go_roundw
            case rel => exact ⟨k + 1, by omega, by go_num, HAL.out, bdN (HB2.out.alloc HB2.out.size _) _⟩
            case measure => simp [intOf]; omega
          | false =>
            have HRN := Lib.hid (show R = [] by rw [HSD.out, HOK2.out, hNA.out rfl]; simp)
            obtain rfl := HRN.out
            clear hAL hNA HRN HSD HOK2
            go_wp2_with (go_at_call 116; refine KY.mono ?_; rintro e w1 ⟨rfl, q, rfl⟩)
            go_ret2
            exact ⟨⟨none, 0, rfl, HNIL.out _⟩, bdN HBW.out _⟩
        · obtain rfl : nb = k := by omega
          rw [List.take_of_length_le (by rw [HXL.out]; exact Nat.le_refl _)] at hall
          have hbw := HB.out.trans (hb2.mono HB.out.size)
          have hnb := HB63.out
          have hfl : (headW x).length ≤ 512 := by rw [headW_length, HXL.out]; omega
          have KH := whead_any A cA x wr (Lies.below (Lies.of_row HROW.out) (Nat.le_refl _) hb2) (by rw [HXL.out]; exact hnb) (fun c hc => ⟨(HX.out c hc).1, Nat.le_of_eq (HX.out c hc).2⟩) (HTW.out.1.below HTW.out.2 hbw) (Nat.lt_of_lt_of_le HTW.out.2 hbw.size)
          have KN := fun w => noughts_any (512 - (headW x).length) (by omega) w
          rw [show ((512 - (headW x).length : Nat) : Int) = 512 - ((headW x).length : Int) by omega] at KN
          have hsum := run_sum (headW x) (List.replicate (512 - (headW x).length) 0) (by simp; omega)
          rw [show headW x ++ List.replicate (512 - (headW x).length) 0 = fullB (headW x) from rfl] at hsum
          have zd : (mk (headW x)).size = (headW x).length := mk_size _
          have hcmp : (H.toList == (mk (fullB (headW x))).toList) = (hd == fullB (headW x)) := by rw [← HE.out.2, mk_toList', mk_toList']
          rw [hall, Bool.true_and] at HOK2
          obtain ⟨F, hF⟩ : ∃ q, mk (fullB (headW x)) = q := ⟨_, rfl⟩
          obtain ⟨N, hN⟩ : ∃ q, mk (List.replicate (512 - (headW x).length) 0) = q := ⟨_, rfl⟩
          obtain ⟨Y, hY⟩ : ∃ q, mk (headW x) = q := ⟨_, rfl⟩
          obtain ⟨m, hm⟩ : ∃ q, (headW x).length = q := ⟨_, rfl⟩
          rw [hF, hN, hY] at hsum
          rw [hY, hm] at zd
          rw [hN, hm] at KN
          rw [hY, HXL.out] at KH
          rw [hF] at hcmp
          rw [hm] at hfl
          obtain ⟨o, hoo⟩ : ∃ o, (hd == fullB (headW x)) = o := ⟨_, rfl⟩
          rw [hoo] at HOK2 hcmp
          have m0 : (0 : Int) ≤ (m : Int) := by omega
          have m1 : (m : Int) ≤ 512 := by omega
          have HB2 := Lib.hid hb2
          have HBW := Lib.hid hbw
          clear hall hb2 hbw hnb hF hN hY hm hoo
          cases o with
          | true =>
            have HRN := Lib.hid (show R = x by rw [HSD.out, HOK2.out]; simp)
            have HL := Lib.hid HXL.out
            obtain rfl := HRN.out
            clear HRN HSD HOK2
            go_wp2_with (first
              | (go_at_call 117; refine KH.mono ?_; rintro e w1 ⟨rfl, hb1⟩)
              | (go_at_call 103; refine (KN _).mono ?_; rintro e w2 ⟨rfl, hb2⟩))
            go_ret2
            have hba := HB2.out.trans (hb1.mono HB2.out.size) |>.trans (hb2.mono (Nat.le_trans HB2.out.size hb1.size))
            exact ⟨⟨A, cA, by rw [HL.out]; rfl, by rw [HL.out]; exact own_below HROW.out hba⟩, HB.out.trans (hba.mono HB.out.size)⟩
          | false =>
            have HRN := Lib.hid (show R = [] by rw [HSD.out, HOK2.out]; simp)
            obtain rfl := HRN.out
            clear HRN HSD HOK2
            go_wp2_with (first
              | (go_at_call 117; refine KH.mono ?_; rintro e w1 ⟨rfl, hb1⟩)
              | (go_at_call 103; refine (KN _).mono ?_; rintro e w2 ⟨rfl, hb2⟩))
            go_ret2
            have hba := HB2.out.trans (hb1.mono HB2.out.size) |>.trans (hb2.mono (Nat.le_trans HB2.out.size hb1.size))
            exact ⟨⟨none, 0, rfl, HNIL.out _⟩, HB.out.trans (hba.mono HB.out.size)⟩
end Go.Proofs.YtcmcdddnckcpcaaGreatDoor
