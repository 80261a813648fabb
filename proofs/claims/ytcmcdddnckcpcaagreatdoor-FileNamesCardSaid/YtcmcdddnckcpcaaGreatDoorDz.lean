/- sector.Disk: fail, step, On, Crash, walked. -/
import Derived.Test.YtcmcdddnckcpcaaGreatDoorDk
namespace Go.Proofs.YtcmcdddnckcpcaaGreatDoor
open Go.RowKit
theorem icells_at (l : List Int) (j : Nat) (h : j < l.length) : (icells l)[j]? = some (.int .i64 l[j]) := by simp [icells, h]
theorem txc_set (L : List Bs) (i : Nat) (d : Bs) : txc (L.set i d) = (txc L).set i (.string (mk d)) := by simp [txc, List.map_set]
theorem row_ne_row {w : World} {B B' size size' n n' : Nat} {e e' : TypeId} {v v' : Value} {xs xs' : List Value} (h : w.ownsRow B e size v n xs) (h' : w.ownsRow B' e' size' v' n' xs') (he : e ≠ e') : v.ownBlock = none ∨ v.ownBlock ≠ v'.ownBlock := by
  cases hv : v.ownBlock with
  | none => exact .inl rfl
  | some g =>
    refine .inr fun e2 => ?_
    obtain ⟨c, fz, h1⟩ := row_kind h g hv
    obtain ⟨c', fz', h2⟩ := row_kind h' g e2.symm
    rw [h1] at h2
    simp only [Option.some.injEq, Obj.cells.injEq] at h2
    exact he h2.2.1
/-- Where a row of another type is written, these cells stay. -/
theorem Lies.grown {w w' : World} {A : Option Addr} {xs : List Value} {e : TypeId} {r : Option Nat} (h : Lies w A xs) (ht : Typed w A e) (hg : w.grownBy w' r) (hr : ∀ g, r = some g → ∃ c t fr, w.heap[g]? = some (.cells c t fr) ∧ t ≠ e) : Lies w' A xs ∧ Typed w' A e := by
  have hne : ∀ a, A = some a → some a.block ≠ r := fun a ha he => by
    obtain ⟨cs, fr, hc⟩ := ht a ha
    obtain ⟨c, t, fr', h1, h2⟩ := hr a.block he.symm
    rw [hc] at h1
    simp only [Option.some.injEq, Obj.cells.injEq] at h1
    exact h2 h1.2.1.symm
  refine ⟨fun h0 => ?_, fun a ha => ?_⟩
  · obtain ⟨g, o, rfl, hl, hc⟩ := h h0
    have := hg.block g hl (hne _ rfl)
    exact ⟨g, o, rfl, Nat.lt_of_lt_of_le hl hg.size, fun j u hu => (World.cell?_of_block (a := ⟨g, o + j, none⟩) this).trans (hc j u hu)⟩
  · obtain ⟨cs, fr, hc⟩ := ht a ha
    exact ⟨cs, fr, (hg.block _ (Array.getElem?_eq_some_iff.1 hc).1 (hne a ha)).trans hc⟩
theorem CutAt.grown {w w' : World} {X : List Nat} {v : Value} {o : Option (Nat × List Int)} {r : Option Nat} (h : CutAt w X v o) (hg : w.grownBy w' r) (hr : ∀ g, r = some g → ∃ c t fr, w.heap[g]? = some (.cells c t fr) ∧ t ≠ 3 ∧ t ≠ 115) : CutAt w' X v o := by
  cases o with
  | none => exact h
  | some p =>
    obtain ⟨n, keep⟩ := p
    obtain ⟨h1, h2, h3, C, A, c, h4, h5, h6, h7, h8, h9⟩ := h
    obtain ⟨k1, k2⟩ := h7.grown h8 hg (fun g hgr => by obtain ⟨c, t, fr, a, b, _⟩ := hr g hgr; exact ⟨c, t, fr, a, b⟩)
    refine ⟨h1, h2, h3, C, A, c, h4, h5, h6.grown hg (fun e => ?_), k1, k2, h9⟩
    obtain ⟨c, t, fr, a, _, b⟩ := hr C e
    unfold Blk at h6
    rw [h6] at a
    simp only [Option.some.injEq, Obj.cells.injEq] at a
    exact b a.2.1.symm
theorem own_set3' {w : World} {B s n X : Nat} {e e' : TypeId} {v : Value} {xs : List Value} {cs : Array Value} (h : w.ownsRow B e s v n xs) (hX : Blk w X cs e') (he : e ≠ e') (i j k : Nat) (a b c : Value) : (((w.setCell ⟨X, i, none⟩ a).setCell ⟨X, j, none⟩ b).setCell ⟨X, k, none⟩ c).ownsRow B e s v n xs :=
  own_set (own_set (own_set h hX he i a) (hX.set i a) he j b) ((hX.set i a).set j b) he k c
theorem CutAt.alloc {w : World} {X : List Nat} {v : Value} {o : Option (Nat × List Int)} (h : CutAt w X v o) (b : Obj) : CutAt (w.alloc b) X v o := h.grown (World.grownBy_alloc w b none) (fun g e => by cases e)
theorem CutAt.drew {w : World} {X : List Nat} {v : Value} {o : Option (Nat × List Int)} (h : CutAt w X v o) : CutAt w.drew X v o := h
/-- A cell of a block of another type is set. -/
theorem CutAt.set {w : World} {X : List Nat} {v : Value} {o : Option (Nat × List Int)} {b : Nat} {cs : Array Value} {t : TypeId} {fr : Nat × Nat} (h : CutAt w X v o) (hb : w.heap[b]? = some (.cells cs t fr)) (h3 : t ≠ 3) (h115 : t ≠ 115) (i : Nat) (u : Value) : CutAt (w.setCell ⟨b, i, none⟩ u) X v o :=
  h.grown (grown_set w b i u) (fun g e => by cases e; exact ⟨_, _, _, hb, h3, h115⟩)
theorem row_blk {w : World} {B e size n : Nat} {g c : Nat} {xs : List Value} (h : w.ownsRow B e size (.slice (some ⟨g, 0, none⟩) n c) n xs) : ∃ cs fr, w.heap[g]? = some (.cells cs e fr) := row_kind h g rfl
set_option maxRecDepth 100000 in
set_option maxHeartbeats 2000000 in
theorem fail_core (X : List Nat) (D : Nat) (d : DS) (A : Option Addr) (cap : Nat) (keep : List Int) (w : World) (gL cL : Nat) (vS vC : Value) (off : Bool) (cnt : Int) (hB : Blk w D #[.slice (some ⟨gL, 0, none⟩) d.L.length cL, vS, vC, .bool off, .int .i64 cnt] 123) (hL : w.ownsRow 0 9 1 (.slice (some ⟨gL, 0, none⟩) d.L.length cL) d.L.length (txc d.L))
    (hSr : w.ownsRow 0 141 2 vS d.S.length (scells d.S)) (hgX : gL ∈ X) (hgd : DGood d) (hmem : D ∈ X) (hlt : ∀ x ∈ X, x < w.heap.size) (hl : Lies w A (icells keep)) (ht : Typed w A 3) (hk : keep.length ≤ 9223372036854775807) :
    Calls Tryz.prog 63 #[.pointer (some ⟨D, 0, none⟩), .slice A keep.length cap] w fun e w' => e = .returned (.tuple #[]) ∧ Dsk w' X D (d.fail keep) ∧ Frm X w w' := by
  have HG := Lib.hid hgd
  have HMEM := Lib.hid (And.intro hmem hlt)
  have HGX := Lib.hid hgX
  have hDl := hB.lt
  unfold DS.fail
  have hov : ∀ k, overK (keptI keep) 0 d.L (d.S.take (k + 1)) = if k < d.S.length then (if keptI keep k then (overK (keptI keep) 0 d.L (d.S.take k)).set (d.S.getD k (0, [])).1 (d.S.getD k (0, [])).2 else overK (keptI keep) 0 d.L (d.S.take k)) else overK (keptI keep) 0 d.L (d.S.take k) := fun k => by
    by_cases hk : k < d.S.length
    · rw [if_pos hk, List.take_succ_eq_append_getElem hk, overK_snoc, List.length_take, Nat.zero_add, Nat.min_eq_left (Nat.le_of_lt hk)]
      simp [hk]
    · rw [if_neg hk, List.take_of_length_le (by omega), List.take_of_length_le (by omega)]
  have HOV := Lib.hid hov
  obtain ⟨L, hLe⟩ : ∃ L, d.L = L := ⟨_, rfl⟩
  obtain ⟨S, hSe⟩ : ∃ L, d.S = L := ⟨_, rfl⟩
  rw [hLe] at hB hL
  rw [hSe] at hSr
  rw [hLe, hSe] at HOV
  rw [hLe, hSe]
  obtain ⟨n, hn⟩ : ∃ n, L.length = n := ⟨_, rfl⟩
  obtain ⟨m, hm⟩ : ∃ m, S.length = m := ⟨_, rfl⟩
  rw [hn] at hB hL
  rw [hm] at hSr
  obtain ⟨As, cS, hvS⟩ : ∃ A c, vS = .slice A m c := row_form hSr
  rw [hvS] at hB hSr
  have hm63 : m ≤ 9223372036854775807 := len63 hSr
  have HX := Lib.hid (And.intro hLe (And.intro hSe (And.intro hn hm)))
  obtain ⟨kl, hkl⟩ : ∃ kl, keep.length = kl := ⟨_, rfl⟩
  rw [hkl] at hk ⊢
  have HKL := Lib.hid hkl
  have hST : Blk w D #[.slice (some ⟨gL, 0, none⟩) n cL, .slice As m cS, vC, .bool off, .int .i64 cnt] 123 ∧ w.ownsRow 0 9 1 (.slice (some ⟨gL, 0, none⟩) n cL) n (txc (overK (keptI keep) 0 L (S.take 0))) ∧ w.ownsRow 0 141 2 (.slice As m cS) m (scells S) ∧ Lies w A (icells keep) ∧ Typed w A 3 ∧ Frm X w w := ⟨hB, by simpa [overK] using hL, hSr, hl, ht, Frm.refl X w⟩
  have HST := Lib.hid hST
  have x1 := hB.cell 1
  simp at x1
  clear hB hL hSr hl ht hLe hSe hn hm hvS hST hov hkl hgX hgd hmem hlt
  go_enter Tryz.func63, Tryz.ntmps63
  have mixed : Tryz.prog.follows Departure.mixedOrders = true := by kernel_rfl
  go_wp2
  clear x1
  go_loopw [11] (fun kv wr => ∃ k : Nat, k ≤ m ∧ kv = .int .i64 k ∧ Blk wr D #[.slice (some ⟨gL, 0, none⟩) n cL, .slice As m cS, vC, .bool off, .int .i64 cnt] 123 ∧ wr.ownsRow 0 9 1 (.slice (some ⟨gL, 0, none⟩) n cL) n (txc (overK (keptI keep) 0 L (S.take k))) ∧ wr.ownsRow 0 141 2 (.slice As m cS) m (scells S) ∧ Lies wr A (icells keep) ∧ Typed wr A 3 ∧ Frm X w wr) (fun kv _ => m - (intOf kv).toNat)
  case atStart => exact ⟨0, by omega, rfl, HST.out⟩
  case round =>
    obtain ⟨k, hkm, rfl, hB, hL, hSr, hl, ht, hF⟩ := hrel
    by_cases hlt : k < m
    · have hkl : k < S.length := by have := HX.out.2.2.2; omega
      obtain ⟨g, c', hA, s0, s1⟩ := since_at hSr HX.out.2.2.2 k hkl
      injection hA with hA1 _ hA3
      subst hA1 hA3
      have hq : S[k].1 < n := by
        have := (HG.out.wrote S[k] (by rw [HX.out.2.1]; exact List.getElem_mem hkl)).1
        rw [HX.out.1, HX.out.2.2.1] at this
        exact this
      have HOK := Lib.hid (show overK (keptI keep) 0 L (S.take (k + 1)) = if keptI keep k then (overK (keptI keep) 0 L (S.take k)).set S[k].1 S[k].2 else overK (keptI keep) 0 L (S.take k) by
        rw [HOV.out k, if_pos hkl]; simp [hkl])
      have HLN := Lib.hid (show (overK (keptI keep) 0 L (S.take k)).length = n by rw [overK_length, HX.out.2.2.1])
      obtain ⟨z, hz⟩ : ∃ z, S[k].1 = z := ⟨_, rfl⟩
      obtain ⟨bs, hbs⟩ : ∃ Y, S[k].2 = Y := ⟨_, rfl⟩
      obtain ⟨Y, hY⟩ : ∃ Y, mk bs = Y := ⟨_, rfl⟩
      rw [hz] at s0 hq
      rw [hbs, hY] at s1
      rw [hz, hbs] at HOK
      have HY := Lib.hid hY
      obtain ⟨L1, hL1⟩ : ∃ L1, overK (keptI keep) 0 L (S.take k) = L1 := ⟨_, rfl⟩
      rw [hL1] at hL HOK HLN
      obtain ⟨k1, hk1⟩ : ∃ k1, keptI keep k = k1 := ⟨_, rfl⟩
      rw [hk1] at HOK
      have hk1' := hk1
      unfold keptI at hk1'
      rw [HKL.out] at hk1'
      have HB := Lib.hid hB
      have HL := Lib.hid hL
      have HSr := Lib.hid hSr
      have HF := Lib.hid hF
      have HLI := Lib.hid hl
      have HTY := Lib.hid ht
      have k0 : (0 : Int) ≤ (k : Int) := by omega
      have kk1 : (k : Int) < (m : Int) := by omega
      have z0 : (0 : Int) ≤ (z : Int) := by omega
      have z1 : (z : Int) < (n : Int) := by omega
      -- what goes on where nothing is laid
      have HEND := Lib.hid (fun (hf : k1 = false) => (show Blk (wr.alloc (.cells #[.int .i64 z, .string Y] 141)) D #[.slice (some ⟨gL, 0, none⟩) n cL, .slice (some ⟨g, 0, none⟩) m cS, vC, .bool off, .int .i64 cnt] 123 ∧ (wr.alloc (.cells #[.int .i64 z, .string Y] 141)).ownsRow 0 9 1 (.slice (some ⟨gL, 0, none⟩) n cL) n (txc (overK (keptI keep) 0 L (S.take (k + 1)))) ∧ (wr.alloc (.cells #[.int .i64 z, .string Y] 141)).ownsRow 0 141 2 (.slice (some ⟨g, 0, none⟩) m cS) m (scells S) ∧ Lies (wr.alloc (.cells #[.int .i64 z, .string Y] 141)) A (icells keep) ∧ Typed (wr.alloc (.cells #[.int .i64 z, .string Y] 141)) A 3 ∧ Frm X w (wr.alloc (.cells #[.int .i64 z, .string Y] 141)) from
        ⟨HB.out.alloc _, by rw [HOK.out, hf]; exact World.ownsRow.alloc HL.out _, World.ownsRow.alloc HSr.out _, HLI.out.below (Nat.le_refl _) (below_alloc _ _), HTY.out.below (below_alloc _ _), HF.out.alloc _⟩))
      clear hB hL hSr hF hl ht hz hbs hY hL1 hk1
      by_cases hke : 0 < kl
      · have hke' : ¬ (kl = 0) := by omega
        obtain ⟨q, hqq⟩ : ∃ q, k % kl = q := ⟨_, rfl⟩
        have hql : q < kl := by rw [← hqq]; exact Nat.mod_lt _ hke
        have htm : ((k : Int)).tmod (kl : Int) = (q : Int) := by rw [← hqq]; rfl
        have hmd : (k : Int) % (kl : Int) = (q : Int) := by rw [← hqq]; rfl
        have hqk : q < keep.length := by rw [HKL.out]; exact hql
        obtain ⟨ga, oa, rfl, hga, hca⟩ := HLI.out (by simp [icells]; omega)
        have c0 := hca q _ (icells_at keep q hqk)
        obtain ⟨y, hy⟩ : ∃ y, keep[q] = y := ⟨_, rfl⟩
        obtain ⟨b, hb⟩ : ∃ b, bits .and .i64 y 1 = b := ⟨_, rfl⟩
        rw [hy] at c0
        have hd : keep.getD q 0 = y := by rw [List.getD_eq_getElem?_getD, List.getElem?_eq_getElem hqk, hy]; rfl
        rw [hqq, hd, hb] at hk1'
        have hde : decide (0 < kl) = true := by simpa using hke
        rw [hde, Bool.true_and] at hk1'
        have kp : (0 : Int) < (kl : Int) := by omega
        have q0 : (0 : Int) ≤ (q : Int) := by omega
        have q1 : (q : Int) < (kl : Int) := by omega
        clear hca hy hd hqq hde hqk hke hke' hql hlt hkl
        cases k1 with
        | true =>
          have hb1 : b = 1 := by simpa using hk1'
          clear HEND hk1'
          subst hb1
          go_wp2
          have hB1 := HB.out.alloc (.cells #[.int .i64 z, .string Y] 141)
          have hL1 := World.ownsRow.alloc HL.out (.cells #[.int .i64 z, .string Y] 141)
          have hS1 := World.ownsRow.alloc HSr.out (.cells #[.int .i64 z, .string Y] 141)
          have hl1 : Lies (wr.alloc (.cells #[.int .i64 z, .string Y] 141)) (some ⟨ga, oa, none⟩) (icells keep) := HLI.out.below (Nat.le_refl _) (below_alloc _ _)
          have ht1 : Typed (wr.alloc (.cells #[.int .i64 z, .string Y] 141)) (some ⟨ga, oa, none⟩) 3 := HTY.out.below (below_alloc _ _)
          have hF1 := (HF.out.alloc (.cells #[.int .i64 z, .string Y] 141))
          have hZ1 := Blk.new wr #[.int .i64 z, .string Y] 141
          obtain ⟨Z, hZ⟩ : ∃ Z, wr.heap.size = Z := ⟨_, rfl⟩
          rw [hZ] at hZ1
          simp only [hZ]
          clear hZ
          refine wp_region_held (S := fun w' => Blk w' D #[.slice (some ⟨gL, 0, none⟩) n cL, .slice (some ⟨g, 0, none⟩) m cS, vC, .bool off, .int .i64 cnt] 123 ∧ Blk w' Z #[.int .i64 z, .string Y] 141) mixed ?_
          change wpAnyH _ _ _ _ _ _ _ _ (wr.alloc (.cells #[.int .i64 z, .string Y] 141)).drew
          have hB2 : Blk (wr.alloc (.cells #[.int .i64 z, .string Y] 141)).drew D _ 123 := hB1
          have hL2 : (wr.alloc (.cells #[.int .i64 z, .string Y] 141)).drew.ownsRow 0 9 1 (.slice (some ⟨gL, 0, none⟩) n cL) n (txc L1) := hL1
          have hS2 : (wr.alloc (.cells #[.int .i64 z, .string Y] 141)).drew.ownsRow 0 141 2 (.slice (some ⟨g, 0, none⟩) m cS) m (scells S) := hS1
          have hZ2 : Blk (wr.alloc (.cells #[.int .i64 z, .string Y] 141)).drew Z _ 141 := hZ1
          have hl2 : Lies (wr.alloc (.cells #[.int .i64 z, .string Y] 141)).drew (some ⟨ga, oa, none⟩) (icells keep) := hl1
          have ht2 : Typed (wr.alloc (.cells #[.int .i64 z, .string Y] 141)).drew (some ⟨ga, oa, none⟩) 3 := ht1
          have hF2 : Frm X w (wr.alloc (.cells #[.int .i64 z, .string Y] 141)).drew := hF1.drew
          obtain ⟨W, hW⟩ : ∃ u, (wr.alloc (.cells #[.int .i64 z, .string Y] 141)).drew = u := ⟨_, rfl⟩
          rw [hW] at hB2 hL2 hS2 hZ2 hl2 ht2 hF2 ⊢
          clear hW hB1 hL1 hS1 hZ1 hl1 ht1 hF1 s0 s1 c0
          have hS0 := And.intro hB2 hZ2
          refine wpAnyH_take (i := 0) (v := .pointer (some ⟨D, 0, none⟩)) rfl (by kernel_rfl) (by kernel_rfl) (by kernel_rfl) (fun c a w h => h) (.inl ⟨by kernel_rfl, fun w' hS => ?_⟩) hS0 ?_
          · clear hS; go_simp
          try go_simp
          refine wpAnyH_take (i := 1) (v := .pointer (some ⟨D, 0, none⟩)) rfl (by kernel_rfl) (by kernel_rfl) (by kernel_rfl) (fun c a w h => h) (.inl ⟨by kernel_rfl, fun w' hS => ?_⟩) hS0 ?_
          · clear hS; go_simp
          try go_simp
          refine wpAnyH_take (i := 2) (v := .pointer (some ⟨D, 0, none⟩)) rfl (by kernel_rfl) (by kernel_rfl) (by kernel_rfl) (fun c a w h => h) (.inl ⟨by kernel_rfl, fun w' hS => ?_⟩) hS0 ?_
          · clear hS; go_simp
          try go_simp
          refine wpAnyH_take (i := 3) (v := .slice (some ⟨gL, 0, none⟩) n cL) rfl (by kernel_rfl) (by kernel_rfl) (by kernel_rfl) (fun c a w h => h) (.inl ⟨by kernel_rfl, fun w' hS => ?_⟩) hS0 ?_
          · have q0 := hS.1.cell 0; simp at q0; go_simp
          try go_simp
          refine wpAnyH_take (i := 4) (v := .pointer (some ⟨Z, 0, none⟩)) rfl (by kernel_rfl) (by kernel_rfl) (by kernel_rfl) (fun c a w h => h) (.inl ⟨by kernel_rfl, fun w' hS => ?_⟩) hS0 ?_
          · clear hS; go_simp
          try go_simp
          refine wpAnyH_take (i := 5) (v := .int .i64 z) rfl (by kernel_rfl) (by kernel_rfl) (by kernel_rfl) (fun c a w h => h) (.inl ⟨by kernel_rfl, fun w' hS => ?_⟩) hS0 ?_
          · have q0 := hS.2.cell 0; simp at q0; go_simp
          try go_simp
          refine wpAnyH_take (i := 6) (v := .pointer (some ⟨Z, 1, none⟩)) rfl (by kernel_rfl) (by kernel_rfl) (by kernel_rfl) (fun c a w h => h) (.inl ⟨by kernel_rfl, fun w' hS => ?_⟩) hS0 ?_
          · clear hS; go_simp
          try go_simp
          refine wpAnyH_take (i := 7) (v := .string Y) rfl (by kernel_rfl) (by kernel_rfl) (by kernel_rfl) (fun c a w h => h) (.inl ⟨by kernel_rfl, fun w' hS => ?_⟩) hS0 ?_
          · have q0 := hS.2.cell 1; simp at q0; go_simp
          try go_simp
          refine wpAnyH_take (i := 8) (v := .pointer (some ⟨gL, z, none⟩)) rfl (by kernel_rfl) (by kernel_rfl) (by kernel_rfl) (fun c a w h => h) (.inl ⟨by kernel_rfl, fun w' hS => ?_⟩) hS0 ?_
          · clear hS; go_simp
          try go_simp
          refine wpAnyH_all (rs := [9]) (by kernel_rfl) (by simp) ?_
          intro i hi
          simp only [List.mem_cons, List.not_mem_nil, or_false] at hi
          subst hi
          have r0 := hL2.cellAt z (by omega)
          have f0 := hL2.frozenAt z
          rw [txc_at _ z (by rw [HLN.out]; exact hq)] at r0
          unfold wpOp
          go_simp
          have hne : gL ≠ D := fun e => own_ne_blk hL2 hB2 (by decide) (by rw [e]; rfl)
          have hneZ : gL ≠ Z := fun e => own_ne_blk hL2 hZ2 (by decide) (by rw [e]; rfl)
          have hgr := grown_set W gL z (.string Y)
          have hB3 := hB2.grown hgr (by simpa using hne)
          have hZ3 := hZ2.grown hgr (by simpa using hneZ)
          have hL3 := (World.ownsRow.stored hL2 z (.string Y)).1
          have hS3 := hS2.kept hgr (by
            rcases row_ne_row hS2 hL2 (by decide) with e | e
            · exact .inl e
            · exact .inr e)
          have hlt3 := hl2.grown ht2 hgr (fun x hx => by
            obtain ⟨cs, fr, hc⟩ := row_blk hL2
            cases hx
            exact ⟨cs, 9, fr, hc, by decide⟩)
          have hF3 := hF2.setCell (p := ⟨gL, z, none⟩) (.inl HGX.out) (.string Y)
          have hL4 : (W.setCell ⟨gL, z, none⟩ (.string Y)).ownsRow 0 9 1 (.slice (some ⟨gL, 0, none⟩) n cL) n (txc (overK (keptI keep) 0 L (S.take (k + 1)))) := by
            rw [HOK.out]; simp only [if_true, txc_set, HY.out]; exact hL3
          have HFN := Lib.hid (And.intro hB3 (And.intro hL4 (And.intro hS3 (And.intro hlt3.1 (And.intro hlt3.2 hF3)))))
          first | refine .inl ⟨⟨hB3, hZ3⟩, ?_⟩ | refine ⟨⟨hB3, hZ3⟩, ?_⟩
          refine wpAnyH_done (by kernel_rfl) ?_ _
          clear hB2 hL2 hS2 hZ2 hF2 hS0 r0 f0 hne hneZ hgr hB3 hZ3 hL3 hS3 hF3 hL4 hlt3 hl2 ht2
          go_wp2
          go_roundw
          case rel => exact ⟨k + 1, by omega, by go_num, HFN.out⟩
          case measure => simp [intOf]; omega
        | false =>
          have hb1 : ¬ (b = 1) := by simpa using hk1'
          have hb2 : (b == 1) = false := by simpa using hk1'
          have HE := Lib.hid (HEND.out rfl)
          clear HEND HOK hk1'
          go_wp2
          go_roundw
          case rel => exact ⟨k + 1, by omega, by go_num, HE.out⟩
          case measure => simp [intOf]; omega
      · have hke' : kl = 0 := by omega
        have hkf : k1 = false := by rw [← hk1', hke']; rfl
        have HE := Lib.hid (HEND.out hkf)
        subst hke'
        clear HEND HOK hk1' hkf hkl
        go_wp2
        go_roundw
        case rel => exact ⟨k + 1, by omega, by go_num, HE.out⟩
        case measure => simp [intOf]; omega
    · obtain rfl : k = m := by omega
      have f1 := hB.frozen 1
      have f2 := hB.frozen 2
      have f3 := hB.frozen 3
      have x1 := hB.cell 1
      have x2 := hB.cell 2
      have x3 := hB.cell 3
      simp at x1 x2 x3
      have hB1 := ((hB.set 1 (.slice none 0 0)).set 2 (.pointer none)).set 3 (.bool true)
      simp at hB1
      have hL1 := own_set3' hL hB (by decide) 1 2 3 (.slice none 0 0) (.pointer none) (.bool true)
      have hF1 := ((hF.setCell (p := ⟨D, 1, none⟩) (.inl HMEM.out.1) (.slice none 0 0)).setCell (p := ⟨D, 2, none⟩) (.inl HMEM.out.1) (.pointer none)).setCell (p := ⟨D, 3, none⟩) (.inl HMEM.out.1) (.bool true)
      rw [List.take_of_length_le (by rw [HX.out.2.2.2]; exact Nat.le_refl _)] at hL1
      have hgd := HG.out
      have hln : (overK (keptI keep) 0 L S).length = n := by rw [overK_length, HX.out.2.2.1]
      have HFN := Lib.hid (show Dsk (((wr.setCell ⟨D, 1, none⟩ (.slice none 0 0)).setCell ⟨D, 2, none⟩ (.pointer none)).setCell ⟨D, 3, none⟩ (.bool true)) X D ⟨overK (keptI keep) 0 L S, [], none, true⟩ ∧ Frm X w (((wr.setCell ⟨D, 1, none⟩ (.slice none 0 0)).setCell ⟨D, 2, none⟩ (.pointer none)).setCell ⟨D, 3, none⟩ (.bool true)) from
        ⟨⟨⟨gL, cL, .slice none 0 0, .pointer none, cnt, by simp only [hln]; exact hB1, by simp only [hln]; exact hL1, World.ownsRow_nil _ _ _ _, rfl, HGX.out, fun g e => (by cases e)⟩,
          ⟨overK_good _ n S 0 L (fun x hx => hgd.lasts x (by rw [HX.out.1]; exact hx)) (fun x hx => by have := hgd.wrote x (by rw [HX.out.2.1]; exact hx); rwa [HX.out.1, HX.out.2.2.1] at this), fun x hx => (by cases hx), by simp only [hln]; have := hgd.small; rw [HX.out.1, HX.out.2.2.1] at this; exact this⟩, HMEM.out.1, fun x hx => by have := HMEM.out.2 x hx; have := hF1.size; omega⟩, hF1⟩)
      clear hB hL hSr hF hB1 hL1 hF1 hl ht hgd hln
      go_wp2
      go_end0
      exact ⟨rfl, HFN.out⟩
theorem fail_any (X : List Nat) (D : Nat) (d : DS) (A : Option Addr) (cap : Nat) (keep : List Int) (w : World) (h : Dsk w X D d) (hl : Lies w A (icells keep)) (ht : Typed w A 3) (hk : keep.length ≤ 9223372036854775807) :
    Calls Tryz.prog 63 #[.pointer (some ⟨D, 0, none⟩), .slice A keep.length cap] w fun e w' => e = .returned (.tuple #[]) ∧ Dsk w' X D (d.fail keep) ∧ Frm X w w' := by
  obtain ⟨gL, cL, vS, vC, cnt, hB, hL, hSr, _, hgX, _⟩ := h.blk
  exact fail_core X D d A cap keep w gL cL vS vC d.off cnt hB hL hSr hgX h.good h.mem h.lt hl ht hk
theorem step_off {d : DS} (h : d.off = true) : d.step = (7, d) := by unfold DS.step; rw [h]; rfl
theorem step_none {d : DS} (h : d.off = false) (hc : d.cut = none) : d.step = (0, d) := by unfold DS.step; rw [h, hc]; rfl
theorem step_last {d : DS} {keep : List Int} (h : d.off = false) (hc : d.cut = some (1, keep)) : d.step = (7, d.fail keep) := by unfold DS.step; rw [h, hc]; rfl
theorem step_more {d : DS} {n : Nat} {keep : List Int} (h : d.off = false) (hc : d.cut = some (n, keep)) (hn : n ≠ 1) : d.step = (0, ⟨d.L, d.S, some (n - 1, keep), false⟩) := by
  unfold DS.step; rw [h, hc]; simp [hn]
set_option maxHeartbeats 1000000 in
theorem step_any (X : List Nat) (D : Nat) (d : DS) (w : World) (h : Dsk w X D d) :
    Calls Tryz.prog 95 #[.pointer (some ⟨D, 0, none⟩)] w fun e w' => e = .returned (.int .i64 (d.step.1 : Nat)) ∧ Dsk w' X D d.step.2 ∧ Frm X w w' := by
  obtain ⟨gL, cL, vS, vC, cnt, hB, hL, hSr, hC, hgX, hvX⟩ := h.blk
  have x2 := hB.cell 2
  have x3 := hB.cell 3
  have x4 := hB.cell 4
  have f4 := hB.frozen 4
  simp at x2 x3 x4
  have HD := Lib.hid h
  have HB := Lib.hid hB
  have HL := Lib.hid hL
  have HS := Lib.hid hSr
  have HC := Lib.hid hC
  have HG := Lib.hid hgX
  have HV := Lib.hid hvX
  cases ho : d.off with
  | true =>
    rw [step_off ho]
    rw [ho] at x3
    clear h hB hL hSr hC hgX hvX f4 x4 x2 ho
    go_enter Tryz.func95, Tryz.ntmps95
    go_wp2
    go_ret
    exact ⟨rfl, HD.out, Frm.refl _ _⟩
  | false =>
    rw [ho] at x3
    cases hc : d.cut with
    | none =>
      rw [step_none ho hc]
      rw [hc] at hC
      obtain rfl : vC = .pointer none := hC
      have KA := add_any ⟨D, 4, none⟩ cnt w x4 f4
      clear h hB hL hSr hgX hvX f4 x4 hc
      go_enter Tryz.func95, Tryz.ntmps95
      go_wp2_with (go_at_call 121; refine KA.mono ?_; rintro e w1 ⟨⟨v, rfl⟩, rfl⟩)
      go_wp2
      go_ret
      have hs := HB.out.set 4 (.int .i64 (wrap64 (cnt + 1)))
      simp at hs
      exact ⟨rfl, ⟨⟨gL, cL, vS, .pointer none, _, hs, own_set HL.out HB.out (by decide) 4 _, own_set HS.out HB.out (by decide) 4 _, HC.out.set HB.out (by decide) (by decide) 4 _, HG.out, HV.out⟩, HD.out.good, HD.out.mem, fun x hx => by simpa using HD.out.lt x hx⟩, (Frm.refl _ w).setCell (p := ⟨D, 4, none⟩) (.inl HD.out.mem) _⟩
    | some p =>
      obtain ⟨n, keep⟩ := p
      rw [hc] at hC
      obtain ⟨n1, n2, k1, C, A, c, rfl, hCX, hCB, hKL, hKT, hKX⟩ := hC
      have y0 := hCB.cell 0
      have y1 := hCB.cell 1
      have g0 := hCB.frozen 0
      simp at y0 y1
      have hCD : C ≠ D := fun e => by
        subst e
        unfold Blk at hB hCB
        rw [hB] at hCB
        simp at hCB
      obtain ⟨u, hu⟩ : ∃ u : Value, .int .i64 ((n - 1 : Nat) : Int) = u := ⟨_, rfl⟩
      -- behind the store
      have hB1 : Blk (w.setCell ⟨C, 0, none⟩ u) D _ 123 := (Below.heap_setCell w ⟨C, 0, none⟩ u D (fun e => hCD e.symm)).trans hB
      have hCB1 := hCB.set 0 u
      have hL1 := own_set hL hCB (by decide) 0 u
      have hS1 := own_set hSr hCB (by decide) 0 u
      have hKLT := hKL.grown hKT (grown_set w C 0 u) (fun x hx => by cases hx; exact ⟨_, _, _, hCB, by decide⟩)
      have hF1 := (Frm.refl X w).setCell (p := ⟨C, 0, none⟩) (.inl hCX) u
      have hlt1 : ∀ x ∈ X, x < (w.setCell ⟨C, 0, none⟩ u).heap.size := fun x hx => by simpa using HD.out.lt x hx
      by_cases hn1 : n = 1
      · subst hn1
        rw [step_last ho hc]
        have KF := fail_core X D d A c keep (w.setCell ⟨C, 0, none⟩ u) gL cL vS (.pointer (some ⟨C, 0, none⟩)) false cnt (by simpa [ho] using hB1) hL1 hS1 hgX h.good h.mem hlt1 hKLT.1 hKLT.2 k1
        obtain ⟨kl, hkl⟩ : ∃ k, keep.length = k := ⟨_, rfl⟩
        rw [hkl] at KF y1
        have hu0 : u = .int .i64 0 := by rw [← hu]; rfl
        subst hu0
        have HF1 := Lib.hid hF1
        clear h hB hL hSr hgX hvX f4 x4 hc hCB hKL hKT hKX hB1 hCB1 hL1 hS1 hKLT hF1 hlt1 hu hkl n1 n2 k1 hCX
        go_enter Tryz.func95, Tryz.ntmps95
        go_wp2_with (go_at_call 63; refine KF.mono ?_; rintro e w1 ⟨rfl, hD1, hF1⟩)
        go_wp2
        go_ret
        exact ⟨rfl, hD1, HF1.out.trans hF1 (fun y hy => .inl hy)⟩
      · rw [step_more ho hc hn1]
        have hu1 : u = .int .i64 ((n : Int) - 1) := by rw [← hu]; congr 1; omega
        subst hu1
        have a4 := hB1.cell 4
        have b4 := hB1.frozen 4
        simp at a4
        have KA := add_any ⟨D, 4, none⟩ cnt _ a4 b4
        have hB2 := hB1.set 4 (.int .i64 (wrap64 (cnt + 1)))
        simp at hB2
        have hC2 : Blk _ C _ 115 := (Below.heap_setCell (w.setCell ⟨C, 0, none⟩ (.int .i64 ((n : Int) - 1))) ⟨D, 4, none⟩ (.int .i64 (wrap64 (cnt + 1))) C hCD).trans hCB1
        have hKLT2 := hKLT.1.grown hKLT.2 (grown_set _ D 4 (.int .i64 (wrap64 (cnt + 1)))) (fun x hx => by cases hx; exact ⟨_, _, _, hB1, by decide⟩)
        have hF2 := hF1.setCell (p := ⟨D, 4, none⟩) (.inl h.mem) (.int .i64 (wrap64 (cnt + 1)))
        have hL2 := own_set hL1 hB1 (by decide) 4 (.int .i64 (wrap64 (cnt + 1)))
        have hS2 := own_set hS1 hB1 (by decide) 4 (.int .i64 (wrap64 (cnt + 1)))
        have HFN := Lib.hid (show Dsk ((w.setCell ⟨C, 0, none⟩ (.int .i64 ((n : Int) - 1))).setCell ⟨D, 4, none⟩ (.int .i64 (wrap64 (cnt + 1)))) X D ⟨d.L, d.S, some (n - 1, keep), false⟩ ∧ Frm X w ((w.setCell ⟨C, 0, none⟩ (.int .i64 ((n : Int) - 1))).setCell ⟨D, 4, none⟩ (.int .i64 (wrap64 (cnt + 1)))) from
          ⟨⟨⟨gL, cL, vS, _, _, by simpa [ho] using hB2, hL2, hS2, ⟨by omega, by omega, k1, C, A, c, rfl, hCX, by
            have : ((n - 1 : Nat) : Int) = (n : Int) - 1 := by omega
            rw [this]; simpa using hC2, hKLT2.1, hKLT2.2, hKX⟩, hgX, hvX⟩, ⟨h.good.lasts, h.good.wrote, h.good.small⟩, h.mem, fun x hx => by simpa using hlt1 x hx⟩, hF2⟩)
        have n1' : (1 : Int) ≤ (n : Int) := by omega
        have n2' : (n : Int) ≤ 9223372036854775807 := by omega
        have hne : ¬ ((n : Int) - 1 = 0) := by omega
        have hnb : ((n : Int) - 1 == 0) = false := by simpa using hne
        clear h hB hL hSr hgX hvX f4 x4 hc hCB hKL hKT hKX hB1 hCB1 hL1 hS1 hKLT hF1 hlt1 hu hCX a4 b4 hB2 hC2 hKLT2 hF2 hL2 hS2 y1 n1 n2 k1 hn1
        go_enter Tryz.func95, Tryz.ntmps95
        go_wp2_with (go_at_call 121; refine KA.mono ?_; rintro e w1 ⟨⟨v, rfl⟩, rfl⟩)
        go_wp2
        go_ret
        exact ⟨rfl, HFN.out⟩
theorem on_any (X : List Nat) (D : Nat) (d : DS) (w : World) (h : Dsk w X D d) :
    Calls Tryz.prog 32 #[.pointer (some ⟨D, 0, none⟩)] w fun e w' => e = .returned (.tuple #[]) ∧ Dsk w' X D ⟨d.L, d.S, none, false⟩ ∧ Frm X w w' := by
  obtain ⟨gL, cL, vS, vC, cnt, hB, hL, hSr, hC, hgX, hvX⟩ := h.blk
  have x2 := hB.cell 2
  have x3 := hB.cell 3
  have f2 := hB.frozen 2
  have f3 := hB.frozen 3
  simp at x2 x3
  have hB1 := (hB.set 3 (.bool false)).set 2 (.pointer none)
  simp at hB1
  have hL1 := own_set (own_set hL hB (by decide) 3 (.bool false)) (hB.set 3 (.bool false)) (by decide) 2 (.pointer none)
  have hS1 := own_set (own_set hSr hB (by decide) 3 (.bool false)) (hB.set 3 (.bool false)) (by decide) 2 (.pointer none)
  have hF := ((Frm.refl X w).setCell (p := ⟨D, 3, none⟩) (.inl h.mem) (.bool false)).setCell (p := ⟨D, 2, none⟩) (.inl h.mem) (.pointer none)
  have HFN := Lib.hid (show Dsk ((w.setCell ⟨D, 3, none⟩ (.bool false)).setCell ⟨D, 2, none⟩ (.pointer none)) X D ⟨d.L, d.S, none, false⟩ ∧ Frm X w ((w.setCell ⟨D, 3, none⟩ (.bool false)).setCell ⟨D, 2, none⟩ (.pointer none)) from
    ⟨⟨⟨gL, cL, vS, .pointer none, cnt, hB1, hL1, hS1, rfl, hgX, hvX⟩, ⟨h.good.lasts, h.good.wrote, h.good.small⟩, h.mem, fun x hx => by simpa using h.lt x hx⟩, hF⟩)
  clear h hB hL hSr hC hgX hvX hB1 hL1 hS1 hF
  go_enter Tryz.func32, Tryz.ntmps32
  go_wp2
  go_end0
  exact ⟨rfl, HFN.out⟩
theorem crash_any (X : List Nat) (D : Nat) (d : DS) (A : Option Addr) (cap : Nat) (keep : List Int) (w : World) (h : Dsk w X D d) (hl : Lies w A (icells keep)) (ht : Typed w A 3) (hk : keep.length ≤ 9223372036854775807) :
    Calls Tryz.prog 28 #[.pointer (some ⟨D, 0, none⟩), .slice A keep.length cap] w fun e w' => e = .returned (.tuple #[]) ∧ Dsk w' X D ⟨(d.fail keep).L, [], none, false⟩ ∧ Frm X w w' := by
  have KF := fail_any X D d A cap keep w h hl ht hk
  clear h hl ht hk
  go_enter Tryz.func28, Tryz.ntmps28
  go_upto_region 2 with (go_at_call 63; refine KF.mono ?_; rintro e w1 ⟨rfl, hD, hF⟩)
  obtain ⟨gL, cL, vS, vC, cnt, hB, hL, hSr, hC, hgX, hvX⟩ := hD.blk
  have x3 := hB.cell 3
  have f3 := hB.frozen 3
  simp at x3
  have hB1 := hB.set 3 (.bool false)
  simp at hB1
  have HFN := Lib.hid (show Dsk (w1.setCell ⟨D, 3, none⟩ (.bool false)) X D ⟨(d.fail keep).L, [], none, false⟩ ∧ Frm X w (w1.setCell ⟨D, 3, none⟩ (.bool false)) from
    ⟨⟨⟨gL, cL, vS, vC, cnt, hB1, own_set hL hB (by decide) 3 (.bool false), own_set hSr hB (by decide) 3 (.bool false), hC, hgX, hvX⟩, ⟨hD.good.lasts, hD.good.wrote, hD.good.small⟩, hD.mem, fun x hx => by simpa using hD.lt x hx⟩,
     (hF.trans (Frm.refl X w1) (fun y hy => .inl hy)).setCell (p := ⟨D, 3, none⟩) (.inl hD.mem) (.bool false)⟩)
  clear KF hB hL hSr hC hgX hvX hB1 hD hF
  go_wp2
  go_end0
  exact ⟨rfl, HFN.out⟩
end Go.Proofs.YtcmcdddnckcpcaaGreatDoor
