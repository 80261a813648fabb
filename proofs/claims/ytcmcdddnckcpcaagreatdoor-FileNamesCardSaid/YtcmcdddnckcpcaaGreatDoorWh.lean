/- wal.head, walked: the head that says changes. -/
import Derived.Test.YtcmcdddnckcpcaaGreatDoorNj
import Derived.Test.YtcmcdddnckcpcaaGreatDoorCr
import Derived.Test.YtcmcdddnckcpcaaGreatDoorFa
import Derived.Test.YtcmcdddnckcpcaaGreatDoorDy
namespace Go.Proofs.YtcmcdddnckcpcaaGreatDoor
open Go.RowKit
/-- A sum's four bytes. -/
def sumB (c : Int) : Bs := (List.range 4).map fun i => UInt8.ofNat (c.toNat / 256 ^ i)
def listB (x : List (Nat × Bs)) : Bs := x.flatMap fun c => twoB c.1
def imgB (x : List (Nat × Bs)) : Bs := x.flatMap fun c => fullB c.2
def sayB (x : List (Nat × Bs)) : Bs := [87, 76, UInt8.ofNat x.length] ++ listB x
/-- The head that says changes. -/
def headW (x : List (Nat × Bs)) : Bs := sayB x ++ sumB (crcI (sayB x ++ imgB x))
theorem listB_length (x : List (Nat × Bs)) : (listB x).length = x.length * 2 := by
  induction x with
  | nil => rfl
  | cons a x ih => unfold listB at ih ⊢; rw [List.flatMap_cons, List.length_append, ih]; simp [twoB]; omega
theorem imgB_length (x : List (Nat × Bs)) (h : ∀ c ∈ x, c.2.length ≤ 512) : (imgB x).length = x.length * 512 := by
  induction x with
  | nil => rfl
  | cons a x ih =>
    unfold imgB at ih ⊢
    rw [List.flatMap_cons, List.length_append, ih (fun c hc => h c (List.mem_cons_of_mem _ hc)), full_length _ (h a (List.mem_cons_self ..)), List.length_cons]; omega
theorem sayB_length (x : List (Nat × Bs)) : (sayB x).length = 3 + x.length * 2 := by unfold sayB; rw [List.length_append, listB_length]; simp
theorem sumB_length (c : Int) : (sumB c).length = 4 := by simp [sumB]
theorem headW_length (x : List (Nat × Bs)) : (headW x).length = 7 + x.length * 2 := by unfold headW; rw [List.length_append, sayB_length, sumB_length]; omega
theorem crcI_bd (s : Bs) : 0 ≤ crcI s ∧ crcI s < 4294967296 := by
  unfold crcI bits
  show 0 ≤ IntKind.u32.wrap _ ∧ IntKind.u32.wrap _ < 4294967296
  simp [IntKind.wrap, IntKind.bits, IntKind.signed]
  omega
theorem listB_snoc (x : List (Nat × Bs)) (c : Nat × Bs) : listB (x ++ [c]) = listB x ++ twoB c.1 := by simp [listB]
theorem imgB_snoc (x : List (Nat × Bs)) (c : Nat × Bs) : imgB (x ++ [c]) = imgB x ++ fullB c.2 := by simp [imgB]
/-- A byte made of a number. -/
theorem conv_one (w : World) (c : UInt8) (v : Int) (hv : v = (c.toNat : Int)) : (convert 62 9 (.slice (some ⟨w.heap.size, 0, none⟩) 1 1)).run Tryz.prog (w.alloc (.cells #[.int .u8 v] 5)) = .ok (.string (mk [c])) (w.alloc (.cells #[.int .u8 v] 5)) :=
  conv_blk (l := [c]) (Blk.new w #[.int .u8 v] 5) (fun j hj => by
    have : j = 0 := by simpa using hj
    subst this; simp [hv])
theorem conv_two (w : World) (n : Nat) : (convert 62 9 (.slice (some ⟨w.heap.size, 0, none⟩) 2 2)).run Tryz.prog (w.alloc (.cells #[.int .u8 ((n : Int) / 256 % 256), .int .u8 ((n : Int) % 256)] 5)) = .ok (.string (mk (twoB n))) (w.alloc (.cells #[.int .u8 ((n : Int) / 256 % 256), .int .u8 ((n : Int) % 256)] 5)) :=
  conv_blk (l := twoB n) (Blk.new w #[.int .u8 ((n : Int) / 256 % 256), .int .u8 ((n : Int) % 256)] 5) (fun j hj => by
    have h2 : j < 2 := hj
    match j, h2 with
    | 0, _ => simp [twoB]
    | 1, _ => simp [twoB])
set_option maxRecDepth 100000 in
set_option maxHeartbeats 4000000 in
theorem whead_any (A : Option Addr) (cap : Nat) (x : List (Nat × Bs)) (w : World) (hA : Lies w A (scells x)) (hn : x.length ≤ 64) (hx : ∀ c ∈ x, c.1 ≤ 1000000 ∧ c.2.length ≤ 512) (hT : TB w) (hw : 0 < w.heap.size) :
    Calls Tryz.prog 117 #[.slice A x.length cap] w fun e w' => e = .returned (.string (mk (headW x))) ∧ Below w.heap.size w w' := by
  have HIMG := Lib.hid (imgB_length x (fun c hc => (hx c hc).2))
  have HLI := Lib.hid (listB_length x)
  have HSB := Lib.hid (show sayB x = [87, 76, UInt8.ofNat x.length] ++ listB x from rfl)
  have HHD := Lib.hid (show headW x = sayB x ++ sumB (crcI (sayB x ++ imgB x)) from rfl)
  obtain ⟨n, hl⟩ : ∃ n, x.length = n := ⟨_, rfl⟩
  rw [hl] at hn HIMG HLI HSB ⊢
  have HL := Lib.hid hA
  have HN := Lib.hid hl
  have HX := Lib.hid hx
  have HT := Lib.hid hT
  have hcv1 := conv_one w (UInt8.ofNat n) (n : Int) (by rw [← byte_int n]; omega)
  have hsum1 := run_sum [87, 76] [UInt8.ofNat n] (by simp)
  rw [show mk [87, 76] = ⟨#[87, 76]⟩ from rfl, show ([87, 76] ++ [UInt8.ofNat n] : Bs) = [87, 76, UInt8.ofNat n] from rfl] at hsum1
  obtain ⟨B1, hB1⟩ : ∃ q, mk [UInt8.ofNat n] = q := ⟨_, rfl⟩
  rw [hB1] at hcv1 hsum1
  obtain ⟨P, hP⟩ : ∃ q : Bs, [87, 76, UInt8.ofNat n] = q := ⟨_, rfl⟩
  rw [hP] at hsum1 HSB
  have HPL := Lib.hid (show P.length = 3 by rw [← hP]; rfl)
  obtain ⟨P1, hP1⟩ : ∃ q, mk P = q := ⟨_, rfl⟩
  rw [hP1] at hsum1
  have HP1 := Lib.hid hP1
  obtain ⟨R, hR⟩ : ∃ q, mk (headW x) = q := ⟨_, rfl⟩
  rw [hR]
  have HR := Lib.hid hR
  have n0 : (0 : Int) ≤ (n : Int) := by omega
  have n1 : (n : Int) ≤ 64 := by omega
  clear hA hl hx hT hB1 hP hP1 hR
  have mixed : Tryz.prog.follows Departure.mixedOrders = true := by kernel_rfl
  go_enter Tryz.func117, Tryz.ntmps117
  go_wp2
  have HB0 := Lib.hid (below_alloc w (.cells #[.int .u8 (n : Int)] 5))
  clear hcv1 hsum1
  go_loopw [3, 19] (fun sv i wr => ∃ k : Nat, k ≤ n ∧ i = .int .i64 k ∧ sv = .string (mk (P ++ listB (x.take k))) ∧ Below w.heap.size w wr) (fun _ i _ => n - (intOf i).toNat)
  case atStart => exact ⟨0, Nat.zero_le _, rfl, by simp [listB, HP1.out], HB0.out⟩
  case round =>
    obtain ⟨k, hk, rfl, rfl, hb⟩ := hrel
    have hsz := hb.size
    by_cases hlt : k < n
    · have hkl : k < x.length := by rw [HN.out]; exact hlt
      obtain ⟨g, off, rfl, hgl, hcs⟩ := HL.out (by rw [scells_length]; omega)
      obtain ⟨s0, s1⟩ := scells_at x k hkl
      have d0 := (hb.cell (p := ⟨g, off + k * 2, none⟩) hgl).trans (hcs _ _ s0)
      have d1 := (hb.cell (p := ⟨g, off + (k * 2 + 1), none⟩) hgl).trans (hcs _ _ s1)
      have hq := (HX.out x[k] (List.getElem_mem hkl)).1
      have hsn : P ++ listB (x.take (k + 1)) = (P ++ listB (x.take k)) ++ twoB x[k].1 := by
        rw [List.take_succ_eq_append_getElem hkl, listB_snoc, List.append_assoc]
      have hln : (P ++ listB (x.take k)).length ≤ 1000 := by rw [List.length_append, HPL.out, listB_length, List.length_take]; omega
      obtain ⟨z, hz⟩ : ∃ z, x[k].1 = z := ⟨_, rfl⟩
      obtain ⟨Y, hY⟩ : ∃ z, mk x[k].2 = z := ⟨_, rfl⟩
      rw [hz] at d0 hq hsn
      rw [hY, ← Nat.add_assoc] at d1
      have hsum := run_sum (P ++ listB (x.take k)) (twoB z) (by simp [twoB] at hln ⊢; omega)
      rw [← hsn] at hsum
      have hcv := conv_two (wr.alloc (.cells #[.int .i64 z, .string Y] 156)) z
      rw [World.size_alloc] at hcv
      obtain ⟨S0, hS0⟩ : ∃ q, mk (P ++ listB (x.take k)) = q := ⟨_, rfl⟩
      obtain ⟨S1, hS1⟩ : ∃ q, mk (twoB z) = q := ⟨_, rfl⟩
      obtain ⟨S2, hS2⟩ : ∃ q, mk (P ++ listB (x.take (k + 1))) = q := ⟨_, rfl⟩
      rw [hS0, hS1, hS2] at hsum
      rw [hS1] at hcv
      rw [hS0]
      have HS2 := Lib.hid hS2
      have HB := Lib.hid hb
      have k0 : (0 : Int) ≤ (k : Int) := by omega
      have k1 : (k : Int) < (n : Int) := by omega
      have z0 : (0 : Int) ≤ (z : Int) := by omega
      have z1 : (z : Int) ≤ 1000000 := by omega
      clear hb hcs s0 s1 hsn hln hz hY hS0 hS1 hS2 hkl
      go_wp2
      go_roundw
      case rel => exact ⟨k + 1, by omega, by go_num, by rw [HS2.out], (HB.out.alloc hsz _).alloc (by simp; omega) _⟩
      case measure => simp [intOf]; omega
    · obtain rfl : n = k := by omega
      rw [List.take_of_length_le (by rw [HN.out]; exact Nat.le_refl _), ← HSB.out]
      have HSL := Lib.hid (show (sayB x).length ≤ 1000 by rw [sayB_length, HN.out]; omega)
      have zs : (mk (sayB x)).size = (sayB x).length := mk_size _
      obtain ⟨S, hS⟩ : ∃ q, sayB x = q := ⟨_, rfl⟩
      rw [hS] at HSL zs HHD
      rw [hS]
      obtain ⟨S0, hS0⟩ : ∃ q, mk S = q := ⟨_, rfl⟩
      rw [hS0] at zs
      rw [hS0]
      have HS0 := Lib.hid hS0
      have hb1 := hb.alloc hsz (.cells #[.pointer none, .slice none 0 0] 93)
      have hbu0 := Lib.fresh_isBuilder 93 5 wr
      obtain ⟨Z, hZ⟩ : ∃ Z, wr.heap.size = Z := ⟨_, rfl⟩
      have hz1 : (wr.alloc (.cells #[.pointer none, .slice none 0 0] 93)).heap.size = Z + 1 := by simp [hZ]
      rw [hZ] at hbu0 hsz
      have KW := bwrite_any Z Z [] S0 (wr.alloc (.cells #[.pointer none, .slice none 0 0] 93)) hbu0 (by have := HSL.out; simp; omega) (by omega)
      have HSC := Lib.hid (show Lib.strCells S0 = Lib.byteCells S by rw [← hS0]; simp [Lib.strCells, Lib.byteCells, mk_data])
      rw [List.nil_append, HSC.out] at KW
      have HB1 := Lib.hid hb1
      have HZ1 := Lib.hid hz1
      have HZ := Lib.hid hZ
      clear HSB hS hS0 hb hb1 hbu0 hz1
      clear hZ
      go_wp2_with (rw [HZ.out]; go_at_call 45; refine KW.mono ?_; rintro e w1 ⟨rfl, hbu1, hb2, _⟩)
      have hb3 := HB1.out.trans (hb2.mono hsz) 
      have HB3 := Lib.hid hb3
      have HBU := Lib.hid hbu1
      clear hbu1 hb2 hb3 KW
      go_loopw [39] (fun i wr2 => ∃ k : Nat, k ≤ n ∧ i = .int .i64 k ∧ Lib.IsBuilder 93 5 Z Z (Lib.byteCells (S ++ imgB (x.take k))) wr2 ∧ Below w.heap.size w wr2) (fun i _ => n - (intOf i).toNat)
      case atStart => exact ⟨0, Nat.zero_le _, rfl, .inr (by simpa [imgB] using HBU.out), HB3.out⟩
      case round =>
        obtain ⟨k, hk, rfl, hbu, hb⟩ := hrel
        have hsz2 := hb.size
        by_cases hlt2 : k < n
        · have hkl : k < x.length := by rw [HN.out]; exact hlt2
          obtain ⟨g, off, rfl, hgl, hcs⟩ := HL.out (by rw [scells_length]; omega)
          obtain ⟨s0, s1⟩ := scells_at x k hkl
          have d0 := (hb.cell (p := ⟨g, off + k * 2, none⟩) hgl).trans (hcs _ _ s0)
          have d1 := (hb.cell (p := ⟨g, off + (k * 2 + 1), none⟩) hgl).trans (hcs _ _ s1)
          have hq := (HX.out x[k] (List.getElem_mem hkl)).2
          have hsn : S ++ imgB (x.take (k + 1)) = (S ++ imgB (x.take k)) ++ fullB x[k].2 := by
            rw [List.take_succ_eq_append_getElem hkl, imgB_snoc, List.append_assoc]
          have hln : (S ++ imgB (x.take k)).length ≤ 100000 := by
            have h1 : (imgB (x.take k)).length = k * 512 := by
              rw [imgB_length _ (fun c hc => (HX.out c (List.mem_of_mem_take hc)).2), List.length_take]
              rw [HN.out]; omega
            rw [List.length_append, h1]; have := HSL.out; omega
          have hfl : (fullB x[k].2).length = 512 := full_length _ hq
          obtain ⟨z, hz⟩ : ∃ z, x[k].1 = z := ⟨_, rfl⟩
          obtain ⟨d, hd⟩ : ∃ z, x[k].2 = z := ⟨_, rfl⟩
          rw [hz] at d0
          rw [hd, ← Nat.add_assoc] at d1
          rw [hd] at hq hsn hfl
          have hsum := run_sum d (List.replicate (512 - d.length) 0) (by simp; omega)
          rw [show d ++ List.replicate (512 - d.length) 0 = fullB d from rfl] at hsum
          have KN := fun w => noughts_any (512 - d.length) (by omega) w
          rw [show ((512 - d.length : Nat) : Int) = 512 - (d.length : Int) by omega] at KN
          obtain ⟨T, hT⟩ : ∃ q, S ++ imgB (x.take k) = q := ⟨_, rfl⟩
          rw [hT] at hbu hsn hln
          have zd : (mk d).size = d.length := mk_size d
          have zf : (mk (fullB d)).size = 512 := by rw [mk_size, hfl]
          obtain ⟨F, hF⟩ : ∃ q, mk (fullB d) = q := ⟨_, rfl⟩
          obtain ⟨N, hN⟩ : ∃ q, mk (List.replicate (512 - d.length) 0) = q := ⟨_, rfl⟩
          obtain ⟨Y, hY⟩ : ∃ q, mk d = q := ⟨_, rfl⟩
          obtain ⟨m, hm⟩ : ∃ q, d.length = q := ⟨_, rfl⟩
          rw [hF, hN, hY] at hsum
          rw [hY, hm] at zd
          rw [hN, hm] at KN
          rw [hY] at d1
          rw [hm] at hq
          rw [hF] at zf
          have KW := fun (w4 : World) (h4 : Below wr.heap.size wr w4) => bwrite_any Z Z (Lib.byteCells T) F w4 (isb_below hbu h4) (by rw [zf]; simp [Lib.byteCells]; omega) (Nat.le_trans (by rcases hbu with h | h <;> exact Nat.le_of_lt h.lt) h4.size)
          have HFC := Lib.hid (show Lib.byteCells T ++ Lib.strCells F = Lib.byteCells (S ++ imgB (x.take (k + 1))) by
            rw [hsn, ← hF]; simp [Lib.byteCells, Lib.strCells, mk_data])
          have HZL := Lib.hid (show Z < wr.heap.size from by rcases hbu with h | h <;> exact h.lt)
          have HB := Lib.hid hb
          have HZF := Lib.hid zf
          have k0 : (0 : Int) ≤ (k : Int) := by omega
          have k1 : (k : Int) < (n : Int) := by omega
          have m0 : (0 : Int) ≤ (m : Int) := by omega
          have m1 : (m : Int) ≤ 512 := by omega
          clear hb hcs s0 s1 hsn hln hz hd hF hN hY hm hT hfl hkl hbu zf
          go_wp2
          have hZ1 := Blk.new wr #[.int .i64 z, .string Y] 156
          have hA1 := below_alloc wr (.cells #[.int .i64 z, .string Y] 156)
          obtain ⟨V, hV⟩ : ∃ V, wr.heap.size = V := ⟨_, rfl⟩
          rw [hV] at hZ1
          simp only [hV]
          have hwrp : IntKind.i64.wrap (512 - (m : Int)) = 512 - (m : Int) := by rw [Go.IntWalk.i64_left, Go.IntWalk.wrap64_in _ (by omega)]
          refine wp_region_held (S := fun w' => Blk w' V #[.int .i64 z, .string Y] 156) mixed ?_
          change wpAnyH _ _ _ _ _ _ _ _ (wr.alloc (.cells #[.int .i64 z, .string Y] 156)).drew
          have hZ2 : Blk (wr.alloc (.cells #[.int .i64 z, .string Y] 156)).drew V _ 156 := hZ1
          have hA2 : Below wr.heap.size wr (wr.alloc (.cells #[.int .i64 z, .string Y] 156)).drew := hA1.drew
          obtain ⟨W, hW⟩ : ∃ u, (wr.alloc (.cells #[.int .i64 z, .string Y] 156)).drew = u := ⟨_, rfl⟩
          rw [hW] at hZ2 hA2 ⊢
          have HV := Lib.hid hV
          clear hW hZ1 hA1 d0 d1 hV
          refine wpAnyH_take (i := 0) (v := .pointer (some ⟨V, 1, none⟩)) rfl (by kernel_rfl) (by kernel_rfl) (by kernel_rfl) (fun c a w h => h) (.inl ⟨by kernel_rfl, fun w' hS => ?_⟩) hZ2 ?_
          · clear hS; go_simp
          try go_simp
          refine wpAnyH_take (i := 1) (v := .string Y) rfl (by kernel_rfl) (by kernel_rfl) (by kernel_rfl) (fun c a w h => h) (.inl ⟨by kernel_rfl, fun w' hS => ?_⟩) hZ2 ?_
          · have q0 := hS.cell 1; simp at q0; go_simp
          try go_simp
          refine wpAnyH_take (i := 2) (v := .pointer (some ⟨V, 1, none⟩)) rfl (by kernel_rfl) (by kernel_rfl) (by kernel_rfl) (fun c a w h => h) (.inl ⟨by kernel_rfl, fun w' hS => ?_⟩) hZ2 ?_
          · clear hS; go_simp
          try go_simp
          refine wpAnyH_take (i := 3) (v := .string Y) rfl (by kernel_rfl) (by kernel_rfl) (by kernel_rfl) (fun c a w h => h) (.inl ⟨by kernel_rfl, fun w' hS => ?_⟩) hZ2 ?_
          · have q0 := hS.cell 1; simp at q0; go_simp
          try go_simp
          refine wpAnyH_take (i := 4) (v := .int .i64 (m : Int)) rfl (by kernel_rfl) (by kernel_rfl) (by kernel_rfl) (fun c a w h => h) (.inl ⟨by kernel_rfl, fun w' hS => ?_⟩) hZ2 ?_
          · clear hS; go_simp
          try go_simp
          refine wpAnyH_take (i := 5) (v := .int .i64 (512 - (m : Int))) rfl (by kernel_rfl) (by kernel_rfl) (by kernel_rfl) (fun c a w h => h) (.inl ⟨by kernel_rfl, fun w' hS => ?_⟩) hZ2 ?_
          · clear hS; go_simp
          try go_simp
          refine wpAnyH_all (rs := [6]) (by kernel_rfl) (by simp) ?_
          intro i hi
          simp only [List.mem_cons, List.not_mem_nil, or_false] at hi
          subst hi
          unfold wpOp
          go_simp
          refine .inl ?_
          go_at_call 103
          refine (KN _).mono ?_
          rintro e W1 ⟨rfl, hb1⟩
          have hZ3 := hZ2.below hb1
          have hA3 := hA2.trans (hb1.mono (by have := hA2.size; omega))
          refine ⟨hZ3, ?_⟩
          try go_simp
          refine wpAnyH_take (i := 7) (v := .string F) rfl (by kernel_rfl) (by kernel_rfl) (by kernel_rfl) (fun c a w h => h) (.inl ⟨by kernel_rfl, fun w' hS => ?_⟩) hZ3 ?_
          · clear hS; go_simp
          try go_simp
          refine wpAnyH_all (rs := [8]) (by kernel_rfl) (by simp) ?_
          intro i hi
          simp only [List.mem_cons, List.not_mem_nil, or_false] at hi
          subst hi
          unfold wpOp
          go_simp
          refine .inl ?_
          go_at_call 45
          refine (KW _ hA3).mono ?_
          rintro e W2 ⟨rfl, hbu2, hb4, hoth⟩
          have hZ4 : Blk W2 V #[.int .i64 z, .string Y] 156 := hoth V _ _ _ (by decide) (by have := HZL.out; have := HV.out; omega) hZ3
          refine ⟨hZ4, ?_⟩
          refine wpAnyH_done (by kernel_rfl) ?_ _
          rw [HFC.out] at hbu2
          have HBU2 := Lib.hid hbu2
          have HBF := Lib.hid (HB.out.trans ((hA3.mono (Nat.le_refl _)).mono hsz2 |>.trans (hb4.mono (by omega))))
          clear hZ2 hA2 hb1 hZ3 hA3 hbu2 hb4 hoth hZ4 KN KW hsum hwrp
          go_wp2
          go_roundw
          case rel => exact ⟨k + 1, by omega, by go_num, .inr HBU2.out, HBF.out⟩
          case measure => simp [intOf]; omega
        · obtain rfl : n = k := by omega
          rw [List.take_of_length_le (by rw [HN.out]; exact Nat.le_refl _)] at hbu
          have hzl : Z ≤ wr.heap.size := by rcases hbu with h | h <;> exact Nat.le_of_lt h.lt
          have KS := Tryz.Builder_String_any Z Z (S ++ imgB x) wr hbu hzl
          have KC := fun (w' : World) (hT' : TB w') => sum_any (S ++ imgB x) w' hT' (by rw [List.length_append, HIMG.out]; have := HSL.out; omega)
          have hbd := crcI_bd (S ++ imgB x)
          rw [show (⟨(S ++ imgB x).toArray⟩ : ByteArray) = mk (S ++ imgB x) from rfl] at KS
          obtain ⟨C, hC⟩ : ∃ q, crcI (S ++ imgB x) = q := ⟨_, rfl⟩
          rw [hC] at KC hbd HHD
          obtain ⟨U, hU⟩ : ∃ q, mk (S ++ imgB x) = q := ⟨_, rfl⟩
          rw [hU] at KS KC
          have hTw := HT.out.below hw hb
          have HB := Lib.hid hb
          have HTW := Lib.hid hTw
          obtain ⟨hc0, hc1⟩ := hbd
          clear hbu hb hTw hC hU
          go_wp2_with (first
            | (go_at_call 46; refine KS.mono ?_; rintro e w2 ⟨rfl, hb2⟩; have hT2 := HTW.out.below (by omega) hb2; have K2 := KC w2 hT2; have HB2 := Lib.hid (HB.out.trans (hb2.mono (by omega))); clear hb2 hT2)
            | (go_at_call 85; refine K2.mono ?_; rintro e w3 ⟨rfl, hw3⟩; obtain rfl := hw3.symm))
          go_loopw [3, 55] (fun sv i wr => ∃ k : Nat, k ≤ 4 ∧ i = .int .i64 k ∧ sv = .string (mk (S ++ (sumB C).take k)) ∧ Below w.heap.size w wr) (fun _ i _ => 4 - (intOf i).toNat)
          case atStart => exact ⟨0, by omega, rfl, by rw [List.take_zero, List.append_nil, HS0.out], HB2.out⟩
          case round =>
            obtain ⟨k, hk, rfl, rfl, hb⟩ := hrel
            obtain ⟨S1, hS1⟩ : ∃ q, mk (S ++ (sumB C).take k) = q := ⟨_, rfl⟩
            rw [hS1]
            have hk4 : k = 0 ∨ k = 1 ∨ k = 2 ∨ k = 3 ∨ k = 4 := by omega
            have HB := Lib.hid hb
            have hln : S.length ≤ 1000 := HSL.out
            rcases hk4 with rfl | rfl | rfl | rfl | rfl
            · have hcv := conv_one wr (UInt8.ofNat (C.toNat / 256 ^ 0)) (C % 256) (by rw [← byte_int]; omega)
              have hst : S ++ (sumB C).take 1 = (S ++ (sumB C).take 0) ++ [UInt8.ofNat (C.toNat / 256 ^ 0)] := by rw [List.append_assoc]; rfl
              have hsum := run_sum (S ++ (sumB C).take 0) [UInt8.ofNat (C.toNat / 256 ^ 0)] (by simp; omega)
              rw [← hst, hS1] at hsum
              obtain ⟨S2, hS2⟩ : ∃ q, mk (S ++ (sumB C).take 1) = q := ⟨_, rfl⟩
              obtain ⟨b1, hb1⟩ : ∃ q, mk [UInt8.ofNat (C.toNat / 256 ^ 0)] = q := ⟨_, rfl⟩
              rw [hb1] at hcv hsum
              rw [hS2] at hsum
              have HS2 := Lib.hid hS2
              clear hS1 hS2 hst hb1 hln hb
              go_wp2
              go_roundw
              case rel => exact ⟨1, by omega, rfl, by rw [HS2.out], HB.out.alloc HB.out.size _⟩
              case measure => simp [intOf]
            · have hcv := conv_one wr (UInt8.ofNat (C.toNat / 256 ^ 1)) (C / 256 % 256) (by rw [← byte_int]; omega)
              have hst : S ++ (sumB C).take 2 = (S ++ (sumB C).take 1) ++ [UInt8.ofNat (C.toNat / 256 ^ 1)] := by rw [List.append_assoc]; rfl
              have hsum := run_sum (S ++ (sumB C).take 1) [UInt8.ofNat (C.toNat / 256 ^ 1)] (by simp; omega)
              rw [← hst, hS1] at hsum
              obtain ⟨S2, hS2⟩ : ∃ q, mk (S ++ (sumB C).take 2) = q := ⟨_, rfl⟩
              obtain ⟨b1, hb1⟩ : ∃ q, mk [UInt8.ofNat (C.toNat / 256 ^ 1)] = q := ⟨_, rfl⟩
              rw [hb1] at hcv hsum
              rw [hS2] at hsum
              have HS2 := Lib.hid hS2
              clear hS1 hS2 hst hb1 hln hb
              go_wp2
              go_roundw
              case rel => exact ⟨2, by omega, rfl, by rw [HS2.out], HB.out.alloc HB.out.size _⟩
              case measure => simp [intOf]
            · have hcv := conv_one wr (UInt8.ofNat (C.toNat / 256 ^ 2)) (C / 65536 % 256) (by rw [← byte_int]; omega)
              have hst : S ++ (sumB C).take 3 = (S ++ (sumB C).take 2) ++ [UInt8.ofNat (C.toNat / 256 ^ 2)] := by rw [List.append_assoc]; rfl
              have hsum := run_sum (S ++ (sumB C).take 2) [UInt8.ofNat (C.toNat / 256 ^ 2)] (by simp; omega)
              rw [← hst, hS1] at hsum
              obtain ⟨S2, hS2⟩ : ∃ q, mk (S ++ (sumB C).take 3) = q := ⟨_, rfl⟩
              obtain ⟨b1, hb1⟩ : ∃ q, mk [UInt8.ofNat (C.toNat / 256 ^ 2)] = q := ⟨_, rfl⟩
              rw [hb1] at hcv hsum
              rw [hS2] at hsum
              have HS2 := Lib.hid hS2
              clear hS1 hS2 hst hb1 hln hb
              go_wp2
              go_roundw
              case rel => exact ⟨3, by omega, rfl, by rw [HS2.out], HB.out.alloc HB.out.size _⟩
              case measure => simp [intOf]
            · have hcv := conv_one wr (UInt8.ofNat (C.toNat / 256 ^ 3)) (C / 16777216) (by rw [← byte_int]; omega)
              have hst : S ++ (sumB C).take 4 = (S ++ (sumB C).take 3) ++ [UInt8.ofNat (C.toNat / 256 ^ 3)] := by rw [List.append_assoc]; rfl
              have hsum := run_sum (S ++ (sumB C).take 3) [UInt8.ofNat (C.toNat / 256 ^ 3)] (by simp; omega)
              rw [← hst, hS1] at hsum
              obtain ⟨S2, hS2⟩ : ∃ q, mk (S ++ (sumB C).take 4) = q := ⟨_, rfl⟩
              obtain ⟨b1, hb1⟩ : ∃ q, mk [UInt8.ofNat (C.toNat / 256 ^ 3)] = q := ⟨_, rfl⟩
              rw [hb1] at hcv hsum
              rw [hS2] at hsum
              have HS2 := Lib.hid hS2
              clear hS1 hS2 hst hb1 hln hb
              go_wp2
              go_roundw
              case rel => exact ⟨4, by omega, rfl, by rw [HS2.out], HB.out.alloc HB.out.size _⟩
              case measure => simp [intOf]
            · have HFN := Lib.hid (show S1 = R by rw [← hS1, ← HR.out, HHD.out]; congr 1)
              clear hS1 hln hb
              go_wp2
              go_ret
              obtain rfl := HFN.out
              exact ⟨rfl, HB.out⟩
end Go.Proofs.YtcmcdddnckcpcaaGreatDoor
