/- space.turn, Give, Claim, walked. -/
import Derived.Test.YtcmcdddnckcpcaaGreatDoorSp
import Derived.Test.YtcmcdddnckcpcaaGreatDoorBf
import Derived.Test.YtcmcdddnckcpcaaGreatDoorOs
namespace Go.Proofs.YtcmcdddnckcpcaaGreatDoor
open Go.RowKit
/-- m units from i on are turned: they must not be as 'taken' says. -/
def turn1 (taken : Bool) : List Bool → Nat → Nat → Option (List Bool)
  | T, _, 0 => some T
  | T, i, m + 1 => if T.getD i false = taken then none else turn1 taken (T.set i (!T.getD i false)) (i + 1) m
/-- Extents are turned. -/
def turnS (taken : Bool) : List Bool → List (Nat × Nat) → Option (List Bool)
  | T, [] => some T
  | T, x :: l => if x.2 < 1 ∨ T.length < x.1 ∨ T.length - x.1 < x.2 then none else (turn1 taken T x.1 x.2).bind fun T' => turnS taken T' l
def ecells (l : List (Nat × Nat)) : List Value := l.flatMap fun x => [.int .i64 x.1, .int .i64 x.2]
theorem turn1_len (taken : Bool) : ∀ (m : Nat) (T : List Bool) (i : Nat) (T' : List Bool), turn1 taken T i m = some T' → T'.length = T.length := by
  intro m
  induction m with
  | zero => intro T i T' h; cases h; rfl
  | succ m ih =>
    intro T i T' h
    rw [turn1] at h
    split at h
    · cases h
    · have := ih _ _ _ h
      rw [this, List.length_set]
theorem ecells_at (l : List (Nat × Nat)) : ∀ j (h : j < l.length), (ecells l)[j * 2]? = some (.int .i64 l[j].1) ∧ (ecells l)[j * 2 + 1]? = some (.int .i64 l[j].2) := by
  induction l with
  | nil => intro j h; simp at h
  | cons x S ih =>
    intro j h
    have e : ecells (x :: S) = .int .i64 x.1 :: .int .i64 x.2 :: ecells S := by unfold ecells; rfl
    rw [e]
    cases j with
    | zero => exact ⟨rfl, rfl⟩
    | succ j =>
      have := ih j (by simpa using h)
      rw [show (j + 1) * 2 = j * 2 + 1 + 1 by omega]
      simpa using this
theorem ecells_length (l : List (Nat × Nat)) : (ecells l).length = l.length * 2 := by
  induction l with
  | nil => rfl
  | cons x S ih => unfold ecells at ih ⊢; rw [List.flatMap_cons, List.length_append, ih]; simp; omega
theorem and_oneN (m : Nat) (h : m < 256) : bits .and .u8 (m : Int) 1 = ((m % 2 : Nat) : Int) := and_one8 ⟨m, h⟩
theorem xor_8 (a b : Nat) (ha : a < 256) (hb : b < 256) : bits .xor .u8 (a : Int) (b : Int) = ((a ^^^ b : Nat) : Int) := by
  have hx : a ^^^ b < 2 ^ 8 := Nat.xor_lt_two_pow (by omega) (by omega)
  have h1 : (BitVec.ofInt 8 (a : Int)).toNat = a := by rw [BitVec.ofInt_natCast, BitVec.toNat_ofNat]; exact Nat.mod_eq_of_lt (by omega)
  have h2 : (BitVec.ofInt 8 (b : Int)).toNat = b := by rw [BitVec.ofInt_natCast, BitVec.toNat_ofNat]; exact Nat.mod_eq_of_lt (by omega)
  show IntKind.u8.wrap ((BitVec.ofInt 8 (a : Int) ^^^ BitVec.ofInt 8 (b : Int)).toNat : Int) = _
  rw [BitVec.toNat_xor, h1, h2]
  simp [IntKind.wrap, IntKind.bits, IntKind.signed]
  omega
theorem pack_nat (T : List Bool) (j : Nat) (h : j < (T.length + 7) / 8) : ((packB T).map UInt8.toNat)[j]? = some (byteN T j) := by
  rw [List.getElem?_map, packB_at T j h, Option.map_some, UInt8.toNat_ofNat', Nat.mod_eq_of_lt (byteN_lt T j)]
theorem xor_lt (T : List Bool) (j k : Nat) (hk : k < 8) : byteN T j ^^^ 2 ^ k < 256 := Nat.xor_lt_two_pow (n := 8) (byteN_lt T j) (Nat.pow_lt_pow_right (by omega) hk)
theorem pack_turn_nat (T : List Bool) (i : Nat) (hi : i < T.length) : (packB (T.set i (!T.getD i false))).map UInt8.toNat = ((packB T).map UInt8.toNat).set (i / 8) (byteN T (i / 8) ^^^ 2 ^ (i % 8)) := by
  rw [packB_turn T i hi, List.map_set, UInt8.toNat_ofNat', Nat.mod_eq_of_lt (xor_lt T _ _ (by omega))]
/-- What turn answers. -/
def turnV : Option (List Bool) → Value
  | some T => .tuple #[spv T, .int .i64 0]
  | none => .tuple #[.agg #[.int .i64 0, .string ⟨#[]⟩], .int .i64 1]
set_option maxRecDepth 100000 in
set_option maxHeartbeats 2000000 in
theorem turn_any (taken : Bool) (T : List Bool) (l : List (Nat × Nat)) (A : Option Addr) (cap : Nat) (w : World) (hn : T.length ≤ 4096) (hl : Lies w A (ecells l)) (hb : ∀ x ∈ l, x.1 ≤ 2199023255552 ∧ x.2 ≤ 2199023255552) (hll : l.length ≤ 1000000) :
    Calls Tryz.prog 79 #[spv T, .slice A l.length cap, .bool taken] w fun e w' => e = .returned (turnV (turnS taken T l)) ∧ Below w.heap.size w w' := by
  obtain ⟨R, hR⟩ : ∃ R, turnS taken T l = R := ⟨_, rfl⟩
  rw [hR]
  have HRR := Lib.hid hR
  unfold spv
  obtain ⟨X, hX⟩ : ∃ X, mk (packB T) = X := ⟨_, rfl⟩
  obtain ⟨n, hn2⟩ : ∃ n, T.length = n := ⟨_, rfl⟩
  obtain ⟨q, hq⟩ : ∃ n, l.length = n := ⟨_, rfl⟩
  rw [hn2] at hn
  rw [hq] at hll
  rw [hX, hn2, hq]
  have HX := Lib.hid hX
  have HN := Lib.hid hn2
  have HQ := Lib.hid hq
  have HL := Lib.hid hl
  have HBB := Lib.hid hb
  clear hR hX hn2 hq hl hb
  go_enter Tryz.func79, Tryz.ntmps79
  have mixed : Tryz.prog.follows Departure.mixedOrders = true := by kernel_rfl
  have HD0 : Hid (X.data.toList.map UInt8.toNat = (packB T).map UInt8.toNat) := Lib.hid (by rw [← HX.out, mk_data])
  go_wp2_with (with_reducible refine wpList_bytes rfl (.tmp 13) 9 62 5 rfl Tryz.underlying9 Tryz.underlying62 Tryz.underlying5 X rfl ?_; intro cp w1 hbuf hbel hsz)
  have hbW : Below w.heap.size w w1 := (((Below.refl _ w).alloc (Nat.le_refl _) _).alloc (by simp) _).trans (hbel.mono (by simp; omega))
  have hB0 : Blk w1 w.heap.size #[.int .i64 n, .string X] 76 := ((Blk.new w #[.int .i64 n, .string X] 76).alloc _).below hbel
  have hB1 : Blk w1 (w.heap.size + 1) #[.int .i64 0, .string ⟨#[]⟩] 76 := by
    have := (Blk.new (w.alloc (.cells #[.int .i64 n, .string X] 76)) #[.int .i64 0, .string ⟨#[]⟩] 76).below hbel
    rwa [World.size_alloc] at this
  rw [HD0.out] at hbuf
  simp only [World.size_alloc] at hbuf
  obtain ⟨H, hH⟩ : ∃ H, w.heap.size = H := ⟨_, rfl⟩
  obtain ⟨G, hG⟩ : ∃ G, H + 1 + 1 = G := ⟨_, rfl⟩
  have HH := Lib.hid hH
  have hxz : (X.size : Int) = ((n + 7) / 8 : Nat) := by rw [← HX.out, mk_size, packB_length, HN.out]
  obtain ⟨xz, hxz2⟩ : ∃ z, X.size = z := ⟨_, rfl⟩
  have HXZ := Lib.hid (show xz = (n + 7) / 8 by omega)
  simp only [hH, hG, hxz2] at hB0 hB1 hbuf hbW ⊢
  have HB0 := Lib.hid hB0
  have HB1 := Lib.hid hB1
  have HBU := Lib.hid hbuf
  have HBW := Lib.hid hbW
  clear hB0 hB1 hbuf hbW hbel hsz hxz hxz2 HD0 hH
  go_loopw [17] (fun kv wr => ∃ (k : Nat) (U : List Bool), k ≤ q ∧ kv = .int .i64 k ∧ U.length = n ∧ turnS taken U (l.drop k) = R ∧ Buf wr G 5 ((packB U).map UInt8.toNat) ∧ Blk wr H #[.int .i64 n, .string X] 76 ∧ Blk wr (H + 1) #[.int .i64 0, .string ⟨#[]⟩] 76 ∧ Below H w wr) (fun kv _ => q - (intOf kv).toNat)
  case atStart => exact ⟨0, T, by omega, rfl, HN.out, by rw [List.drop_zero]; exact HRR.out, HBU.out, HB0.out, HB1.out, HBW.out⟩
  case round =>
    clear HBU HB0 HB1 HBW
    obtain ⟨k, U, hk, rfl, hU, hR, hbu, hB0, hB1, hb⟩ := hrel
    have hwr := hb.size
    have hHw : H ≤ w.heap.size := by rw [HH.out]; exact Nat.le_refl _
    have k0 : (0 : Int) ≤ (k : Int) := by omega
    by_cases hkq : k < q
    · have k1 : (k : Int) < (q : Int) := by omega
      have hkl : k < l.length := by rw [HQ.out]; exact hkq
      have hlies := (HL.out.below (B := H) (by rw [HH.out]; exact Nat.le_refl _) hb)
      obtain ⟨g, o, rfl, hgl, hcs⟩ := hlies (by rw [ecells_length]; omega)
      obtain ⟨e0, e1⟩ := ecells_at l k hkl
      have c0 := hcs _ _ e0
      have c1 := hcs _ _ e1
      obtain ⟨b1, b2⟩ := HBB.out _ (List.getElem_mem hkl)
      have hdr : l.drop k = l[k] :: l.drop (k + 1) := List.drop_eq_getElem_cons hkl
      rw [hdr, turnS] at hR
      obtain ⟨f, hf⟩ : ∃ f, l[k].1 = f := ⟨_, rfl⟩
      obtain ⟨N, hN⟩ : ∃ f, l[k].2 = f := ⟨_, rfl⟩
      rw [hf] at c0 b1 hR
      rw [hN] at c1 b2 hR
      rw [hU] at hR
      rw [← Nat.add_assoc] at c1
      have f0 : (0 : Int) ≤ (f : Int) := by omega
      have N0 : (0 : Int) ≤ (N : Int) := by omega
      have hB1c0 := hB1.cell 0
      have hB1c1 := hB1.cell 1
      have hB1f0 := hB1.frozen 0
      have hB1f1 := hB1.frozen 1
      have hB0c := hB0.cell 0
      have hHl := hB0.lt
      have hH1l := hB1.lt
      simp at hB1c0 hB1c1 hB0c
      by_cases hbad : N < 1 ∨ n < f ∨ n - f < N
      · rw [if_pos hbad] at hR
        have HRN := Lib.hid hR
        have HB := Lib.hid hb
        clear hR hbu hB0 hB1 hb hlies hcs e0 e1 hdr hf hN
        have fin : ∀ W, Below H w W → Below w.heap.size w W := fun W h => by rw [HH.out]; exact h
        have HFI := Lib.hid fin
        by_cases h1 : N < 1
        · have h1' : (N : Int) < 1 := by omega
          clear hbad fin
          go_wp2
          refine bodyPost_ret (v := .tuple #[.agg #[.int .i64 0, .string ⟨#[]⟩], .int .i64 1]) ?_ rfl ?_
          · rw [results_cell_tmp Tryz.results79]
            go_simp
          · refine ⟨by rw [← HRN.out]; rfl, HFI.out _ ?_⟩
            exact ((HB.out.setCell (p := ⟨H + 1, 0, none⟩) (by simp) _).setCell (p := ⟨H + 1, 1, none⟩) (by simp) _).alloc (by simp; omega) _
        · have h1' : ¬ ((N : Int) < 1) := by omega
          by_cases h2 : n < f
          · have h2' : (n : Int) < (f : Int) := by omega
            clear hbad fin
            go_wp2
            refine bodyPost_ret (v := .tuple #[.agg #[.int .i64 0, .string ⟨#[]⟩], .int .i64 1]) ?_ rfl ?_
            · rw [results_cell_tmp Tryz.results79]
              go_simp
            · refine ⟨by rw [← HRN.out]; rfl, HFI.out _ ?_⟩
              exact ((HB.out.setCell (p := ⟨H + 1, 0, none⟩) (by simp) _).setCell (p := ⟨H + 1, 1, none⟩) (by simp) _).alloc (by simp; omega) _
          · have h2' : ¬ ((n : Int) < (f : Int)) := by omega
            have h3' : (n : Int) - (f : Int) < (N : Int) := by omega
            clear hbad fin
            go_wp2
            refine bodyPost_ret (v := .tuple #[.agg #[.int .i64 0, .string ⟨#[]⟩], .int .i64 1]) ?_ rfl ?_
            · rw [results_cell_tmp Tryz.results79]
              go_simp
            · refine ⟨by rw [← HRN.out]; rfl, HFI.out _ ?_⟩
              exact ((HB.out.setCell (p := ⟨H + 1, 0, none⟩) (by simp) _).setCell (p := ⟨H + 1, 1, none⟩) (by simp) _).alloc (by simp; omega) _
      · rw [if_neg hbad] at hR
        have n1 : ¬ ((N : Int) < 1) := by omega
        have n2 : ¬ ((n : Int) < (f : Int)) := by omega
        have n3 : ¬ ((n : Int) - (f : Int) < (N : Int)) := by omega
        have hfN : f + N ≤ n := by omega
        have HR1 := Lib.hid hR
        have HBU := Lib.hid (hbu.alloc (.cells #[.int .i64 f, .int .i64 N] 90))
        have HB0 := Lib.hid (hB0.alloc (.cells #[.int .i64 f, .int .i64 N] 90))
        have HB1 := Lib.hid (hB1.alloc (.cells #[.int .i64 f, .int .i64 N] 90))
        have HB := Lib.hid (hb.alloc (by omega) (.cells #[.int .i64 f, .int .i64 N] 90))
        have HZ := Lib.hid (Blk.new wr #[.int .i64 f, .int .i64 N] 90)
        have hGl := hbu.lt
        clear hR hbu hB0 hB1 hb hlies hcs e0 e1 hdr hf hN hbad
        go_wp2
        obtain ⟨Z, hZ⟩ : ∃ Z, wr.heap.size = Z := ⟨_, rfl⟩
        obtain ⟨W2, hW2⟩ : ∃ u, wr.alloc (.cells #[.int .i64 f, .int .i64 N] 90) = u := ⟨_, rfl⟩
        rw [hW2] at HBU HB0 HB1 HB HZ ⊢
        rw [hZ] at HZ hwr hHl hH1l hGl
        simp only [hZ]
        have hUt := Lib.hid hU
        clear hW2 hZ c0 c1 hB1c0 hB1c1 hB1f0 hB1f1 hB0c
        go_loopw [11] (fun iv wx => ∃ (m : Nat) (V : List Bool), m ≤ N ∧ iv = .int .i64 ((f : Int) + (m : Int)) ∧ V.length = n ∧ ((turn1 taken V (f + m) (N - m)).bind fun T' => turnS taken T' (l.drop (k + 1))) = R ∧ Buf wx G 5 ((packB V).map UInt8.toNat) ∧ Blk wx H #[.int .i64 n, .string X] 76 ∧ Blk wx (H + 1) #[.int .i64 0, .string ⟨#[]⟩] 76 ∧ Blk wx Z #[.int .i64 f, .int .i64 N] 90 ∧ Below H w wx) (fun iv _ => N - ((intOf iv).toNat - f))
        case atStart => exact ⟨0, U, by omega, by simp, hUt.out, HR1.out, HBU.out, HB0.out, HB1.out, HZ.out, HB.out⟩
        case round =>
          clear HR1 HBU HB0 HB1 HB HZ
          obtain ⟨m, V, hm, rfl, hV, hR, hbu, hB0, hB1, hZ, hb⟩ := hrel
          have z0 := hZ.cell 0
          have z1 := hZ.cell 1
          have o0 := hB1.cell 0
          have o1 := hB1.cell 1
          have p0 := hB1.frozen 0
          have p1 := hB1.frozen 1
          simp at z0 z1 o0 o1
          have hZl := hZ.lt
          have hH1l := hB1.lt
          obtain ⟨i, hi⟩ : ∃ i, f + m = i := ⟨_, rfl⟩
          have hii : (f : Int) + (m : Int) = (i : Int) := by omega
          rw [hii]
          rw [hi] at hR
          by_cases hmN : m < N
          · have i0 : (0 : Int) ≤ (i : Int) := by omega
            have i1 : (i : Int) < (f : Int) + (N : Int) := by omega
            rw [show N - m = (N - (m + 1)) + 1 by omega, turn1] at hR
            have hiV : i < V.length := by omega
            obtain ⟨j, hj⟩ : ∃ j, i / 8 = j := ⟨_, rfl⟩
            obtain ⟨t, ht⟩ : ∃ t, i % 8 = t := ⟨_, rfl⟩
            have ht8 : t < 8 := by omega
            have hjl : j < (V.length + 7) / 8 := by omega
            have hjb : j < ((packB V).map UInt8.toNat).length := by rw [List.length_map, packB_length]; exact hjl
            have hbv : ((packB V).map UInt8.toNat)[j] = byteN V j := by
              have := pack_nat V j hjl
              rw [List.getElem?_eq_getElem hjb] at this
              exact Option.some.inj this
            have cb := hbu.cell hjb
            have fb := hbu.frozen hjb
            rw [hbv] at cb
            obtain ⟨B, hB⟩ : ∃ B, byteN V j = B := ⟨_, rfl⟩
            have hB256 : B < 256 := by rw [← hB]; exact byteN_lt V j
            have hbt : B / 2 ^ t % 2 = bitN V i := by rw [← hB, byteN_bit V j t ht8, show 8 * j + t = i by omega]
            rw [hB] at cb
            have td : (i : Int).tdiv 8 = (j : Int) := by rw [Int.tdiv_eq_ediv_of_nonneg (by omega)]; omega
            have tm : (i : Int).tmod 8 = (t : Int) := by rw [Int.tmod_eq_emod_of_nonneg (by omega)]; omega
            have j0 : (0 : Int) ≤ (j : Int) := by omega
            have j1 : (j : Int) < (xz : Int) := by have := HXZ.out; omega
            have j2 : (j : Int) ≤ 512 := by omega
            have t0 : (0 : Int) ≤ (t : Int) := by omega
            have t1 : (t : Int) ≤ 8 := by omega
            have hand : bits .and .u8 ((B : Int) / 2 ^ t) 1 = ((bitN V i : Nat) : Int) := by
              rw [show (B : Int) / 2 ^ t = ((B / 2 ^ t : Nat) : Int) by push_cast; rfl, and_oneN _ (Nat.lt_of_le_of_lt (Nat.div_le_self _ _) hB256), hbt]
            have hbit := bitN_eq V i
            obtain ⟨b, hbb⟩ : ∃ b, V.getD i false = b := ⟨_, rfl⟩
            rw [hbb] at hbit hR
            obtain ⟨bn, hbn⟩ : ∃ b, ((bitN V i : Nat) : Int) = b := ⟨_, rfl⟩
            rw [hbn] at hand hbit
            have HTN := Lib.hid (pack_turn_nat V i hiV)
            have HBB2 := Lib.hid hbb
            have HJT := Lib.hid (And.intro hj (And.intro ht hB))
            clear hbv hB hj ht hbt hbb hbn
            have HID := Lib.hid (show m < N ∧ V.length = n ∧ f + m = i ∧ i < V.length ∧ B < 256 ∧ t < 8 ∧ j < ((packB V).map UInt8.toNat).length ∧ f + N ≤ n ∧ k < q ∧ k < l.length ∧ G < Z from ⟨hmN, hV, hi, hiV, hB256, ht8, hjb, hfN, hkq, hkl, hGl⟩)
            clear hmN hV hi hiV hB256 ht8 hjb hjl hkq hkl hk hm hU hUt n1 n2 n3 hgl hHw k0 k1 hwr hGl hii
            by_cases he : b = taken
            · rw [if_pos he] at hR
              subst he
              have HRN := Lib.hid hR
              have HB := Lib.hid hb
              clear hR hbu hB0 hB1 hZ hb
              go_wp2
              refine bodyPost_ret (v := .tuple #[.agg #[.int .i64 0, .string ⟨#[]⟩], .int .i64 1]) ?_ rfl ?_
              · rw [results_cell_tmp Tryz.results79]
                go_simp
              · refine ⟨by rw [← HRN.out]; rfl, ?_⟩
                rw [HH.out]
                exact (HB.out.setCell (p := ⟨H + 1, 0, none⟩) (by simp) _).setCell (p := ⟨H + 1, 1, none⟩) (by simp) _
            · rw [if_neg he] at hR
              have hne : (b == taken) = false := by cases b <;> cases taken <;> simp_all
              have HRN := Lib.hid hR
              have HBU := Lib.hid hbu
              have HB0 := Lib.hid hB0
              have HB1 := Lib.hid hB1
              have HZ := Lib.hid hZ
              have HB := Lib.hid hb
              clear hR hbu hB0 hB1 hZ hb he
              go_upto_region 12 with fail
              have wi : IntKind.i64.wrap (j : Int) = (j : Int) := by rw [Go.IntWalk.i64_left, Go.IntWalk.wrap64_in _ (by omega)]
              obtain ⟨e1, e2, e3, e4, hB256, ht8, hjb, e5, e6, e7, hGZ⟩ := HID.out
              have h256 : 2 ^ t < 2 ^ 8 := Nat.pow_lt_pow_right (by omega) ht8
              have h256 : 2 ^ t < 256 := h256
              have wsh : IntKind.u8.wrap ((2 : Int) ^ t) = ((2 ^ t : Nat) : Int) := by
                rw [show ((2 : Int) ^ t) = ((2 ^ t : Nat) : Int) by push_cast; rfl]
                generalize 2 ^ t = z at h256
                simp [IntKind.wrap, IntKind.bits, IntKind.signed]
                omega
              have hx8 := xor_8 B (2 ^ t) hB256 h256
              have HX8 := Lib.hid (show ((packB (V.set i (!b))).map UInt8.toNat) = ((packB V).map UInt8.toNat).set j (B ^^^ 2 ^ t) by
                have h1 := HTN.out
                rw [HBB2.out, HJT.out.1, HJT.out.2.1, HJT.out.2.2] at h1
                exact h1)
              obtain ⟨Q, hQ⟩ : ∃ Q, 2 ^ t = Q := ⟨_, rfl⟩
              rw [hQ] at hx8 HX8
              have wq : IntKind.u8.wrap (Q : Int) = (Q : Int) := by
                have h256 : Q < 256 := by rw [← hQ]; exact h256
                simp [IntKind.wrap, IntKind.bits, IntKind.signed]
                omega
              have hq2 : ((2 : Int) ^ t) = (Q : Int) := by rw [← hQ]; push_cast; rfl
              clear wsh
              obtain ⟨M, hM⟩ : ∃ M, B ^^^ Q = M := ⟨_, rfl⟩
              rw [hM] at hx8 HX8
              clear hQ hM h256 e1 e2 e3 e4 e5 e6 e7 hB256 ht8
              refine wp_region_S 10 (fun _ => True) (fun w' => w'.cell? ⟨G, j, none⟩ = some (.int .u8 (B : Int))) mixed ?_
              change wpAnyS _ _ _ _ _ _ _ _ _ _ wr.drew
              have cbd : wr.drew.cell? ⟨G, j, none⟩ = some (.int .u8 (B : Int)) := cb
              have fbd : wr.drew.frozen? ⟨G, j, none⟩ = false := fb
              have HBU := Lib.hid (show Buf wr.drew G 5 ((packB V).map UInt8.toNat) from HBU.out)
              have HB0 := Lib.hid (show Blk wr.drew H #[.int .i64 n, .string X] 76 from HB0.out)
              have HB1 := Lib.hid (show Blk wr.drew (H + 1) #[.int .i64 0, .string ⟨#[]⟩] 76 from HB1.out)
              have HZ := Lib.hid (show Blk wr.drew Z #[.int .i64 f, .int .i64 N] 90 from HZ.out)
              have HB := Lib.hid (HB.out.drew)
              obtain ⟨W5, hW5⟩ : ∃ u, wr.drew = u := ⟨_, rfl⟩
              rw [hW5] at cbd fbd HBU HB0 HB1 HZ HB ⊢
              clear hW5 cb fb z0 z1 o0 o1 p0 p1
              have HE0 : ∀ L : Array Bool, HeldS 10 (fun _ => True) (fun w' => w'.cell? ⟨G, j, none⟩ = some (.int .u8 (B : Int))) L W5 := fun L => ⟨trivial, fun _ => cbd⟩
              refine wpAnyS_take (i := 0) (v := .slice (some ⟨G, 0, none⟩) xz cp) rfl (by decide) (by kernel_rfl) (by kernel_rfl) (by kernel_rfl) (fun c a w h => h) (.inl ⟨by kernel_rfl, fun w' hS => ?_⟩) (HE0 _) ?_
              · clear hS; go_simp
              try go_simp
              refine wpAnyS_take (i := 1) (v := .int .i64 i) rfl (by decide) (by kernel_rfl) (by kernel_rfl) (by kernel_rfl) (fun c a w h => h) (.inl ⟨by kernel_rfl, fun w' hS => ?_⟩) (HE0 _) ?_
              · clear hS; go_simp
              try go_simp
              refine wpAnyS_take (i := 2) (v := .int .i64 j) rfl (by decide) (by kernel_rfl) (by kernel_rfl) (by kernel_rfl) (fun c a w h => h) (.inl ⟨by kernel_rfl, fun w' hS => ?_⟩) (HE0 _) ?_
              · clear hS; go_simp
              try go_simp
              refine wpAnyS_take (i := 3) (v := .pointer (some ⟨G, j, none⟩)) rfl (by decide) (by kernel_rfl) (by kernel_rfl) (by kernel_rfl) (fun c a w h => h) (.inl ⟨by kernel_rfl, fun w' hS => ?_⟩) (HE0 _) ?_
              · clear hS; go_simp
              try go_simp
              refine wpAnyS_take2 (i := 4) (v := .int .u8 B) rfl (by decide) rfl (by kernel_rfl) (by kernel_rfl) (by kernel_rfl) (by kernel_rfl) (by kernel_rfl) (fun c a w h => h) (.inl ⟨by kernel_rfl, fun w' hS => ?_⟩) (HE0 _) ?_
              · have hS0 := hS.2; go_simp
              try go_simp
              refine wpAnyS_take (i := 5) (v := .int .i64 i) rfl (by decide) (by kernel_rfl) (by kernel_rfl) (by kernel_rfl) (fun c a w h => h) (.inl ⟨by kernel_rfl, fun w' hS => ?_⟩) (HE0 _) ?_
              · clear hS; go_simp
              try go_simp
              refine wpAnyS_take (i := 6) (v := .int .i64 t) rfl (by decide) (by kernel_rfl) (by kernel_rfl) (by kernel_rfl) (fun c a w h => h) (.inl ⟨by kernel_rfl, fun w' hS => ?_⟩) (HE0 _) ?_
              · clear hS; go_simp
              try go_simp
              refine wpAnyS_take (i := 7) (v := .int .u8 Q) rfl (by decide) (by kernel_rfl) (by kernel_rfl) (by kernel_rfl) (fun c a w h => h) (.inl ⟨by kernel_rfl, fun w' hS => ?_⟩) (HE0 _) ?_
              · clear hS; go_simp
              try go_simp
              refine wpAnyS_take (i := 8) (v := .int .u8 M) rfl (by decide) (by kernel_rfl) (by kernel_rfl) (by kernel_rfl) (fun c a w h => h) (.inl ⟨by kernel_rfl, fun w' hS => ?_⟩) (HE0 _) ?_
              · clear hS; go_simp
              try go_simp
              refine wpAnyS_take (i := 9) (v := .pointer (some ⟨G, j, none⟩)) rfl (by decide) (by kernel_rfl) (by kernel_rfl) (by kernel_rfl) (fun c a w h => h) (.inl ⟨by kernel_rfl, fun w' hS => ?_⟩) (HE0 _) ?_
              · clear hS; go_simp
              try go_simp
              refine wpAnyS_all (rs := [10]) (by kernel_rfl) (by simp) ?_
              intro ix hix
              simp only [List.mem_cons, List.not_mem_nil, or_false] at hix
              subst hix
              unfold wpOp
              go_simp
              have hBU2 := HBU.out.set (i := j) hjb M
              rw [← HX8.out] at hBU2
              have hB02 : Blk (W5.setCell ⟨G, j, none⟩ (.int .u8 (M : Int))) H #[.int .i64 n, .string X] 76 := (Below.heap_setCell W5 ⟨G, j, none⟩ _ H (by simp only; omega)).trans HB0.out
              have hB12 : Blk (W5.setCell ⟨G, j, none⟩ (.int .u8 (M : Int))) (H + 1) #[.int .i64 0, .string ⟨#[]⟩] 76 := (Below.heap_setCell W5 ⟨G, j, none⟩ _ (H + 1) (by simp only; omega)).trans HB1.out
              have hZ2 : Blk (W5.setCell ⟨G, j, none⟩ (.int .u8 (M : Int))) Z #[.int .i64 f, .int .i64 N] 90 := (Below.heap_setCell W5 ⟨G, j, none⟩ _ Z (by simp only; omega)).trans HZ.out
              have hBe2 := HB.out.setCell (p := ⟨G, j, none⟩) (by simp only; omega) (.int .u8 (M : Int))
              have HFN := Lib.hid (And.intro hBU2 (And.intro hB02 (And.intro hB12 (And.intro hZ2 hBe2))))
              have HE1 : ∀ L : Array Bool, L.getD 10 false = true → HeldS 10 (fun _ => True) (fun w' => w'.cell? ⟨G, j, none⟩ = some (.int .u8 (B : Int))) L (W5.setCell ⟨G, j, none⟩ (.int .u8 (M : Int))) := fun L hL => ⟨trivial, fun e => by rw [hL] at e; cases e⟩
              first | refine .inl ⟨HE1 _ (by kernel_rfl), ?_⟩ | refine ⟨HE1 _ (by kernel_rfl), ?_⟩
              refine wpAnyS_done (by kernel_rfl) ?_ _
              clear hBU2 hB02 hB12 hZ2 hBe2 HE0 HE1 cbd fbd hx8 wq hq2 wi hjb td tm
              go_wp2
              go_roundw
              case rel => exact ⟨m + 1, V.set i (!b), by have := HID.out; omega, by rw [show ((f : Int) + ((m + 1 : Nat) : Int)) = (i : Int) + 1 by have := HID.out.2.2.1; omega], by rw [List.length_set]; exact HID.out.2.1, by rw [show f + (m + 1) = i + 1 by have := HID.out.2.2.1; omega]; exact HRN.out, HFN.out.1, HFN.out.2.1, HFN.out.2.2.1, HFN.out.2.2.2.1, HFN.out.2.2.2.2⟩
              case measure => have := HID.out; simp [intOf]; omega
          · obtain rfl : m = N := by omega
            have i0 : (0 : Int) ≤ (i : Int) := by omega
            have i1 : ¬ ((i : Int) < (f : Int) + (m : Int)) := by omega
            rw [Nat.sub_self, turn1, Option.bind_some] at hR
            have HRN := Lib.hid hR
            have HBU := Lib.hid hbu
            have HB0 := Lib.hid hB0
            have HB1 := Lib.hid hB1
            have HB := Lib.hid hb
            have HVV := Lib.hid hV
            clear hR hbu hB0 hB1 hb hV hZ hii
            go_wp2
            go_roundw
            case rel => exact ⟨k + 1, V, by omega, by go_num, HVV.out, HRN.out, HBU.out, HB0.out, HB1.out, HB.out⟩
            case measure => simp [intOf]; omega
    · obtain rfl : k = q := by omega
      rw [List.drop_eq_nil_of_le (by rw [HQ.out]; exact Nat.le_refl _), turnS] at hR
      have o0 := hB1.cell 0
      have o1 := hB1.cell 1
      have p0 := hB1.frozen 0
      have p1 := hB1.frozen 1
      have s0 := hB0.cell 0
      simp at o0 o1 s0
      have hH1l := hB1.lt
      have hHl := hB0.lt
      have hcv : (convert 62 9 (.slice (some ⟨G, 0, none⟩) xz cp)).run Tryz.prog wr = .ok (.string (mk (packB U))) wr := by
        have hl : (packB U).length = xz := by rw [packB_length, HXZ.out, hU]
        rw [← hl]
        exact run_convert_bytes_back (P := Tryz.prog) wr 62 9 5 ⟨G, 0, none⟩ cp (packB U) Tryz.underlying62 Tryz.underlying5 Tryz.underlying9 (fun j hj => by
          rw [add_lit', Nat.zero_add, hbu.cell (by rw [List.length_map]; exact hj), List.getElem_map])
      have HV := Lib.hid (show turnV R = .tuple #[.agg #[.int .i64 n, .string (mk (packB U))], .int .i64 0] by rw [← hR, ← hU]; rfl)
      obtain ⟨Y, hY⟩ : ∃ Y, mk (packB U) = Y := ⟨_, rfl⟩
      rw [hY] at hcv HV
      have HB := Lib.hid hb
      clear hR hbu hB0 hB1 hb hY hU
      go_wp2
      refine bodyPost_ret (v := .tuple #[.agg #[.int .i64 n, .string Y], .int .i64 0]) ?_ rfl ?_
      · rw [results_cell_tmp Tryz.results79]
        go_simp
      · refine ⟨by rw [HV.out], ?_⟩
        rw [HH.out]
        exact (HB.out.setCell (p := ⟨H + 1, 0, none⟩) (by simp) _).setCell (p := ⟨H + 1, 1, none⟩) (by simp) _
end Go.Proofs.YtcmcdddnckcpcaaGreatDoor
