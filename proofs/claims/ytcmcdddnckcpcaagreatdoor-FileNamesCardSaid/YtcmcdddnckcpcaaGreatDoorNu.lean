/- nums.behind and Put, walked. -/
import Derived.Test.YtcmcdddnckcpcaaGreatDoorNb
import Derived.Lib.Hide
import Derived.Laws.MakeOwn
import Derived.Below
import Derived.IntWalk
import Derived.RegionTactic
import Derived.Laws.IdiomStrings
import Derived.Lib.ItoaMem
import Derived.ChangeAlike
namespace Go.Proofs.YtcmcdddnckcpcaaGreatDoor
open Go.RowKit
theorem ret_i64 {a b : Int} (h : a = b) : Ending.returned (.int .i64 a) = .returned (.int .i64 b) := by rw [h]
theorem bitLenAux_log : ∀ (f x : Nat), 0 < x → x < 2 ^ f → Lib.bitLenAux f x = Nat.log2 x + 1 := by
  intro f
  induction f with
  | zero => intro x h0 h1; simp at h1; omega
  | succ f ih =>
    intro x h0 h1
    rw [Lib.bitLenAux, if_neg (by omega), Nat.log2_def]
    by_cases h2 : 2 ≤ x
    · rw [if_pos h2, ih (x / 2) (by omega) (by rw [Nat.pow_succ] at h1; omega)]
      omega
    · have : x = 1 := by omega
      subst this
      rw [if_neg (by omega)]
      have : Lib.bitLenAux f (1 / 2) = 0 := by cases f <;> simp [Lib.bitLenAux]
      omega
theorem bitLen_log (x : Nat) (h0 : 0 < x) (h1 : x ≤ 9223372036854775807) : Lib.bitLen x = Nat.log2 x + 1 ∧ Nat.log2 x < 63 := by
  refine ⟨bitLenAux_log 64 x h0 (by omega), ?_⟩
  exact (Nat.log2_lt (by omega)).2 (by omega)
theorem behind_any (n : Nat) (w : World) (h : n ≤ 9223372036854775807) : Calls Tryz.prog 111 #[.int .i64 n] w fun e w' => e = .returned (.int .i64 (kOf n)) ∧ w = w' := by
  have KL := Tryz.bits_Len (n : Int) w (by omega) (by omega)
  rw [Int.toNat_natCast] at KL
  have n0 : (0 : Int) ≤ (n : Int) := by omega
  have n1 : (n : Int) ≤ 9223372036854775807 := by omega
  rcases Nat.eq_zero_or_pos n with hz | hp
  · subst hz
    have hL : Lib.bitLen 0 = 0 := by decide
    rw [hL] at KL
    clear hL
    go_enter Tryz.func111, Tryz.ntmps111
    go_wp2_with (go_at_call 120; refine KL.mono ?_; rintro e w' ⟨rfl, rfl⟩)
    go_ret
    exact ⟨rfl, rfl⟩
  · obtain ⟨hL, hlog⟩ := bitLen_log n hp h
    rw [hL] at KL
    obtain ⟨L, hLL⟩ : ∃ L, Nat.log2 n = L := ⟨_, rfl⟩
    have HK : Hid (kOf n = L / 7) := Lib.hid (by unfold kOf; rw [hLL])
    rw [hLL] at KL hlog
    clear hL hLL
    have l0 : (0 : Int) ≤ (L : Int) := by omega
    have l1 : (L : Int) < 63 := by omega
    go_enter Tryz.func111, Tryz.ntmps111
    go_wp2_with (go_at_call 120; refine KL.mono ?_; rintro e w' ⟨rfl, rfl⟩)
    go_ret
    exact ⟨ret_i64 (by rw [HK.out]; omega), rfl⟩
def Bl (w : World) (b : Nat) (cs : Array Value) (e : TypeId) : Prop := w.heap[b]? = some (.cells cs e (0, 0))
theorem Bl.cell {w : World} {b : Nat} {cs : Array Value} {e : TypeId} (h : Bl w b cs e) (i : Nat) : w.cell? ⟨b, i, none⟩ = cs[i]? := by
  unfold Bl at h
  unfold World.cell?; rw [h]; simp
theorem Bl.frozen {w : World} {b : Nat} {cs : Array Value} {e : TypeId} (h : Bl w b cs e) (i : Nat) : w.frozen? ⟨b, i, none⟩ = false := by
  unfold Bl at h
  unfold World.frozen?; rw [h]; simp
theorem Bl.set {w : World} {b : Nat} {cs : Array Value} {e : TypeId} (h : Bl w b cs e) (i : Nat) (v : Value) : Bl (w.setCell ⟨b, i, none⟩ v) b (cs.setIfInBounds i v) e := by
  unfold Bl at h ⊢
  show (w.heap.modify b _)[b]? = _
  rw [Array.getElem?_modify, if_pos rfl, h]; simp
theorem Bl.lt {w : World} {b : Nat} {cs : Array Value} {e : TypeId} (h : Bl w b cs e) : b < w.heap.size := (Array.getElem?_eq_some_iff.1 h).1
theorem Bl.below {w w' : World} {b : Nat} {cs : Array Value} {e : TypeId} (h : Bl w b cs e) (hb : Below w.heap.size w w') : Bl w' b cs e := (hb.block b h.lt).trans h
theorem Bl.new (w : World) (cs : Array Value) (e : TypeId) : Bl (w.alloc (.cells cs e)) w.heap.size cs e := heap_alloc_new w _
theorem Bl.alloc {w : World} {b : Nat} {cs : Array Value} {e : TypeId} (h : Bl w b cs e) (o : Obj) : Bl (w.alloc o) b cs e := (heap_alloc_old w o h.lt).trans h
theorem Bl.drew {w : World} {b : Nat} {cs : Array Value} {e : TypeId} (h : Bl w b cs e) : Bl w.drew b cs e := h
theorem Bl.other {w : World} {b X : Nat} {cs : Array Value} {e : TypeId} (h : Bl w b cs e) (hne : b ≠ X) (i : Nat) (v : Value) : Bl (w.setCell ⟨X, i, none⟩ v) b cs e := (Below.heap_setCell w ⟨X, i, none⟩ v b hne).trans h
/-- What the library's variables hold. -/
theorem be_zeros (k : Nat) (n : Nat) (j : Nat) (h : j ≤ k) : ((List.replicate (k + 1 - j) (0 : UInt8) ++ be n j).set (k - j) (UInt8.ofNat (n / 256 ^ j))) = List.replicate (k + 1 - (j + 1)) 0 ++ be n (j + 1) := by
  have e : k + 1 - j = (k - j) + 1 := by omega
  rw [e, show k + 1 - (j + 1) = k - j by omega, be_cons, List.replicate_succ', List.append_assoc, List.set_append_right _ _ (by simp)]
  simp
def bcells (l : Bs) : List Value := l.map fun c => .int .u8 (c.toNat : Int)
theorem byte_int (N : Nat) : (N : Int) % 256 = ((UInt8.ofNat N).toNat : Int) := by rw [UInt8.toNat_ofNat']; omega
theorem bcells_set (l : Bs) (i : Nat) (c : UInt8) : (bcells l).toArray.setIfInBounds i (.int .u8 (c.toNat : Int)) = (bcells (l.set i c)).toArray := by
  simp [bcells, List.map_set]
theorem or_pre0 (x : Nat) (h : x < 2 ^ (7 - 0)) : (bits BinOp.or IntKind.u8 (x : Int) (bits BinOp.xor IntKind.u8 (if IntKind.u8.signed = true then -1 else IntKind.u8.max) 255)) = ((pre 0 : Nat) : Int) + (x : Int) :=
  (by decide +kernel : ∀ y : Fin 128, (bits BinOp.or IntKind.u8 (y.val : Int) (bits BinOp.xor IntKind.u8 (if IntKind.u8.signed = true then -1 else IntKind.u8.max) 255)) = ((pre 0 : Nat) : Int) + (y.val : Int)) ⟨x, h⟩
theorem or_pre1 (x : Nat) (h : x < 2 ^ (7 - 1)) : (bits BinOp.or IntKind.u8 (x : Int) (bits BinOp.xor IntKind.u8 (if IntKind.u8.signed = true then -1 else IntKind.u8.max) 127)) = ((pre 1 : Nat) : Int) + (x : Int) :=
  (by decide +kernel : ∀ y : Fin 64, (bits BinOp.or IntKind.u8 (y.val : Int) (bits BinOp.xor IntKind.u8 (if IntKind.u8.signed = true then -1 else IntKind.u8.max) 127)) = ((pre 1 : Nat) : Int) + (y.val : Int)) ⟨x, h⟩
theorem or_pre2 (x : Nat) (h : x < 2 ^ (7 - 2)) : (bits BinOp.or IntKind.u8 (x : Int) (bits BinOp.xor IntKind.u8 (if IntKind.u8.signed = true then -1 else IntKind.u8.max) 63)) = ((pre 2 : Nat) : Int) + (x : Int) :=
  (by decide +kernel : ∀ y : Fin 32, (bits BinOp.or IntKind.u8 (y.val : Int) (bits BinOp.xor IntKind.u8 (if IntKind.u8.signed = true then -1 else IntKind.u8.max) 63)) = ((pre 2 : Nat) : Int) + (y.val : Int)) ⟨x, h⟩
theorem or_pre3 (x : Nat) (h : x < 2 ^ (7 - 3)) : (bits BinOp.or IntKind.u8 (x : Int) (bits BinOp.xor IntKind.u8 (if IntKind.u8.signed = true then -1 else IntKind.u8.max) 31)) = ((pre 3 : Nat) : Int) + (x : Int) :=
  (by decide +kernel : ∀ y : Fin 16, (bits BinOp.or IntKind.u8 (y.val : Int) (bits BinOp.xor IntKind.u8 (if IntKind.u8.signed = true then -1 else IntKind.u8.max) 31)) = ((pre 3 : Nat) : Int) + (y.val : Int)) ⟨x, h⟩
theorem or_pre4 (x : Nat) (h : x < 2 ^ (7 - 4)) : (bits BinOp.or IntKind.u8 (x : Int) (bits BinOp.xor IntKind.u8 (if IntKind.u8.signed = true then -1 else IntKind.u8.max) 15)) = ((pre 4 : Nat) : Int) + (x : Int) :=
  (by decide +kernel : ∀ y : Fin 8, (bits BinOp.or IntKind.u8 (y.val : Int) (bits BinOp.xor IntKind.u8 (if IntKind.u8.signed = true then -1 else IntKind.u8.max) 15)) = ((pre 4 : Nat) : Int) + (y.val : Int)) ⟨x, h⟩
theorem or_pre5 (x : Nat) (h : x < 2 ^ (7 - 5)) : (bits BinOp.or IntKind.u8 (x : Int) (bits BinOp.xor IntKind.u8 (if IntKind.u8.signed = true then -1 else IntKind.u8.max) 7)) = ((pre 5 : Nat) : Int) + (x : Int) :=
  (by decide +kernel : ∀ y : Fin 4, (bits BinOp.or IntKind.u8 (y.val : Int) (bits BinOp.xor IntKind.u8 (if IntKind.u8.signed = true then -1 else IntKind.u8.max) 7)) = ((pre 5 : Nat) : Int) + (y.val : Int)) ⟨x, h⟩
theorem pre_lt (k x : Nat) (hk : k ≤ 5) (h : x < 2 ^ (7 - k)) : pre k + x < 256 := by
  have h5 : k = 0 ∨ k = 1 ∨ k = 2 ∨ k = 3 ∨ k = 4 ∨ k = 5 := by omega
  unfold pre
  rcases h5 with rfl | rfl | rfl | rfl | rfl | rfl <;> simp only [Nat.reducePow, Nat.reduceSub] at h ⊢ <;> omega
set_option maxRecDepth 100000 in
theorem conv_bl {w : World} {b n k x : Nat} (h : Bl w b ((bcells (UInt8.ofNat x :: be n k)).toArray.setIfInBounds 0 (.int .u8 (((pre k : Nat) : Int) + (x : Int)))) 5) (hk : k = kOf n) (hx : x = n / 256 ^ kOf n) (hl : pre (kOf n) + n / 256 ^ kOf n < 256) (l c : Nat) (hlen : l = kOf n + 1) :
    (convert 62 9 (.slice (some ⟨b, 0, none⟩) l c)).run Tryz.prog w = .ok (.string (mk (putB n))) w := by
  subst hk
  subst hx
  have e : (bcells (UInt8.ofNat (n / 256 ^ kOf n) :: be n (kOf n))).toArray.setIfInBounds 0 (.int .u8 (((pre (kOf n) : Nat) : Int) + ((n / 256 ^ kOf n : Nat) : Int))) = (bcells (putB n)).toArray := by
    rw [show ((pre (kOf n) : Nat) : Int) + ((n / 256 ^ kOf n : Nat) : Int) = ((UInt8.ofNat (pre (kOf n) + n / 256 ^ kOf n)).toNat : Int) by rw [UInt8.toNat_ofNat', Nat.mod_eq_of_lt hl]; omega, bcells_set]
    rfl
  rw [e] at h
  rw [hlen, ← putB_length]
  exact run_convert_bytes_back (P := Tryz.prog) w 62 9 5 ⟨b, 0, none⟩ c (putB n) Tryz.underlying62 Tryz.underlying5 Tryz.underlying9 (fun j hj => by
    rw [Go.Lib.add_plain, Nat.zero_add, h.cell j]
    simp [bcells, hj])
theorem made_zero (m : Nat) : madeCells (Value.int .u8 0).cells m = (bcells (List.replicate m 0)).toArray := by
  refine Array.ext (by simp [madeCells, bcells]) fun i h1 h2 => ?_
  simp [madeCells, bcells, Value.cells, Nat.mod_one]
theorem info5n : (Tryz.prog.info? 5).map (fun i => (i.zero, i.size, i.bytes)) = some (some (.int .u8 0), 1, 1) := by kernel_rfl
set_option maxRecDepth 100000 in
set_option maxHeartbeats 4000000 in
theorem put_any (n : Nat) (w : World) (h : n ≤ 1099511627776) : Calls Tryz.prog 84 #[.int .i64 n] w fun e w' => e = .returned (.string (mk (putB n))) ∧ Below w.heap.size w w' := by
  obtain ⟨i5, hi5, hz0, hz1, hz2⟩ := info_parts info5n
  have KB := behind_any n w (by omega)
  have hk5 := kOf_le n h
  obtain ⟨k, hk⟩ : ∃ k, kOf n = k := ⟨_, rfl⟩
  rw [hk] at KB hk5
  have HK := Lib.hid hk
  have n0 : (0 : Int) ≤ (n : Int) := by omega
  have n1 : (n : Int) ≤ 1099511627776 := by omega
  have k0 : (0 : Int) ≤ (k : Int) := by omega
  have k5 : (k : Int) ≤ 5 := by omega
  have hmk := run_make (P := Tryz.prog) w 62 5 i5 _ Tryz.underlying62 hi5 hz0 .i64 .i64 ((k : Int) + 1) ((k : Int) + 1) (by omega) (by omega) (by rw [hz2]; omega) (by omega)
  have hN1 : ((k : Int) + 1).toNat = k + 1 := by omega
  rw [hN1, hz1, Nat.mul_one] at hmk
  have hcs := made_zero (k + 1)
  rw [hcs] at hmk
  have hB0 := Bl.new w (bcells (List.replicate (k + 1) 0)).toArray 5
  have hb0 := below_alloc w (.cells (bcells (List.replicate (k + 1) 0)).toArray 5)
  obtain ⟨b, hb⟩ : ∃ b, w.heap.size = b := ⟨_, rfl⟩
  have HBB := Lib.hid hb
  obtain ⟨W, hW⟩ : ∃ W, w.alloc (.cells (bcells (List.replicate (k + 1) 0)).toArray 5) = W := ⟨_, rfl⟩
  rw [hW] at hmk hB0 hb0
  rw [hb] at hmk hB0 hb0 ⊢
  have HB0 := Lib.hid hB0
  have Hb0 := Lib.hid hb0
  clear hcs hN1 hb hW hk hB0 hb0
  go_enter Tryz.func84, Tryz.ntmps84
  go_wp2_with (go_at_call 111; refine KB.mono ?_; rintro e w' ⟨rfl, rfl⟩)
  go_loopw [0, 5] (fun nv iv wr => ∃ j : Nat, j ≤ k + 1 ∧ nv = .int .i64 ((n / 256 ^ j : Nat) : Int) ∧ iv = .int .i64 ((k : Int) - (j : Int)) ∧ Bl wr b (bcells (List.replicate (k + 1 - j) 0 ++ be n j)).toArray 5 ∧ Below b w wr) (fun _ iv _ => (intOf iv + 1).toNat)
  case atStart => exact ⟨0, by omega, by simp, by go_num, by simpa [be] using HB0.out, Hb0.out⟩
  case round =>
    obtain ⟨j, hj, rfl, rfl, hB, hb⟩ := hrel
    clear hmk HB0 Hb0
    rcases Nat.lt_or_ge k j with hge | hlt
    · obtain rfl : j = k + 1 := by omega
      rw [Nat.sub_self, List.replicate_zero, List.nil_append, be_cons] at hB
      have htop := top_lt n h
      rw [HK.out] at htop
      obtain ⟨x, hx⟩ : ∃ x, n / 256 ^ k = x := ⟨_, rfl⟩
      have HX := Lib.hid hx
      rw [hx] at hB htop
      have hx7 : (UInt8.ofNat x).toNat = x := by
        have : 2 ^ (7 - k) ≤ 128 := by
          have := Nat.pow_le_pow_right (n := 2) (by omega) (show 7 - k ≤ 7 by omega)
          simpa using this
        rw [UInt8.toNat_ofNat']; omega
      have hc := hB.cell 0
      have hf := hB.frozen 0
      have e0 : (bcells (UInt8.ofNat x :: be n k)).toArray[0]? = some (.int .u8 (x : Int)) := by simp [bcells, hx7]
      rw [e0] at hc
      have HB := Lib.hid hB
      have Hb := Lib.hid hb
      have HK5 := Lib.hid hk5
      have Htop := Lib.hid htop
      obtain ⟨y, hy⟩ : ∃ y, n / 256 ^ (k + 1) = y := ⟨_, rfl⟩
      rw [hy]
      have kk : k = 0 ∨ k = 1 ∨ k = 2 ∨ k = 3 ∨ k = 4 ∨ k = 5 := by omega
      clear hx hx7 e0 hB hb htop hy
      rcases kk with rfl | rfl | rfl | rfl | rfl | rfl
      · have hV := or_pre0 x Htop.out
        go_wp2
        go_region
        have hBf := (HB.out.set 0 (.int .u8 (((pre 0 : Nat) : Int) + (x : Int)))).drew
        have hcv := conv_bl (n := n) hBf (by rw [HK.out]) (by rw [HK.out, HX.out]) (by rw [HK.out, HX.out]; exact pre_lt 0 x (by omega) Htop.out) 1 1 (by rw [HK.out])
        go_wp2
        go_ret
        exact ⟨rfl, (Hb.out.setCell (p := ⟨b, 0, none⟩) (Nat.le_refl _) _).drew⟩
      · have hV := or_pre1 x Htop.out
        go_wp2
        go_region
        have hBf := (HB.out.set 0 (.int .u8 (((pre 1 : Nat) : Int) + (x : Int)))).drew
        have hcv := conv_bl (n := n) hBf (by rw [HK.out]) (by rw [HK.out, HX.out]) (by rw [HK.out, HX.out]; exact pre_lt 1 x (by omega) Htop.out) 2 2 (by rw [HK.out])
        go_wp2
        go_ret
        exact ⟨rfl, (Hb.out.setCell (p := ⟨b, 0, none⟩) (Nat.le_refl _) _).drew⟩
      · have hV := or_pre2 x Htop.out
        go_wp2
        go_region
        have hBf := (HB.out.set 0 (.int .u8 (((pre 2 : Nat) : Int) + (x : Int)))).drew
        have hcv := conv_bl (n := n) hBf (by rw [HK.out]) (by rw [HK.out, HX.out]) (by rw [HK.out, HX.out]; exact pre_lt 2 x (by omega) Htop.out) 3 3 (by rw [HK.out])
        go_wp2
        go_ret
        exact ⟨rfl, (Hb.out.setCell (p := ⟨b, 0, none⟩) (Nat.le_refl _) _).drew⟩
      · have hV := or_pre3 x Htop.out
        go_wp2
        go_region
        have hBf := (HB.out.set 0 (.int .u8 (((pre 3 : Nat) : Int) + (x : Int)))).drew
        have hcv := conv_bl (n := n) hBf (by rw [HK.out]) (by rw [HK.out, HX.out]) (by rw [HK.out, HX.out]; exact pre_lt 3 x (by omega) Htop.out) 4 4 (by rw [HK.out])
        go_wp2
        go_ret
        exact ⟨rfl, (Hb.out.setCell (p := ⟨b, 0, none⟩) (Nat.le_refl _) _).drew⟩
      · have hV := or_pre4 x Htop.out
        go_wp2
        go_region
        have hBf := (HB.out.set 0 (.int .u8 (((pre 4 : Nat) : Int) + (x : Int)))).drew
        have hcv := conv_bl (n := n) hBf (by rw [HK.out]) (by rw [HK.out, HX.out]) (by rw [HK.out, HX.out]; exact pre_lt 4 x (by omega) Htop.out) 5 5 (by rw [HK.out])
        go_wp2
        go_ret
        exact ⟨rfl, (Hb.out.setCell (p := ⟨b, 0, none⟩) (Nat.le_refl _) _).drew⟩
      · have hV := or_pre5 x Htop.out
        go_wp2
        go_region
        have hBf := (HB.out.set 0 (.int .u8 (((pre 5 : Nat) : Int) + (x : Int)))).drew
        have hcv := conv_bl (n := n) hBf (by rw [HK.out]) (by rw [HK.out, HX.out]) (by rw [HK.out, HX.out]; exact pre_lt 5 x (by omega) Htop.out) 6 6 (by rw [HK.out])
        go_wp2
        go_ret
        exact ⟨rfl, (Hb.out.setCell (p := ⟨b, 0, none⟩) (Nat.le_refl _) _).drew⟩
    · obtain ⟨I, hI⟩ : ∃ I, k - j = I := ⟨_, rfl⟩
      have hkj : (k : Int) - (j : Int) = (I : Int) := by omega
      rw [hkj]
      have hd : n / 256 ^ (j + 1) = n / 256 ^ j / 256 := by rw [Nat.pow_succ, Nat.div_div_eq_div_mul]
      have hNle : n / 256 ^ j ≤ n := Nat.div_le_self _ _
      have hz := be_zeros k n j hlt
      rw [hI] at hz
      obtain ⟨N, hN⟩ : ∃ N, n / 256 ^ j = N := ⟨_, rfl⟩
      rw [hN] at hd hz hNle ⊢
      have hc := hB.cell I
      have hf := hB.frozen I
      have hc0 : ∃ x, (bcells (List.replicate (k + 1 - j) 0 ++ be n j)).toArray[I]? = some x := by
        have : I < (bcells (List.replicate (k + 1 - j) 0 ++ be n j)).toArray.size := by simp [bcells]; omega
        exact ⟨_, Array.getElem?_eq_getElem this⟩
      obtain ⟨x0, hx0⟩ := hc0
      rw [hx0] at hc
      have HD := Lib.hid hd
      have HZ := Lib.hid hz
      have HB := Lib.hid hB
      have Hb := Lib.hid hb
      have i0 : (0 : Int) ≤ (I : Int) := by omega
      have i1 : (I : Int) < (k : Int) + 1 := by omega
      have N0 : (0 : Int) ≤ (N : Int) := by omega
      have N1 : (N : Int) ≤ 1099511627776 := by omega
      clear hd hz hN hB hb hx0 hkj hNle
      go_wp2
      go_roundw
      case rel =>
        refine ⟨j + 1, by omega, congrArg _ (by rw [HD.out]; omega), congrArg _ (by omega), ?_, Hb.out.setCell (p := ⟨b, I, none⟩) (Nat.le_refl _) _⟩
        rw [← HZ.out, ← bcells_set, ← show (N : Int) % 256 = ((UInt8.ofNat N).toNat : Int) from byte_int N]
        exact HB.out.set I _
      case measure => simp [intOf]
end Go.Proofs.YtcmcdddnckcpcaaGreatDoor
