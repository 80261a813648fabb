/- stemmaref01.Put and stemmaref16.text, walked. -/
import Derived.Test.YtlkfnhcnfjdgbaaDoorNu
import Derived.Test.YtlkfnhcnfjdgbaaDoorBo
namespace Go.Proofs.YtlkfnhcnfjdgbaaDoor
open Go.RowKit
theorem kOf_step (n k : Nat) (h : k ≤ kOf n) : 128 ^ (k + 1) ≤ n ↔ k + 1 ≤ kOf n := by
  have h1 := kOf_lt n
  constructor
  · intro h2
    rcases Nat.lt_or_ge k (kOf n) with h3 | h3
    · omega
    · have : k = kOf n := by omega
      subst this; omega
  · intro h2
    exact Nat.le_trans (Nat.pow_le_pow_right (by omega) h2) (kOf_ge n (by omega))
theorem conv_one (w : World) (x : Int) (c : UInt8) (hx : x = (c.toNat : Int)) : (convert 84 9 (.slice (some ⟨w.heap.size, 0, none⟩) 1 1)).run Tryd.prog (w.alloc (.cells #[.int .u8 x] 5)) = .ok (.string (mk [c])) (w.alloc (.cells #[.int .u8 x] 5)) := by
  subst hx
  refine run_convert_bytes_back (P := Tryd.prog) (w.alloc (.cells #[.int .u8 (c.toNat : Int)] 5)) 84 9 5 ⟨w.heap.size, 0, none⟩ 1 [c] Tryd.underlying84 Tryd.underlying5 Tryd.underlying9 (fun j hj => ?_)
  obtain rfl : j = 0 := by simpa using hj
  exact World.news_of_block (cs := #[.int .u8 (c.toNat : Int)]) (heap_alloc_new w _) 0 _ rfl
theorem pre_val : ∀ k : Fin 6, (([0, 128, 192, 224, 240, 248] : List Nat)[k.val]) = pre k.val := by decide
set_option maxRecDepth 100000 in
set_option maxHeartbeats 4000000 in
theorem rput_any (n : Nat) (w : World) (h : n ≤ 1099511627776) : Calls Tryd.prog 63 #[.int .i64 n] w fun e w' => e = .returned (.string (mk (putB n))) ∧ Below w.heap.size w w' := by
  have hk5 := kOf_le n h
  have n0 : (0 : Int) ≤ (n : Int) := by omega
  have n1 : (n : Int) ≤ 1099511627776 := by omega
  have HKS := Lib.hid (kOf_step n)
  have HK5 := Lib.hid hk5
  clear hk5
  go_enter Tryd.func63, Tryd.ntmps63
  go_wp2
  go_loop [3, 4] (fun kv rv => ∃ k R : Nat, k ≤ kOf n ∧ kv = .int .i64 k ∧ rv = .int .i64 R ∧ Hid (R = 128 ^ (k + 1))) (fun kv _ => (7 - intOf kv).toNat)
  case atStart => exact ⟨0, 128, by omega, rfl, rfl, Lib.hid rfl⟩
  case round =>
    obtain ⟨k, R, hk, rfl, rfl, HR⟩ := hrel
    have k0 : (0 : Int) ≤ (k : Int) := by omega
    have k5 : (k : Int) ≤ 5 := by have := HK5.out; omega
    have hRb : R ≤ 4398046511104 := by
      rw [HR.out]
      exact Nat.le_trans (Nat.pow_le_pow_right (by omega) (show k + 1 ≤ 6 by have := HK5.out; omega)) (by decide)
    have R0 : (0 : Int) ≤ (R : Int) := by omega
    have R1 : (R : Int) ≤ 4398046511104 := by omega
    have hst := HKS.out k hk
    rw [← HR.out] at hst
    rcases Nat.lt_or_ge n R with hlt | hge
    · obtain ⟨K, hK⟩ : ∃ K, kOf n = K := ⟨_, rfl⟩
      obtain rfl : k = K := by omega
      have HK := Lib.hid hK
      clear hRb hst hK hk HR R0 R1 HKS
      go_wp2
      have k6 : (k : Int) < 6 := by omega
      go_loopw [0, 5, 6] (fun nv sv jv wr => ∃ j : Nat, j ≤ k ∧ jv = .int .i64 j ∧ nv = .int .i64 ((n / 256 ^ j : Nat) : Int) ∧ sv = .string (mk (be n j)) ∧ Below w.heap.size w wr) (fun _ _ jv _ => (7 - intOf jv).toNat)
      case atStart => exact ⟨0, by omega, rfl, by simp, rfl, Below.refl _ _⟩
      case round =>
        obtain ⟨j, hj, rfl, rfl, rfl, hb⟩ := hrel
        have j0 : (0 : Int) ≤ (j : Int) := by omega
        have hNle : n / 256 ^ j ≤ n := Nat.div_le_self _ _
        rcases Nat.lt_or_ge j k with hlt2 | hge2
        · have j1 : (j : Int) < (k : Int) := by omega
          have hd : n / 256 ^ (j + 1) = n / 256 ^ j / 256 := by rw [Nat.pow_succ, Nat.div_div_eq_div_mul]
          have hbe := be_cons j n
          have hbl := be_length j n
          obtain ⟨N, hN⟩ : ∃ N, n / 256 ^ j = N := ⟨_, rfl⟩
          rw [hN] at hd hNle hbe ⊢
          have N0 : (0 : Int) ≤ (N : Int) := by omega
          have N1 : (N : Int) ≤ 1099511627776 := by omega
          have hcv := conv_one wr ((N : Int) % 256) (UInt8.ofNat N) (byte_int N)
          have hsz1 : (mk [UInt8.ofNat N]).size = 1 := mk_size _
          have hsz2 : (mk (be n j)).size = j := by rw [mk_size, hbl]
          have happ : mk [UInt8.ofNat N] ++ mk (be n j) = mk (be n (j + 1)) := by
            rw [hbe]; apply ByteArray.ext; simp [mk, ByteArray.data_append]
          obtain ⟨S1, hS1⟩ : ∃ S, mk [UInt8.ofNat N] = S := ⟨_, rfl⟩
          obtain ⟨S2, hS2⟩ : ∃ S, mk (be n j) = S := ⟨_, rfl⟩
          rw [hS1, hS2] at happ
          rw [hS1] at hcv hsz1
          rw [hS2] at hsz2 ⊢
          have HA := Lib.hid happ
          have HD := Lib.hid hd
          have HB := Lib.hid hb
          clear hd hbe hbl hN hNle hS1 hS2 hb happ
          go_wp2
          go_roundw
          case rel => exact ⟨j + 1, by omega, by go_num, congrArg _ (by rw [HD.out]; omega), by rw [← HA.out], HB.out.alloc HB.out.size _⟩
          case measure => simp [intOf]; omega
        · obtain rfl : j = k := by omega
          have htop := top_lt n h
          rw [HK.out] at htop
          have hpl := pre_lt j (n / 256 ^ j) (by have := HK5.out; have := HK.out; omega) htop
          have hput : putB n = UInt8.ofNat (pre j + n / 256 ^ j) :: be n j := by unfold putB; rw [HK.out]
          have hbl := be_length j n
          obtain ⟨N, hN⟩ : ∃ N, n / 256 ^ j = N := ⟨_, rfl⟩
          rw [hN] at hpl hput hNle ⊢
          have happ : mk [UInt8.ofNat (pre j + N)] ++ mk (be n j) = mk (putB n) := by
            rw [hput]; apply ByteArray.ext; simp [mk, ByteArray.data_append]
          have hsz1 : (mk [UInt8.ofNat (pre j + N)]).size = 1 := mk_size _
          have hsz2 : (mk (be n j)).size = j := by rw [mk_size, hbl]
          have hcv := fun (W : World) (x : Int) (hx : x = ((pre j + N : Nat) : Int)) => conv_one W x (UInt8.ofNat (pre j + N)) (by rw [hx, UInt8.toNat_ofNat', Nat.mod_eq_of_lt hpl])
          have hcells := fun i u hi => World.news_of_block (cs := #[.int .i64 0, .int .i64 128, .int .i64 192, .int .i64 224, .int .i64 240, .int .i64 248]) (t := 3) (fr := (0, 0)) (heap_alloc_new wr _) i u hi
          have N0 : (0 : Int) ≤ (N : Int) := by omega
          have N2 : (N : Int) < 256 := by omega
          have kk : j = 0 ∨ j = 1 ∨ j = 2 ∨ j = 3 ∨ j = 4 ∨ j = 5 := by have := HK5.out; have := HK.out; omega
          obtain ⟨S1, hS1⟩ : ∃ S, mk [UInt8.ofNat (pre j + N)] = S := ⟨_, rfl⟩
          obtain ⟨S2, hS2⟩ : ∃ S, mk (be n j) = S := ⟨_, rfl⟩
          rw [hS1, hS2] at happ
          rw [hS1] at hsz1
          simp only [hS1] at hcv
          rw [hS2] at hsz2 ⊢
          have HA := Lib.hid happ
          have HB := Lib.hid hb
          have HPL := Lib.hid hpl
          have HCV := Lib.hid hcv
          clear hput hbl hN hNle hS1 hS2 hb happ htop hpl hcv
          rcases kk with rfl | rfl | rfl | rfl | rfl | rfl
          · have c0 := hcells 0 _ rfl
            have hcv := HCV.out (wr.alloc (.cells #[.int .i64 0, .int .i64 128, .int .i64 192, .int .i64 224, .int .i64 240, .int .i64 248] 3)) (N : Int) (by rw [show pre 0 = 0 from rfl]; omega)
            rw [show (wr.alloc (.cells #[.int .i64 0, .int .i64 128, .int .i64 192, .int .i64 224, .int .i64 240, .int .i64 248] 3)).heap.size = wr.heap.size + 1 by simp] at hcv
            have hmod : (N : Int) % 256 = (N : Int) := by have := HPL.out; rw [show pre 0 = 0 from rfl] at this; omega
            clear hcells
            go_wp2
            go_ret
            exact ⟨by rw [← HA.out]; rfl, (HB.out.alloc HB.out.size _).alloc (by have := HB.out.size; simp; omega) _⟩
          · have c0 := hcells 1 _ rfl
            have hcv := HCV.out (wr.alloc (.cells #[.int .i64 0, .int .i64 128, .int .i64 192, .int .i64 224, .int .i64 240, .int .i64 248] 3)) (128 + (N : Int)) (by rw [show pre 1 = 128 from rfl]; omega)
            rw [show (wr.alloc (.cells #[.int .i64 0, .int .i64 128, .int .i64 192, .int .i64 224, .int .i64 240, .int .i64 248] 3)).heap.size = wr.heap.size + 1 by simp] at hcv
            have hmod : (128 + (N : Int)) % 256 = 128 + (N : Int) := by have := HPL.out; rw [show pre 1 = 128 from rfl] at this; omega
            clear hcells
            go_wp2
            go_ret
            exact ⟨by rw [← HA.out]; rfl, (HB.out.alloc HB.out.size _).alloc (by have := HB.out.size; simp; omega) _⟩
          · have c0 := hcells 2 _ rfl
            have hcv := HCV.out (wr.alloc (.cells #[.int .i64 0, .int .i64 128, .int .i64 192, .int .i64 224, .int .i64 240, .int .i64 248] 3)) (192 + (N : Int)) (by rw [show pre 2 = 192 from rfl]; omega)
            rw [show (wr.alloc (.cells #[.int .i64 0, .int .i64 128, .int .i64 192, .int .i64 224, .int .i64 240, .int .i64 248] 3)).heap.size = wr.heap.size + 1 by simp] at hcv
            have hmod : (192 + (N : Int)) % 256 = 192 + (N : Int) := by have := HPL.out; rw [show pre 2 = 192 from rfl] at this; omega
            clear hcells
            go_wp2
            go_ret
            exact ⟨by rw [← HA.out]; rfl, (HB.out.alloc HB.out.size _).alloc (by have := HB.out.size; simp; omega) _⟩
          · have c0 := hcells 3 _ rfl
            have hcv := HCV.out (wr.alloc (.cells #[.int .i64 0, .int .i64 128, .int .i64 192, .int .i64 224, .int .i64 240, .int .i64 248] 3)) (224 + (N : Int)) (by rw [show pre 3 = 224 from rfl]; omega)
            rw [show (wr.alloc (.cells #[.int .i64 0, .int .i64 128, .int .i64 192, .int .i64 224, .int .i64 240, .int .i64 248] 3)).heap.size = wr.heap.size + 1 by simp] at hcv
            have hmod : (224 + (N : Int)) % 256 = 224 + (N : Int) := by have := HPL.out; rw [show pre 3 = 224 from rfl] at this; omega
            clear hcells
            go_wp2
            go_ret
            exact ⟨by rw [← HA.out]; rfl, (HB.out.alloc HB.out.size _).alloc (by have := HB.out.size; simp; omega) _⟩
          · have c0 := hcells 4 _ rfl
            have hcv := HCV.out (wr.alloc (.cells #[.int .i64 0, .int .i64 128, .int .i64 192, .int .i64 224, .int .i64 240, .int .i64 248] 3)) (240 + (N : Int)) (by rw [show pre 4 = 240 from rfl]; omega)
            rw [show (wr.alloc (.cells #[.int .i64 0, .int .i64 128, .int .i64 192, .int .i64 224, .int .i64 240, .int .i64 248] 3)).heap.size = wr.heap.size + 1 by simp] at hcv
            have hmod : (240 + (N : Int)) % 256 = 240 + (N : Int) := by have := HPL.out; rw [show pre 4 = 240 from rfl] at this; omega
            clear hcells
            go_wp2
            go_ret
            exact ⟨by rw [← HA.out]; rfl, (HB.out.alloc HB.out.size _).alloc (by have := HB.out.size; simp; omega) _⟩
          · have c0 := hcells 5 _ rfl
            have hcv := HCV.out (wr.alloc (.cells #[.int .i64 0, .int .i64 128, .int .i64 192, .int .i64 224, .int .i64 240, .int .i64 248] 3)) (248 + (N : Int)) (by rw [show pre 5 = 248 from rfl]; omega)
            rw [show (wr.alloc (.cells #[.int .i64 0, .int .i64 128, .int .i64 192, .int .i64 224, .int .i64 240, .int .i64 248] 3)).heap.size = wr.heap.size + 1 by simp] at hcv
            have hmod : (248 + (N : Int)) % 256 = 248 + (N : Int) := by have := HPL.out; rw [show pre 5 = 248 from rfl] at this; omega
            clear hcells
            go_wp2
            go_ret
            exact ⟨by rw [← HA.out]; rfl, (HB.out.alloc HB.out.size _).alloc (by have := HB.out.size; simp; omega) _⟩
    · have hge' : (R : Int) ≤ (n : Int) := by omega
      have hk2 : k + 1 ≤ kOf n := hst.1 hge
      clear hRb hst hge
      go_wp2
      go_round
      case rel => exact ⟨k + 1, R * 128, hk2, by go_num, by go_num, Lib.hid (by rw [HR.out, Nat.pow_succ 128 (k + 1)])⟩
      case measure => simp [intOf]; omega
theorem kOf_small (n : Nat) (h : n ≤ 1099511627776) : (putB n).length ≤ 6 := by rw [putB_length]; have := kOf_le n h; omega
/-- A text behind its length. -/
def textB (t : Bs) : Bs := putB t.length ++ t
set_option maxRecDepth 100000 in
theorem text_any (t : Bs) (w : World) (h : t.length ≤ 1099511627776) : Calls Tryd.prog 39 #[.string (mk t)] w fun e w' => e = .returned (.string (mk (textB t))) ∧ Below w.heap.size w w' := by
  have KP := rput_any t.length w h
  have hks := kOf_small t.length h
  have happ : mk (putB t.length) ++ mk t = mk (textB t) := mk_app _ _
  obtain ⟨X, hX⟩ : ∃ X, mk t = X := ⟨_, rfl⟩
  obtain ⟨Y, hY⟩ : ∃ Y, mk (putB t.length) = Y := ⟨_, rfl⟩
  have hl : X.size = t.length := by rw [← hX, mk_size]
  have hl2 : Y.size = (putB t.length).length := by rw [← hY, mk_size]
  rw [← hl2] at hks
  rw [hX, hY] at happ
  rw [hY, ← hl] at KP
  rw [← hl] at h
  rw [hX]
  have x1 : (X.size : Int) ≤ 1099511627776 := by omega
  have y1 : (Y.size : Int) ≤ 6 := by omega
  have HA := Lib.hid happ
  clear happ hX hY hks hl hl2
  go_enter Tryd.func39, Tryd.ntmps39
  go_wp2_with (go_at_call 63; refine KP.mono ?_; rintro e w' ⟨rfl, hb⟩; have HB := Lib.hid hb; clear hb)
  go_ret
  exact ⟨by rw [← HA.out]; rfl, HB.out⟩
end Go.Proofs.YtlkfnhcnfjdgbaaDoor
