/- names.Table's find, Get and may at one update, walked. -/
import Derived.Test.YtlkfnhcnfjdgbaaDoorMa
namespace Go.Proofs.YtlkfnhcnfjdgbaaDoor
open Go.RowKit
set_option maxHeartbeats 1600000 in
theorem bsf_one (r cap : Nat) (i : ByteArray) (w : World) (h0 : w.cell? ⟨r, 0, none⟩ = some (.string (mk aB))) (h1 : w.cell? ⟨r, 1, none⟩ = some (.string i)) :
    Calls Tryd.prog 52 #[.slice (some ⟨r, 0, none⟩) 1 cap, .string (mk aB), .func (.func 53) #[] #[]] w fun e w' => e = .returned (.tuple #[.int .i64 0, .bool true]) ∧ Below w.heap.size w w' := by
  have K := fun w => cmp_any (mk aB) i (mk aB) w
  rw [mk_data, show Lib.compareBytes aB aB = 0 from by decide] at K
  have hrl := cell_lt h0
  obtain ⟨A, hA⟩ : ∃ A, mk aB = A := ⟨_, rfl⟩
  rw [hA] at K h0 ⊢
  clear hA
  go_enter Tryd.func52, Tryd.ntmps52
  go_wp2
  go_loopw [9, 10, 11] (fun a b _ wr => a = .int .i64 0 ∧ ((b = .int .i64 1 ∧ wr = w) ∨ (b = .int .i64 0 ∧ Below w.heap.size w wr))) (fun _ b _ _ => (intOf b).toNat)
  case atStart => exact ⟨rfl, .inl ⟨rfl, rfl⟩⟩
  case round =>
    obtain ⟨rfl, ⟨rfl, rfl⟩ | ⟨rfl, hb⟩⟩ := hrel
    · go_wp2_with (go_at_call 53; refine (K _).mono ?_; rintro e w' ⟨rfl, hb⟩)
      go_wp2
      go_roundw
      case rel => exact ⟨rfl, .inr ⟨rfl, hb⟩⟩
      case measure => simp [intOf]
    · have g0 := (hb.cell (p := ⟨r, 0, none⟩) hrl).trans h0
      have g1 := (hb.cell (p := ⟨r, 1, none⟩) hrl).trans h1
      have hs := hb.size
      go_wp2_with (go_at_call 53; refine (K _).mono ?_; rintro e w' ⟨rfl, hb'⟩)
      go_wp2
      go_ret2
      exact ⟨rfl, hb.trans (hb'.mono hs)⟩
theorem find_zero (hd : ByteArray) (b : ByteArray) (w : World) : Calls Tryd.prog 30 #[.agg #[.slice none 0 0, .string hd, .slice none 0 0], .string b] w fun e w' => e = .returned (.tuple #[.int .i64 0, .bool false]) ∧ Below w.heap.size w w' := by
  go_enter Tryd.func30, Tryd.ntmps30
  go_wp2_with (go_at_call 52; refine (bsf_zero _ _).mono ?_; rintro e w' ⟨rfl, rfl⟩)
  go_wp2
  go_ret2
  exact ⟨rfl, below_alloc _ _⟩
theorem find_one (r cap : Nat) (hd : ByteArray) (lg : Value) (hlg : ∃ A n c, lg = .slice A n c) (i : ByteArray) (w : World) (h0 : w.cell? ⟨r, 0, none⟩ = some (.string (mk aB))) (h1 : w.cell? ⟨r, 1, none⟩ = some (.string i)) :
    Calls Tryd.prog 30 #[.agg #[.slice (some ⟨r, 0, none⟩) 1 cap, .string hd, lg], .string (mk aB)] w fun e w' => e = .returned (.tuple #[.int .i64 0, .bool true]) ∧ Below w.heap.size w w' := by
  obtain ⟨A, n, c, rfl⟩ := hlg
  have hrl := cell_lt h0
  have hb := below_alloc w (.cells #[.slice (some ⟨r, 0, none⟩) 1 cap, .string hd, .slice A n c] 31)
  have K := bsf_one r cap i _ ((hb.cell (p := ⟨r, 0, none⟩) hrl).trans h0) ((hb.cell (p := ⟨r, 1, none⟩) hrl).trans h1)
  have hs := hb.size
  clear h0 h1
  go_enter Tryd.func30, Tryd.ntmps30
  go_wp2_with (go_at_call 52; refine K.mono ?_; rintro e w' ⟨rfl, hb'⟩)
  go_wp2
  go_ret2
  exact ⟨rfl, hb.trans (hb'.mono hs)⟩
theorem get_zero (hd : ByteArray) (b : ByteArray) (w : World) : Calls Tryd.prog 21 #[.agg #[.slice none 0 0, .string hd, .slice none 0 0], .string b] w fun e w' => e = .returned (.tuple #[.string ⟨#[]⟩, .bool false]) ∧ Below w.heap.size w w' := by
  have hb := below_alloc w (.cells #[.slice none 0 0, .string hd, .slice none 0 0] 31)
  have K := find_zero hd b (w.alloc (.cells #[.slice none 0 0, .string hd, .slice none 0 0] 31))
  have hs := hb.size
  go_enter Tryd.func21, Tryd.ntmps21
  go_wp2_with (go_at_call 30; refine K.mono ?_; rintro e w' ⟨rfl, hb'⟩)
  go_wp2
  go_ret2
  exact ⟨rfl, hb.trans (hb'.mono hs)⟩
theorem get_one (r cap : Nat) (hd : ByteArray) (lg : Value) (hlg : ∃ A n c, lg = .slice A n c) (i : ByteArray) (w : World) (h0 : w.cell? ⟨r, 0, none⟩ = some (.string (mk aB))) (h1 : w.cell? ⟨r, 1, none⟩ = some (.string i)) :
    Calls Tryd.prog 21 #[.agg #[.slice (some ⟨r, 0, none⟩) 1 cap, .string hd, lg], .string (mk aB)] w fun e w' => e = .returned (.tuple #[.string i, .bool true]) ∧ Below w.heap.size w w' := by
  have hrl := cell_lt h0
  have hlg' := hlg
  obtain ⟨A, n, c, rfl⟩ := hlg
  have hb := below_alloc w (.cells #[.slice (some ⟨r, 0, none⟩) 1 cap, .string hd, .slice A n c] 31)
  have K := find_one r cap hd (.slice A n c) hlg' i _ ((hb.cell (p := ⟨r, 0, none⟩) hrl).trans h0) ((hb.cell (p := ⟨r, 1, none⟩) hrl).trans h1)
  have hs := hb.size
  have hn := heap_alloc_new w (.cells #[.slice (some ⟨r, 0, none⟩) 1 cap, .string hd, .slice A n c] 31)
  obtain ⟨W, hW⟩ : ∃ W, w.alloc (.cells #[.slice (some ⟨r, 0, none⟩) 1 cap, .string hd, .slice A n c] 31) = W := ⟨_, rfl⟩
  rw [hW] at hn
  have hX : w.heap.size < W.heap.size := by rw [← hW]; simp
  rw [hW] at K hb hs
  have hW' := Lib.hid hW
  clear hW
  have G0 : ∀ w', Below W.heap.size W w' → w'.cell? ⟨w.heap.size, 0, none⟩ = some (.slice (some ⟨r, 0, none⟩) 1 cap) := fun w' hb' => by
    refine (hb'.cell (p := ⟨w.heap.size, 0, none⟩) hX).trans ?_
    unfold World.cell?; rw [hn]; simp
  have G1 : ∀ w', Below W.heap.size W w' → w'.cell? ⟨r, 1, none⟩ = some (.string i) := fun w' hb' => ((hb.trans (hb'.mono hs)).cell (p := ⟨r, 1, none⟩) hrl).trans h1
  clear hn hX
  go_enter Tryd.func21, Tryd.ntmps21
  go_wp2_with (go_at_call 30; rw [hW'.out]; refine K.mono ?_; rintro e w' ⟨rfl, hb'⟩; have g0 := G0 _ hb'; have g1 := G1 _ hb')
  go_wp2
  go_ret2
  exact ⟨rfl, hb.trans (hb'.mono hs)⟩
end Go.Proofs.YtlkfnhcnfjdgbaaDoor
