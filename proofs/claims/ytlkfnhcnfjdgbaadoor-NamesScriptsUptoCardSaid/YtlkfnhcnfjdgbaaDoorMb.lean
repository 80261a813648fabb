/- names.Table.may at one update of an empty table, walked. -/
import Derived.Test.YtlkfnhcnfjdgbaaDoorId
namespace Go.Proofs.YtlkfnhcnfjdgbaaDoor
open Go.RowKit
/-- May a text be an ID, or none? -/
def idqB (s : ByteArray) : Bool := decide (s.size = 0 ∨ s.size = 32)
theorem idq_any (s : ByteArray) (w : World) : Calls Tryd.prog 71 #[.string s] w fun e w' => e = .returned (.bool (idqB s)) ∧ w' = w := by
  have hl : s.data.toList.length = s.size := by simp
  by_cases h0 : s.size = 0
  · have h : s.toList = [] := by rw [ByteArray.toList_eq]; exact List.eq_nil_of_length_eq_zero (by omega)
    have hq := Lib.hid (show idqB s = true from decide_eq_true (.inl h0))
    clear h0 hl
    go_enter Tryd.func71, Tryd.ntmps71
    go_wp2
    go_ret
    exact ⟨ret_bool hq.out.symm, rfl⟩
  · have h : ¬ s.toList = [] := by
      intro e
      rw [ByteArray.toList_eq] at e
      rw [e] at hl
      simp at hl; omega
    have h2 : (s.toList == []) = false := beq_eq_false_iff_ne.2 h
    clear hl h
    by_cases h32 : s.size = 32
    · have hq := Lib.hid (show idqB s = true from decide_eq_true (.inr h32))
      have h3 : (s.size : Int) = 32 := by omega
      clear h0 h32
      go_enter Tryd.func71, Tryd.ntmps71
      go_wp2
      go_ret
      exact ⟨ret_bool (by rw [hq.out]), rfl⟩
    · have hq := Lib.hid (show idqB s = false from decide_eq_false (by omega))
      have h3 : ((s.size : Int) == 32) = false := by rw [beq_eq_false_iff_ne]; omega
      clear h0 h32
      go_enter Tryd.func71, Tryd.ntmps71
      go_wp2
      go_ret
      exact ⟨ret_bool (by rw [hq.out]), rfl⟩
set_option maxRecDepth 100000 in
theorem right_one (a i : ByteArray) (hi : i.size = 32) (w : World) : Calls Tryd.prog 51 #[.agg #[.string a, .string ⟨#[]⟩, .string i]] w fun e w' => e = .returned (.bool true) ∧ Below w.heap.size w w' := by
  have f0 : idqB ⟨#[]⟩ = true := rfl
  have f1 : idqB i = true := decide_eq_true (.inr hi)
  have h : ¬ ([] : List UInt8) = i.toList := by
    intro e
    rw [ByteArray.toList_eq] at e
    have : i.data.toList.length = i.size := by simp
    rw [← e] at this
    simp at this; omega
  have h2 : (([] : List UInt8) == i.toList) = false := beq_eq_false_iff_ne.2 h
  clear hi
  obtain ⟨z, hz⟩ : ∃ z : ByteArray, (⟨#[]⟩ : ByteArray) = z := ⟨_, rfl⟩
  rw [hz] at f0 ⊢
  have hz2 : z.toList = [] := by rw [← hz, ByteArray.toList_eq]
  clear hz
  go_enter Tryd.func51, Tryd.ntmps51
  go_wp2_with (go_at_call 71; refine (idq_any _ _).mono ?_; rintro e w' ⟨rfl, rfl⟩)
  go_ret
  exact ⟨rfl, below_alloc _ _⟩
theorem bad_one (i : ByteArray) (m : Int) (w : World) (hm : w.cell? ⟨0, 0, none⟩ = some (.int .i64 m)) :
    Calls Tryd.prog 50 #[.agg #[.string (mk aB), .string ⟨#[]⟩, .string i]] w fun e w' => e = .returned (.bool false) ∧ Below w.heap.size w w' := by
  have hb := below_alloc w (.cells #[.string (mk aB), .string ⟨#[]⟩, .string i] 39)
  have K := good_any (mk aB) m (w.alloc (.cells #[.string (mk aB), .string ⟨#[]⟩, .string i] 39)) (by decide) ((hb.cell (p := ⟨0, 0, none⟩) (cell_lt hm)).trans hm)
  rw [mk_data, show goodB aB = true from by decide] at K
  obtain ⟨A, hA⟩ : ∃ A, mk aB = A := ⟨_, rfl⟩
  rw [hA] at K hb ⊢
  have hs := hb.size
  go_enter Tryd.func50, Tryd.ntmps50
  go_wp2_with (go_at_call 8; refine K.mono ?_; rintro e w' ⟨rfl, hb'⟩)
  go_wp2
  go_ret
  exact ⟨rfl, hb.trans (hb'.mono hs)⟩
/-- The cells of the one update. -/
def One (w : World) (g : Nat) (i : ByteArray) : Prop := w.cell? ⟨g, 0, none⟩ = some (.string (mk aB)) ∧ w.cell? ⟨g, 1, none⟩ = some (.string ⟨#[]⟩) ∧ w.cell? ⟨g, 2, none⟩ = some (.string i)
theorem idx_one (g cap : Nat) (i : ByteArray) (m : Int) (w : World) (hm : w.cell? ⟨0, 0, none⟩ = some (.int .i64 m)) (h : One w g i) :
    Calls Tryd.prog 70 #[.slice (some ⟨g, 0, none⟩) 1 cap, .func (.func 50) #[] #[]] w fun e w' => e = .returned (.int .i64 (-1)) ∧ Below w.heap.size w w' := by
  obtain ⟨h0, h1, h2⟩ := h
  have K := bad_one i m w hm
  obtain ⟨A, hA⟩ : ∃ A, mk aB = A := ⟨_, rfl⟩
  rw [hA] at K h0
  go_enter Tryd.func70, Tryd.ntmps70
  go_wp2
  go_loopw [5, 8] (fun _ i wr => (i = .int .i64 0 ∧ wr = w) ∨ (i = .int .i64 1 ∧ Below w.heap.size w wr)) (fun _ i _ => 1 - (intOf i).toNat)
  case atStart => exact .inl ⟨rfl, rfl⟩
  case round =>
    rcases hrel with ⟨rfl, rfl⟩ | ⟨rfl, hb⟩
    · go_wp2_with (go_at_call 50; refine K.mono ?_; rintro e w' ⟨rfl, hb'⟩)
      go_wp2
      go_roundw
      case rel => exact .inr ⟨rfl, hb'⟩
      case measure => simp [intOf]
    · go_wp2
      go_ret
      exact ⟨rfl, hb⟩
theorem cont_one (g cap : Nat) (i : ByteArray) (m : Int) (w : World) (hm : w.cell? ⟨0, 0, none⟩ = some (.int .i64 m)) (h : One w g i) :
    Calls Tryd.prog 49 #[.slice (some ⟨g, 0, none⟩) 1 cap, .func (.func 50) #[] #[]] w fun e w' => e = .returned (.bool false) ∧ Below w.heap.size w w' := by
  have K := idx_one g cap i m w hm h
  go_enter Tryd.func49, Tryd.ntmps49
  go_wp2_with (go_at_call 70; refine K.mono ?_; rintro e w' ⟨rfl, hb⟩)
  go_wp2
  go_ret
  exact ⟨rfl, hb⟩
theorem cmp_any (a i b : ByteArray) (w : World) : Calls Tryd.prog 53 #[.agg #[.string a, .string i], .string b] w fun e w' => e = .returned (.int .i64 (Lib.compareBytes a.data.toList b.data.toList)) ∧ Below w.heap.size w w' := by
  have K := fun w => Tryd.strings_Compare a b w
  go_enter Tryd.func53, Tryd.ntmps53
  go_wp2_with (go_at_call 54; refine (K _).mono ?_; rintro e w' ⟨rfl, rfl⟩)
  go_wp2
  go_ret
  exact ⟨rfl, below_alloc _ _⟩
theorem bsf_zero (b : ByteArray) (w : World) : Calls Tryd.prog 52 #[.slice none 0 0, .string b, .func (.func 53) #[] #[]] w fun e w' => e = .returned (.tuple #[.int .i64 0, .bool false]) ∧ w' = w := by
  go_enter Tryd.func52, Tryd.ntmps52
  go_wp2
  go_loopw [9, 10, 11] (fun i j _ wr => i = .int .i64 0 ∧ j = .int .i64 0 ∧ wr = w) (fun _ _ _ _ => 0)
  case atStart => exact ⟨rfl, rfl, rfl⟩
  case round =>
    obtain ⟨rfl, rfl, rfl⟩ := hrel
    go_wp2
    go_ret2
    exact ⟨rfl, rfl⟩
end Go.Proofs.YtlkfnhcnfjdgbaaDoor
/- names.Table's find, Get and may at one update, walked. -/
namespace Go.Proofs.YtlkfnhcnfjdgbaaDoor
open Go.RowKit
set_option maxHeartbeats 1600000 in
theorem bsf_one (r cap : Nat) (i : ByteArray) (w : World) (h0 : w.cell? ⟨r, 0, none⟩ = some (.string (mk aB))) (h1 : w.cell? ⟨r, 1, none⟩ = some (.string i)) :
    Calls Tryd.prog 52 #[.slice (some ⟨r, 0, none⟩) 1 cap, .string (mk aB), .func (.func 53) #[] #[]] w fun e w' => e = .returned (.tuple #[.int .i64 0, .bool true]) ∧ Below w.heap.size w w' := by
  have K := fun w => cmp_any (mk aB) i (mk aB) w
  rw [mk_data, show Lib.compareBytes aB aB = 0 from by decide] at K
  have hrl := cell_lt h0
  obtain ⟨A, hA⟩ : ∃ A, mk aB = A := ⟨_, rfl⟩
  rw [hA] at K h0 ⊢
  clear hA
  go_enter Tryd.func52, Tryd.ntmps52
  go_wp2
  go_loopw [9, 10, 11] (fun a b _ wr => a = .int .i64 0 ∧ ((b = .int .i64 1 ∧ wr = w) ∨ (b = .int .i64 0 ∧ Below w.heap.size w wr))) (fun _ b _ _ => (intOf b).toNat)
  case atStart => exact ⟨rfl, .inl ⟨rfl, rfl⟩⟩
  case round =>
    obtain ⟨rfl, ⟨rfl, rfl⟩ | ⟨rfl, hb⟩⟩ := hrel
    · go_wp2_with (go_at_call 53; refine (K _).mono ?_; rintro e w' ⟨rfl, hb⟩)
      go_wp2
      go_roundw
      case rel => exact ⟨rfl, .inr ⟨rfl, hb⟩⟩
      case measure => simp [intOf]
    · have g0 := (hb.cell (p := ⟨r, 0, none⟩) hrl).trans h0
      have g1 := (hb.cell (p := ⟨r, 1, none⟩) hrl).trans h1
      have hs := hb.size
      go_wp2_with (go_at_call 53; refine (K _).mono ?_; rintro e w' ⟨rfl, hb'⟩)
      go_wp2
      go_ret2
      exact ⟨rfl, hb.trans (hb'.mono hs)⟩
theorem find_zero (hd : ByteArray) (b : ByteArray) (w : World) : Calls Tryd.prog 30 #[.agg #[.slice none 0 0, .string hd, .slice none 0 0], .string b] w fun e w' => e = .returned (.tuple #[.int .i64 0, .bool false]) ∧ Below w.heap.size w w' := by
  go_enter Tryd.func30, Tryd.ntmps30
  go_wp2_with (go_at_call 52; refine (bsf_zero _ _).mono ?_; rintro e w' ⟨rfl, rfl⟩)
  go_wp2
  go_ret2
  exact ⟨rfl, below_alloc _ _⟩
theorem find_one (r cap : Nat) (hd : ByteArray) (lg : Value) (hlg : ∃ A n c, lg = .slice A n c) (i : ByteArray) (w : World) (h0 : w.cell? ⟨r, 0, none⟩ = some (.string (mk aB))) (h1 : w.cell? ⟨r, 1, none⟩ = some (.string i)) :
    Calls Tryd.prog 30 #[.agg #[.slice (some ⟨r, 0, none⟩) 1 cap, .string hd, lg], .string (mk aB)] w fun e w' => e = .returned (.tuple #[.int .i64 0, .bool true]) ∧ Below w.heap.size w w' := by
  obtain ⟨A, n, c, rfl⟩ := hlg
  have hrl := cell_lt h0
  have hb := below_alloc w (.cells #[.slice (some ⟨r, 0, none⟩) 1 cap, .string hd, .slice A n c] 31)
  have K := bsf_one r cap i _ ((hb.cell (p := ⟨r, 0, none⟩) hrl).trans h0) ((hb.cell (p := ⟨r, 1, none⟩) hrl).trans h1)
  have hs := hb.size
  clear h0 h1
  go_enter Tryd.func30, Tryd.ntmps30
  go_wp2_with (go_at_call 52; refine K.mono ?_; rintro e w' ⟨rfl, hb'⟩)
  go_wp2
  go_ret2
  exact ⟨rfl, hb.trans (hb'.mono hs)⟩
theorem get_zero (hd : ByteArray) (b : ByteArray) (w : World) : Calls Tryd.prog 21 #[.agg #[.slice none 0 0, .string hd, .slice none 0 0], .string b] w fun e w' => e = .returned (.tuple #[.string ⟨#[]⟩, .bool false]) ∧ Below w.heap.size w w' := by
  have hb := below_alloc w (.cells #[.slice none 0 0, .string hd, .slice none 0 0] 31)
  have K := find_zero hd b (w.alloc (.cells #[.slice none 0 0, .string hd, .slice none 0 0] 31))
  have hs := hb.size
  go_enter Tryd.func21, Tryd.ntmps21
  go_wp2_with (go_at_call 30; refine K.mono ?_; rintro e w' ⟨rfl, hb'⟩)
  go_wp2
  go_ret2
  exact ⟨rfl, hb.trans (hb'.mono hs)⟩
theorem get_one (r cap : Nat) (hd : ByteArray) (lg : Value) (hlg : ∃ A n c, lg = .slice A n c) (i : ByteArray) (w : World) (h0 : w.cell? ⟨r, 0, none⟩ = some (.string (mk aB))) (h1 : w.cell? ⟨r, 1, none⟩ = some (.string i)) :
    Calls Tryd.prog 21 #[.agg #[.slice (some ⟨r, 0, none⟩) 1 cap, .string hd, lg], .string (mk aB)] w fun e w' => e = .returned (.tuple #[.string i, .bool true]) ∧ Below w.heap.size w w' := by
  have hrl := cell_lt h0
  have hlg' := hlg
  obtain ⟨A, n, c, rfl⟩ := hlg
  have hb := below_alloc w (.cells #[.slice (some ⟨r, 0, none⟩) 1 cap, .string hd, .slice A n c] 31)
  have K := find_one r cap hd (.slice A n c) hlg' i _ ((hb.cell (p := ⟨r, 0, none⟩) hrl).trans h0) ((hb.cell (p := ⟨r, 1, none⟩) hrl).trans h1)
  have hs := hb.size
  have hn := heap_alloc_new w (.cells #[.slice (some ⟨r, 0, none⟩) 1 cap, .string hd, .slice A n c] 31)
  obtain ⟨W, hW⟩ : ∃ W, w.alloc (.cells #[.slice (some ⟨r, 0, none⟩) 1 cap, .string hd, .slice A n c] 31) = W := ⟨_, rfl⟩
  rw [hW] at hn
  have hX : w.heap.size < W.heap.size := by rw [← hW]; simp
  rw [hW] at K hb hs
  have hW' := Lib.hid hW
  clear hW
  have G0 : ∀ w', Below W.heap.size W w' → w'.cell? ⟨w.heap.size, 0, none⟩ = some (.slice (some ⟨r, 0, none⟩) 1 cap) := fun w' hb' => by
    refine (hb'.cell (p := ⟨w.heap.size, 0, none⟩) hX).trans ?_
    unfold World.cell?; rw [hn]; simp
  have G1 : ∀ w', Below W.heap.size W w' → w'.cell? ⟨r, 1, none⟩ = some (.string i) := fun w' hb' => ((hb.trans (hb'.mono hs)).cell (p := ⟨r, 1, none⟩) hrl).trans h1
  clear hn hX
  go_enter Tryd.func21, Tryd.ntmps21
  go_wp2_with (go_at_call 30; rw [hW'.out]; refine K.mono ?_; rintro e w' ⟨rfl, hb'⟩; have g0 := G0 _ hb'; have g1 := G1 _ hb')
  go_wp2
  go_ret2
  exact ⟨rfl, hb.trans (hb'.mono hs)⟩
end Go.Proofs.YtlkfnhcnfjdgbaaDoor
