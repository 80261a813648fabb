/- rules.Kind, walked; speaks, walked. -/
import Derived.Test.YtkaejgpnhcdlnaaDoorPw
import Derived.Shelf.RegionOpen
namespace Go.Proofs.YtkaejgpnhcdlnaaDoor
open Go.RowKit
def kindS (s : Bs) : Nat := if Lib.hasSuffix s [46, 109, 101, 114, 103, 101, 115] then 1 else if Lib.hasSuffix s [46, 118, 111, 99, 97, 98] then 2 else if Lib.hasSuffix s [46, 114, 117, 108, 101, 115] then 3 else if Lib.hasSuffix s [46, 99, 104, 97, 116] then 4 else 0
/-- The ends of the kinds, as values. -/
def ends : Array Value := #[.string ⟨#[]⟩, .string ⟨#[46, 109, 101, 114, 103, 101, 115]⟩, .string ⟨#[46, 118, 111, 99, 97, 98]⟩, .string ⟨#[46, 114, 117, 108, 101, 115]⟩, .string ⟨#[46, 99, 104, 97, 116]⟩]
theorem end0 (w : World) : (Instr.index 74 (.agg ends) (.int .i64 0)).run Tryd.prog w = .ok (.string ⟨#[]⟩) w := by kernel_rfl
theorem end1 (w : World) : (Instr.index 74 (.agg ends) (.int .i64 1)).run Tryd.prog w = .ok (.string ⟨#[46, 109, 101, 114, 103, 101, 115]⟩) w := by kernel_rfl
theorem end2 (w : World) : (Instr.index 74 (.agg ends) (.int .i64 2)).run Tryd.prog w = .ok (.string ⟨#[46, 118, 111, 99, 97, 98]⟩) w := by kernel_rfl
theorem end3 (w : World) : (Instr.index 74 (.agg ends) (.int .i64 3)).run Tryd.prog w = .ok (.string ⟨#[46, 114, 117, 108, 101, 115]⟩) w := by kernel_rfl
theorem end4 (w : World) : (Instr.index 74 (.agg ends) (.int .i64 4)).run Tryd.prog w = .ok (.string ⟨#[46, 99, 104, 97, 116]⟩) w := by kernel_rfl
set_option maxRecDepth 100000 in
set_option maxHeartbeats 1600000 in
theorem kind_any (s : ByteArray) (w : World) (hs : s.size ≤ maxLen) :
    Calls Tryd.prog 17 #[.string s] w fun e w' => e = .returned (.int .i64 (kindS s.data.toList)) ∧ w = w' := by
  unfold maxLen at hs
  have h1 := Tryd.strings_HasSuffix s ⟨#[46, 109, 101, 114, 103, 101, 115]⟩ w hs
  have h2 := Tryd.strings_HasSuffix s ⟨#[46, 118, 111, 99, 97, 98]⟩ w hs
  have h3 := Tryd.strings_HasSuffix s ⟨#[46, 114, 117, 108, 101, 115]⟩ w hs
  have h4 := Tryd.strings_HasSuffix s ⟨#[46, 99, 104, 97, 116]⟩ w hs
  unfold kindS
  simp only [] at h1 h2 h3 h4
  obtain ⟨b1, hb1⟩ : ∃ b, Lib.hasSuffix s.data.toList [46, 109, 101, 114, 103, 101, 115] = b := ⟨_, rfl⟩
  obtain ⟨b2, hb2⟩ : ∃ b, Lib.hasSuffix s.data.toList [46, 118, 111, 99, 97, 98] = b := ⟨_, rfl⟩
  obtain ⟨b3, hb3⟩ : ∃ b, Lib.hasSuffix s.data.toList [46, 114, 117, 108, 101, 115] = b := ⟨_, rfl⟩
  obtain ⟨b4, hb4⟩ : ∃ b, Lib.hasSuffix s.data.toList [46, 99, 104, 97, 116] = b := ⟨_, rfl⟩
  rw [hb1, hb2, hb3, hb4]
  rw [hb1] at h1
  rw [hb2] at h2
  rw [hb3] at h3
  rw [hb4] at h4
  have e1 : (⟨#[46, 109, 101, 114, 103, 101, 115]⟩ : ByteArray).toList.isEmpty = false := by rw [bytes_list]; rfl
  have e2 : (⟨#[46, 118, 111, 99, 97, 98]⟩ : ByteArray).toList.isEmpty = false := by rw [bytes_list]; rfl
  have e3 : (⟨#[46, 114, 117, 108, 101, 115]⟩ : ByteArray).toList.isEmpty = false := by rw [bytes_list]; rfl
  have e4 : (⟨#[46, 99, 104, 97, 116]⟩ : ByteArray).toList.isEmpty = false := by rw [bytes_list]; rfl
  clear hb1 hb2 hb3 hb4
  have i0 := end0
  have i1 := end1
  have i2 := end2
  have i3 := end3
  have i4 := end4
  unfold ends at i0 i1 i2 i3 i4
  go_enter Tryd.func17, Tryd.ntmps17
  go_wp2_with fail
  refine wp_loop_rounds 6 ?_
  rw [rounds_succ]
  go_wp2_with fail
  rw [rounds_succ]
  go_wp2_with fail
  refine h1.mono ?_
  rintro e w1 ⟨rfl, rfl⟩
  cases b1
  · go_wp2_with fail
    rw [rounds_succ]
    go_wp2_with fail
    refine h2.mono ?_
    rintro e w1 ⟨rfl, rfl⟩
    cases b2
    · go_wp2_with fail
      rw [rounds_succ]
      go_wp2_with fail
      refine h3.mono ?_
      rintro e w1 ⟨rfl, rfl⟩
      cases b3
      · go_wp2_with fail
        rw [rounds_succ]
        go_wp2_with fail
        refine h4.mono ?_
        rintro e w1 ⟨rfl, rfl⟩
        cases b4
        · go_wp2_with fail
          rw [rounds_succ]
          go_wp2
          go_ret
          exact ⟨rfl, rfl⟩
        · go_wp2
          go_ret
          exact ⟨rfl, rfl⟩
      · go_wp2
        go_ret
        exact ⟨rfl, rfl⟩
    · go_wp2
      go_ret
      exact ⟨rfl, rfl⟩
  · go_wp2
    go_ret
    exact ⟨rfl, rfl⟩
theorem speaks_parse : parseS [100, 105, 103, 105, 116, 115, 32, 91, 48, 45, 57, 93, 43, 10] = ([([100, 105, 103, 105, 116, 115], [91, 48, 45, 57, 93, 43])], 0, 0) := by decide
theorem speaks_kind : kindS [97, 46, 99, 104, 97, 116] = 4 := by decide
set_option maxRecDepth 100000 in
set_option maxHeartbeats 1600000 in
theorem speaks_any (m : Int) (w : World) (hm : w.cell? ⟨0, 0, none⟩ = some (.int .i64 m)) :
    Calls Tryd.prog 8 #[] w fun e w' => e = .returned (.bool true) ∧ Below w.heap.size w w' := by
  have H := parse_any ⟨#[100, 105, 103, 105, 116, 115, 32, 91, 48, 45, 57, 93, 43, 10]⟩ m w (by decide) hm
  have e0 : (⟨#[100, 105, 103, 105, 116, 115, 32, 91, 48, 45, 57, 93, 43, 10]⟩ : ByteArray).data.toList = [100, 105, 103, 105, 116, 115, 32, 91, 48, 45, 57, 93, 43, 10] := rfl
  rw [e0, speaks_parse] at H
  have K := fun w => kind_any ⟨#[97, 46, 99, 104, 97, 116]⟩ w (by decide)
  have e1 : (⟨#[97, 46, 99, 104, 97, 116]⟩ : ByteArray).data.toList = [97, 46, 99, 104, 97, 116] := rfl
  rw [e1, speaks_kind] at K
  go_enter Tryd.func8, Tryd.ntmps8
  go_wp2_with fail
  refine H.mono ?_
  rintro e w1 ⟨v, rfl, hown, hb⟩
  obtain ⟨g, cap, rfl⟩ := ownsRow_succ (k := 0) hown
  have c0 := hown.cellAt 0 (by decide)
  have c1 := hown.cellAt 1 (by decide)
  simp only [cells, List.flatMap_cons, List.flatMap_nil, List.append_nil, List.getElem?_cons_zero, List.getElem?_cons_succ, mk] at c0 c1
  clear hown
  go_wp2_with fail
  refine (K w1).mono ?_
  rintro e w2 ⟨rfl, rfl⟩
  go_wp2
  go_ret
  exact ⟨rfl, hb⟩
end Go.Proofs.YtkaejgpnhcdlnaaDoor
