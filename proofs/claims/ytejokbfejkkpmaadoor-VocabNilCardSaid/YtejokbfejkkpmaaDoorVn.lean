/- VocabNil, walked: no index. -/
import Derived.Test.YtejokbfejkkpmaaDoorSk
namespace Go.Proofs.YtejokbfejkkpmaaDoor
open Go.RowKit Go.Maps Go.WideMaps
theorem ready_nil (w : World) : Calls Tryd.prog 29 #[.pointer none] w fun e w' => e = .returned (.bool false) ∧ w' = w := by
  go_enter Tryd.func29, Tryd.ntmps29
  go_wp2
  go_ret
  exact ⟨rfl, rfl⟩
theorem id_nil (s : ByteArray) (w : World) : Calls Tryd.prog 19 #[.pointer none, .string s] w fun e w' => e = .returned (.tuple #[.int .i64 0, .bool false]) ∧ w' = w := by
  go_enter Tryd.func19, Tryd.ntmps19
  go_wp2_with (go_at_call 29; refine (ready_nil _).mono ?_; rintro e w' ⟨rfl, rfl⟩)
  go_wp2
  go_ret2
  exact ⟨rfl, rfl⟩
theorem token_nil (i : Int) (w : World) : Calls Tryd.prog 20 #[.pointer none, .int .i64 i] w fun e w' => e = .returned (.tuple #[.string ⟨#[]⟩, .bool false]) ∧ w' = w := by
  go_enter Tryd.func20, Tryd.ntmps20
  go_wp2_with (go_at_call 29; refine (ready_nil _).mono ?_; rintro e w' ⟨rfl, rfl⟩)
  go_wp2
  go_ret2
  exact ⟨rfl, rfl⟩
theorem encode_nil (l : Value) (s : ByteArray) (w : World) : Calls Tryd.prog 15 #[.pointer none, l, .string s] w fun e w' => e = .returned (.tuple #[.slice none 0 0, .bool false]) ∧ w' = w := by
  go_enter Tryd.func15, Tryd.ntmps15
  go_wp2_with (go_at_call 29; refine (ready_nil _).mono ?_; rintro e w' ⟨rfl, rfl⟩)
  go_wp2
  go_ret2
  exact ⟨rfl, rfl⟩
theorem decode_nil (l : Value) (w : World) : Calls Tryd.prog 18 #[.pointer none, l] w fun e w' => e = .returned (.tuple #[.string ⟨#[]⟩, .bool false]) ∧ w' = w := by
  go_enter Tryd.func18, Tryd.ntmps18
  go_wp2_with (go_at_call 29; refine (ready_nil _).mono ?_; rintro e w' ⟨rfl, rfl⟩)
  go_wp2
  go_ret2
  exact ⟨rfl, rfl⟩
theorem asked_nil (w : World) : Calls Tryd.prog 21 #[.pointer none] w fun e w' => e = .returned (.int .i64 0) ∧ w' = w := by
  go_enter Tryd.func21, Tryd.ntmps21
  go_wp2
  go_ret
  exact ⟨rfl, rfl⟩
set_option maxRecDepth 100000 in
set_option maxHeartbeats 2000000 in
theorem nil_any (i : Int) (s : ByteArray) (w : World) : Calls Tryd.prog 5 #[.int .i64 i, .string s] w fun e w' => e = .returned (.bool true) ∧ Below w.heap.size w w' := by
  have KS := speaks_any w
  go_enter Tryd.func5, Tryd.ntmps5
  go_wp2_with (go_at_call 9; refine KS.mono ?_)
  rintro e w1 ⟨rfl, b1⟩
  clear KS
  have z1 := b1.size
  go_wp2_with (first
    | (go_at_call 19; refine (id_nil s _).mono ?_; rintro e w' ⟨rfl, rfl⟩)
    | (go_at_call 20; refine (token_nil i _).mono ?_; rintro e w' ⟨rfl, rfl⟩)
    | (go_at_call 15; refine (encode_nil _ s _).mono ?_; rintro e w' ⟨rfl, rfl⟩)
    | (go_at_call 18; refine (decode_nil _ _).mono ?_; rintro e w' ⟨rfl, rfl⟩)
    | (go_at_call 21; refine (asked_nil _).mono ?_; rintro e w' ⟨rfl, rfl⟩))
  go_ret
  exact ⟨rfl, b1.alloc z1 _⟩
end Go.Proofs.YtejokbfejkkpmaaDoor
