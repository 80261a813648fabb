import Derived.Test.YtkaejgpnhcdlnaaScB
import Derived.Test.YtkaejgpnhcdlnaaIter
namespace Go.Proofs.Ytkaejgpnhcdlnaa
open Go.RowKit Go.Shelf
attribute [local go_sem] Oper.semAt_some
set_option maxHeartbeats 400000 in
theorem has_any (i : Nat) (hi : i < 5) (w : World) :
    Calls Try.prog 14 #[.agg #[.int .i64 5, .string ⟨#[2]⟩], .int .i64 i] w fun e w' => e = .returned (.bool (i == 1)) ∧ w.alloc (.cells #[.int .i64 5, .string ⟨#[2]⟩] 30) = w' := by
  have e0 : (((⟨#[2]⟩ : ByteArray)[0]'(by decide)).toNat : Int) = 2 := by decide
  have b0 : bits .and .u8 2 1 = 0 := by decide
  have b1 : bits .and .u8 1 1 = 1 := by decide
  have b2 : bits .and .u8 0 1 = 0 := by decide
  obtain rfl | rfl | rfl | rfl | rfl : i = 0 ∨ i = 1 ∨ i = 2 ∨ i = 3 ∨ i = 4 := by omega
  all_goals
    go_enter Try.func14, Try.ntmps14
    go_wp2
    go_ret
    exact ⟨rfl, rfl⟩
end Go.Proofs.Ytkaejgpnhcdlnaa
