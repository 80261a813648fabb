import Derived.Test.YtkaejgpnhcdlnaaRows
import Derived.WalkKit
import Derived.WalkSpells
import Derived.WalkLawsBesides
import Derived.Laws.IdiomStrings
namespace Go.Proofs.Ytkaejgpnhcdlnaa
open Go.RowKit

theorem conv1 (W : World) (a : Addr) (c : Nat) (b : UInt8) (h : W.cell? a = some (.int .u8 b.toNat)) :
    (convert 41 9 (.slice (some a) 1 c)).run Try.prog W = .ok (.string ⟨#[b]⟩) W := by
  have := run_convert_bytes_back (P := Try.prog) W 41 9 5 a c [b] Try.underlying41 Try.underlying5 Try.underlying9 (fun j hj => by
    have : j = 0 := by simpa using hj
    subst this
    simpa [Addr.add] using h)
  simpa using this

set_option maxHeartbeats 400000 in
theorem new_any (w : World) :
    Calls Try.prog 6 #[.int .i64 5] w fun e w' => e = .returned (.tuple #[.agg #[.int .i64 5, .string ⟨#[0]⟩], .int .i64 0]) ∧ Below w.heap.size w w' := by
  have hmk : ∀ w, (Instr.makeSlice 41 (.int .i64 1) (.int .i64 1)).run Try.prog w = .ok (.slice (some ⟨w.heap.size,0,none⟩) 1 1) (w.alloc (.cells #[.int .u8 0] 5)) := fun _ => by kernel_rfl
  have hcv := fun W a => conv1 W a 1 0
  go_enter Try.func6, Try.ntmps6
  go_wp2
  exact bodyPost_ret (v := .tuple #[.agg #[.int .i64 5, .string ⟨#[0]⟩], .int .i64 0]) (by simp [results, Try.results6, go_sem]) rfl ⟨rfl, ((Below.refl _ _).alloc (Nat.le_refl _) _).alloc (by simp) _⟩
set_option maxHeartbeats 400000 in
theorem free2 (w : World) :
    Calls Try.prog 9 #[.agg #[.int .i64 5, .string ⟨#[2]⟩]] w fun e w' => e = .returned (.int .i64 4) ∧ Below w.heap.size w w' := by
  have e0 : (((⟨#[2]⟩ : ByteArray)[0]'(by decide)).toNat : Int) = 2 := by decide
  have e1 : bits .and .u8 2 1 = 0 := by decide
  go_enter Try.func9, Try.ntmps9
  go_wp2
  refine wp_loop_rounds 2 ?_; rw [rounds_succ]
  go_wp2
  refine wp_loop_rounds 2 ?_; rw [rounds_succ]
  go_wp2
  rw [rounds_succ]
  go_wp2
  rw [rounds_succ]
  go_wp2
  go_ret
  exact ⟨rfl, (Below.refl _ _).alloc (Nat.le_refl _) _⟩
set_option maxHeartbeats 400000 in
theorem free6 (w : World) :
    Calls Try.prog 9 #[.agg #[.int .i64 5, .string ⟨#[7]⟩]] w fun e w' => e = .returned (.int .i64 2) ∧ Below w.heap.size w w' := by
  have e0 : (((⟨#[7]⟩ : ByteArray)[0]'(by decide)).toNat : Int) = 7 := by decide
  have e1 : bits .and .u8 7 6 = 6 := by decide
  have e2 : bits .and .u8 6 5 = 4 := by decide
  have e3 : bits .and .u8 4 3 = 0 := by decide
  go_enter Try.func9, Try.ntmps9
  go_wp2
  refine wp_loop_rounds 2 ?_; rw [rounds_succ]
  go_wp2
  refine wp_loop_rounds 4 ?_; rw [rounds_succ]
  go_wp2
  rw [rounds_succ]
  go_wp2
  rw [rounds_succ]
  go_wp2
  rw [rounds_succ]
  go_wp2
  rw [rounds_succ]
  go_wp2
  go_ret
  exact ⟨rfl, (Below.refl _ _).alloc (Nat.le_refl _) _⟩
end Go.Proofs.Ytkaejgpnhcdlnaa
