/- stemmalaw09.same, walked at two slices of the same entries. -/
import Derived.Test.YtejokbfejkkpmaaDoorRp
namespace Go.Proofs.YtejokbfejkkpmaaDoor
open Go.RowKit Go.Maps Go.WideMaps
theorem earg_of {w : World} {B n cap : Nat} {t : TypeId} {A : Option Addr} {es : List En} (h : w.ownsRow B t 2 (.slice A n cap) es.length (ecs es)) : EArg w A es := by
  intro h0
  obtain ⟨g, c, hv, hgb, hgl⟩ := h.form h0
  injection hv with hA hnn hc
  subst hA
  subst hnn
  refine ⟨g, 0, rfl, hgl, fun j hj => ?_⟩
  obtain ⟨e1, e2⟩ := ecs_at es j hj
  rw [Nat.zero_add]
  have x1 := h.cellAt (j * 2) (by have := ecs_length es; omega)
  have x2 := h.cellAt (j * 2 + 1) (by have := ecs_length es; omega)
  rw [e1] at x1
  rw [e2] at x2
  exact ⟨x1, x2⟩
set_option maxRecDepth 100000 in
set_option maxHeartbeats 4000000 in
theorem same_true (A A2 : Option Addr) (cap cap2 : Nat) (es : List En) (w : World) (hn : es.length ≤ 100000) (h1 : EArg w A es) (h2 : EArg w A2 es) :
    Calls Tryd.prog 25 #[.slice A es.length cap, .slice A2 es.length cap2] w fun e w' => e = .returned (.bool true) ∧ ∃ m, w' = w.drewN m := by
  obtain ⟨n, hl⟩ : ∃ n, es.length = n := ⟨_, rfl⟩
  rw [hl] at hn ⊢
  have H1 := Lib.hid h1
  have H2 := Lib.hid h2
  have Hl := Lib.hid hl
  clear h1 h2 hl
  go_enter Tryd.func25, Tryd.ntmps25
  go_wp2
  go_loopw [5] (fun i wr => ∃ k m : Nat, k ≤ n ∧ i = .int .i64 k ∧ wr = w.drewN m) (fun i _ => n - (intOf i).toNat)
  case atStart => exact ⟨0, 0, Nat.zero_le _, rfl, rfl⟩
  case round =>
    obtain ⟨k, m, hk, rfl, hwr⟩ := hrel
    rw [hwr]
    clear hwr
    by_cases hlt : k < n
    · have hke : k < es.length := by have := Hl.out; omega
      obtain ⟨g, o, rfl, hg, hc⟩ := H1.out (by omega)
      obtain ⟨g2, o2, rfl, hg2, hc2⟩ := H2.out (by omega)
      obtain ⟨a0, a1⟩ := hc k hke
      obtain ⟨b0, b1⟩ := hc2 k hke
      have a0' : (w.drewN m).cell? ⟨g, o + k * 2, none⟩ = some (.int .i64 es[k].1) := a0
      have a1' : (w.drewN m).cell? ⟨g, o + k * 2 + 1, none⟩ = some (.string (mk es[k].2)) := a1
      have b0' : (w.drewN m).cell? ⟨g2, o2 + k * 2, none⟩ = some (.int .i64 es[k].1) := b0
      have b1' : (w.drewN m).cell? ⟨g2, o2 + k * 2 + 1, none⟩ = some (.string (mk es[k].2)) := b1
      obtain ⟨x, hx⟩ : ∃ x, es[k].1 = x := ⟨_, rfl⟩
      obtain ⟨T, hT⟩ : ∃ T, mk es[k].2 = T := ⟨_, rfl⟩
      rw [hx] at a0' b0'
      rw [hT] at a1' b1'
      have hk0 : (0 : Int) ≤ (k : Int) := by omega
      have hk1 : (k : Int) < (n : Int) := by omega
      obtain ⟨w4, hw4⟩ : ∃ w4, w.drewN m = w4 := ⟨_, rfl⟩
      rw [hw4] at a0' a1' b0' b1' ⊢
      have HW4 := Lib.hid hw4
      clear hc hc2 a0 a1 b0 b1 hx hT hw4
      go_wp2_with fail
      go_quiet (fail)
      go_wp2
      go_roundw
      case rel => exact ⟨k + 1, m + nq, by omega, by go_num, by rw [← HW4.out, World.drewN_drewN]⟩
      case measure => simp [intOf]; omega
    · obtain rfl : k = n := by omega
      go_wp2
      go_ret
      exact ⟨rfl, m, rfl⟩
end Go.Proofs.YtejokbfejkkpmaaDoor
