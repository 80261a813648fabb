/- vocab.(*Index).ready, walked: the index is made once. -/
import Derived.Test.YtejokbfejkkpmaaDoorFl
namespace Go.Proofs.YtejokbfejkkpmaaDoor
open Go.RowKit Go.Maps Go.WideMaps
set_option maxRecDepth 100000 in
set_option maxHeartbeats 1600000 in
theorem slow_any (b : Nat) (A : Option Addr) (cap : Nat) (ts : List Bs) (c4 c5 c6 : Value) (w : World) (hb : Blk w b #[.slice A ts.length cap, .int .u32 0, .int .i32 0, .int .u32 0, c4, c5, c6]) (he : Ents w A ts) (hl : ts.length ≤ 1000)
    (hne : ∀ g, A = some ⟨g, 0, none⟩ → g ≠ b) :
    Calls Tryd.prog 57 #[.pointer (some ⟨b, 1, none⟩), .func (.func 43) #[.pointer (some ⟨b, 0, none⟩)] #[]] w fun e w' => e = .returned (.tuple #[]) ∧ ∃ bi bt, w.heap.size ≤ bi ∧ w.heap.size ≤ bt ∧
      Blk w' b #[.slice A ts.length cap, .int .u32 1, .int .i32 0, .int .u32 0, .map (some bi), .map (some bt), c6] ∧ IdM w' bi ts.length (idsL 0 ts) ∧ TokM w' bt ts.length (tokL 0 ts) ∧ w.grownBy w' (some b) := by
  have h2 := hb.cell 2
  have f2 := hb.frozen 2
  simp at h2
  have hb1 := hb.set 2 (.int .i32 1)
  have he1 := he.kept hne (grown_set w b 2 (.int .i32 1))
  have hs1 : (w.setCell ⟨b, 2, none⟩ (.int .i32 1)).heap.size = w.heap.size := by simp
  have hg1 := grown_set w b 2 (.int .i32 1)
  obtain ⟨w1, hw1⟩ : ∃ x, w.setCell ⟨b, 2, none⟩ (.int .i32 1) = x := ⟨_, rfl⟩
  have hc1 : w1.cell? ⟨b, 1, none⟩ = some (.int .u32 0) := by rw [← hw1, hb1.cell 1]; rfl
  have hl1 := run_call_load (P := Tryd.prog) Tryd.func68 (by kernel_rfl) (by kernel_rfl) (by kernel_rfl) .u32 (by kernel_rfl) (w := w1) (a := ⟨b, 1, none⟩) (x := 0) hc1
  have KL := lock_free ⟨b, 2, none⟩ w h2 f2
  rw [hw1] at KL hb1 he1 hs1 hg1
  have KF := fill_any b A cap ts _ _ _ _ _ _ w1 hb1 he1 hl hne
  have hnot : ∀ (x : Bool) (w : World), (Op.unary .not (.bool x)).run Tryd.prog w = .ok (.bool (!x)) w := fun _ _ => rfl
  have hbl := hb.lt
  clear hb he hw1 hb1 he1 h2 f2
  go_enter_defers Tryd.func57, Tryd.ntmps57
  go_wp2_with (go_at_call 69; refine KL.mono ?_; rintro e w' ⟨rfl, rfl⟩)
  go_wp2_with (first | (go_at_call 56; go_in) | (go_at_call 43; refine KF.mono ?_))
  rintro e w2 ⟨rfl, bi, bt, hbi, hbt, hb2, him2, htm2, hg2⟩
  clear KF KL hl1 hc1
  have x1 := hb2.cell 1
  have y1 := hb2.frozen 1
  simp at x1
  have hb3 := hb2.drew.set 1 (.int .u32 1)
  have y2 := hb3.frozen 2
  have x2 := hb3.cell 2
  simp at x2 hb3
  have hb4 := hb3.set 2 (.int .i32 0)
  simp at hb4
  have hg3 : w2.grownBy ((w2.drew.setCell ⟨b, 1, none⟩ (.int .u32 1)).setCell ⟨b, 2, none⟩ (.int .i32 0)) (some b) := grown_trans (grown_drew _ _) (grown_trans (grown_set _ _ _ _) (grown_set _ _ _ _))
  go_wp2
  refine leaves_cons (f := 71) (args := #[.pointer (some ⟨b, 1, none⟩), .bool true]) (by simp) (by simp [go_sem]) ?_
  refine (store_deferred ⟨b, 1, none⟩ _ .returning _ x1 y1).mono ?_
  rintro e u' w'' ⟨rfl, rfl, rfl⟩
  refine leaves_cons (f := 70) (args := #[.pointer (some ⟨b, 2, none⟩)]) (by simp [settle]) (by simp [go_sem]) ?_
  refine (unlock_deferred ⟨b, 2, none⟩ _ _ x2 y2).mono ?_
  rintro e u' w'' ⟨rfl, rfl, rfl⟩
  simp only [Leaves, settle, results, Tryd.results57]
  have hbne : ∀ x, w'.heap.size ≤ x → x ≠ b := by
    intro x hx e
    omega
  refine ⟨.tuple #[], by simp, rfl, bi, bt, by omega, by omega, hb4, him2.kept hg3 ?_, htm2.kept hg3 ?_, grown_trans hg1 (grown_trans hg2 hg3)⟩
  · simpa using hbne bi hbi
  · simpa using hbne bt hbt
/-- An index over the entries of ts, asked k times; made if 'made'. -/
def Idx (B b : Nat) (ts : List Bs) (made : Bool) (k : Nat) (w : World) : Prop :=
  ∃ A cap c4 c5, B ≤ b ∧ Blk w b #[.slice A ts.length cap, .int .u32 (if made then 1 else 0), .int .i32 0, .int .u32 0, c4, c5, .int .i64 k] ∧ Ents w A ts ∧ (∀ g, A = some ⟨g, 0, none⟩ → g ≠ b) ∧
    (made = true → ∃ bi bt, c4 = .map (some bi) ∧ c5 = .map (some bt) ∧ B ≤ bi ∧ B ≤ bt ∧ IdM w bi ts.length (idsL 0 ts) ∧ TokM w bt ts.length (tokL 0 ts))
set_option maxRecDepth 100000 in
set_option maxHeartbeats 1600000 in
theorem do_first (b : Nat) (A : Option Addr) (cap : Nat) (ts : List Bs) (c4 c5 c6 : Value) (w : World) (hb : Blk w b #[.slice A ts.length cap, .int .u32 0, .int .i32 0, .int .u32 0, c4, c5, c6]) (he : Ents w A ts) (hl : ts.length ≤ 1000)
    (hne : ∀ g, A = some ⟨g, 0, none⟩ → g ≠ b) :
    Calls Tryd.prog 42 #[.pointer (some ⟨b, 1, none⟩), .func (.func 43) #[.pointer (some ⟨b, 0, none⟩)] #[]] w fun e w' => e = .returned (.tuple #[]) ∧ ∃ bi bt, w.heap.size ≤ bi ∧ w.heap.size ≤ bt ∧
      Blk w' b #[.slice A ts.length cap, .int .u32 1, .int .i32 0, .int .u32 0, .map (some bi), .map (some bt), c6] ∧ IdM w' bi ts.length (idsL 0 ts) ∧ TokM w' bt ts.length (tokL 0 ts) ∧ w.grownBy w' (some b) := by
  have h1 := hb.cell 1
  simp at h1
  have hl1 := run_call_load (P := Tryd.prog) Tryd.func68 (by kernel_rfl) (by kernel_rfl) (by kernel_rfl) .u32 (by kernel_rfl) h1
  have hnot : ∀ (x : Bool) (w : World), (Op.unary .not (.bool x)).run Tryd.prog w = .ok (.bool (!x)) w := fun _ _ => rfl
  have KS := slow_any b A cap ts c4 c5 c6 w hb he hl hne
  clear hb he
  go_enter Tryd.func42, Tryd.ntmps42
  go_wp2_with (first | (go_at_call 57; refine KS.mono ?_) | (go_at_call 56; go_in))
  rintro e w' ⟨rfl, hR⟩
  go_wp2
  go_end0
  exact ⟨rfl, hR⟩
theorem do_done (a : Addr) (fv : Value) (w : World) (h0 : w.cell? a = some (.int .u32 1)) :
    Calls Tryd.prog 42 #[.pointer (some a), fv] w fun e w' => e = .returned (.tuple #[]) ∧ w' = w := by
  have hl := run_call_load (P := Tryd.prog) Tryd.func68 (by kernel_rfl) (by kernel_rfl) (by kernel_rfl) .u32 (by kernel_rfl) h0
  have hnot : ∀ (x : Bool) (w : World), (Op.unary .not (.bool x)).run Tryd.prog w = .ok (.bool (!x)) w := fun _ _ => rfl
  go_enter Tryd.func42, Tryd.ntmps42
  go_wp2
  go_end0
  exact ⟨rfl, rfl⟩
end Go.Proofs.YtejokbfejkkpmaaDoor
