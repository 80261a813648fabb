import Derived.Test.YtkaejgpnhcdlnaaRows
import Derived.Test.YtkaejgpnhcdlnaaKit
import Derived.RegionTactic
import Derived.BigRegion
namespace Go.Proofs.Ytkaejgpnhcdlnaa
open Go.RowKit
theorem bcell {W w1 : World} {B : Nat} (hb : Below B W w1) : (∀ b o, b < B → w1.cell? ⟨b, o, none⟩ = W.cell? ⟨b, o, none⟩) ∧ (∀ b o, b < B → w1.frozen? ⟨b, o, none⟩ = W.frozen? ⟨b, o, none⟩) :=
  ⟨fun b o h => hb.cell (p := ⟨b, o, none⟩) h, fun b o h => hb.frozen (p := ⟨b, o, none⟩) h⟩

theorem conv1 (W : World) (a : Addr) (c : Nat) (b : UInt8) (h : W.cell? a = some (.int .u8 b.toNat)) :
    (convert 41 9 (.slice (some a) 1 c)).run Try.prog W = .ok (.string ⟨#[b]⟩) W := by
  have := run_convert_bytes_back (P := Try.prog) W 41 9 5 a c [b] Try.underlying41 Try.underlying5 Try.underlying9 (fun j hj => by
    have : j = 0 := by simpa using hj
    subst this
    simpa [Addr.add] using h)
  simpa using this

set_option maxHeartbeats 400000 in
theorem turn1 (g cap : Nat) (w : World) (hg : g < w.heap.size) (hc0 : w.cell? ⟨g, 0, none⟩ = some (.int .i64 1)) (hc1 : w.cell? ⟨g, 1, none⟩ = some (.int .i64 1)) :
    Calls Try.prog 11 #[.agg #[.int .i64 5, .string ⟨#[0]⟩], .slice (some ⟨g, 0, none⟩) 1 cap, .bool true] w fun e w' => e = .returned (.tuple #[.agg #[.int .i64 5, .string ⟨#[2]⟩], .int .i64 0]) ∧ Below w.heap.size w w' := by
  have e1 : bits .and .u8 0 1 = 0 := by decide
  have e2 : bits .xor .u8 0 2 = 2 := by decide
  have hcv := fun W a c => conv1 W a c 2
  go_enter Try.func11, Try.ntmps11
  go_wp2_with (with_reducible refine wpList_bytes rfl (.tmp 13) 9 41 5 rfl Try.underlying9 Try.underlying41 Try.underlying5 ⟨#[0]⟩ rfl ?_; intro c1 w1 hbuf hbel hsz)
  simp only [World.size_alloc, List.map_cons, List.map_nil] at hbuf hbel hsz
  obtain ⟨bc, bf⟩ := bcell hbel
  have hb0 : Below w.heap.size w w1 := (((Below.refl _ _).alloc (Nat.le_refl _) _).alloc (by simp) _).trans (hbel.mono (by omega))
  have g0 := (hb0.cell (p := ⟨g, 0, none⟩) hg).trans hc0
  have g1 := (hb0.cell (p := ⟨g, 1, none⟩) hg).trans hc1
  have k0 := hbuf.cell (i := 0) (by simp)
  have k1 := hbuf.frozen (i := 0) (by simp)
  simp at k0
  clear hbel
  refine wp_loop_rounds 2 ?_; rw [rounds_succ]
  go_wp2
  refine wp_loop_rounds 2 ?_; rw [rounds_succ]
  go_wp2
  go_region
  go_wp2
  rw [rounds_succ]
  go_wp2
  rw [rounds_succ]
  go_wp2
  refine bodyPost_ret (v := .tuple #[.agg #[.int .i64 5, .string ⟨#[2]⟩], .int .i64 0]) (by simp [results, Try.results11, go_sem, bc, hsz]) rfl ⟨rfl, ?_⟩
  exact ((((hb0.setCell (p := ⟨_, _, none⟩) (by simp; omega) _).setCell (p := ⟨_, _, none⟩) (by simp) _).setCell (p := ⟨_, _, none⟩) (by simp) _).alloc (by simp; omega) _).drew

set_option maxHeartbeats 400000 in
theorem turn2 (g cap : Nat) (w : World) (hg : g < w.heap.size) (hc0 : w.cell? ⟨g, 0, none⟩ = some (.int .i64 0)) (hc1 : w.cell? ⟨g, 1, none⟩ = some (.int .i64 1))
    (hc2 : w.cell? ⟨g, 2, none⟩ = some (.int .i64 2)) (hc3 : w.cell? ⟨g, 3, none⟩ = some (.int .i64 1)) :
    Calls Try.prog 11 #[.agg #[.int .i64 5, .string ⟨#[2]⟩], .slice (some ⟨g, 0, none⟩) 2 cap, .bool true] w fun e w' => e = .returned (.tuple #[.agg #[.int .i64 5, .string ⟨#[7]⟩], .int .i64 0]) ∧ Below w.heap.size w w' := by
  have e1 : bits .and .u8 2 1 = 0 := by decide
  have e2 : bits .xor .u8 2 1 = 3 := by decide
  have e3 : bits .and .u8 0 1 = 0 := by decide
  have e4 : bits .xor .u8 3 4 = 7 := by decide
  have hcv := fun W a c => conv1 W a c 7
  go_enter Try.func11, Try.ntmps11
  go_wp2_with (with_reducible refine wpList_bytes rfl (.tmp 13) 9 41 5 rfl Try.underlying9 Try.underlying41 Try.underlying5 ⟨#[2]⟩ rfl ?_; intro c1 w1 hbuf hbel hsz)
  simp only [World.size_alloc, List.map_cons, List.map_nil] at hbuf hbel hsz
  obtain ⟨bc, bf⟩ := bcell hbel
  have hb0 : Below w.heap.size w w1 := (((Below.refl _ _).alloc (Nat.le_refl _) _).alloc (by simp) _).trans (hbel.mono (by omega))
  have g0 := (hb0.cell (p := ⟨g, 0, none⟩) hg).trans hc0
  have g1 := (hb0.cell (p := ⟨g, 1, none⟩) hg).trans hc1
  have g2 := (hb0.cell (p := ⟨g, 2, none⟩) hg).trans hc2
  have g3 := (hb0.cell (p := ⟨g, 3, none⟩) hg).trans hc3
  have k0 := hbuf.cell (i := 0) (by simp)
  have k1 := hbuf.frozen (i := 0) (by simp)
  simp at k0
  clear hbel
  have q : ∀ (o : Nat) (v : Value), w1.cell? ⟨g, o, none⟩ = some v → ∀ u C, ((w1.setCell ⟨w.heap.size + 1 + 1, 0, none⟩ u).alloc C).cell? ⟨g, o, none⟩ = some v := by
    intro o v h u C
    rw [World.cell?_alloc_lt _ _ _ (by simp; omega), World.cell?_setCell_other _ _ _ _ (by intro e; injection e with e; omega)]
    exact h
  have q4 : ∀ u C D, ((((w1.setCell ⟨w.heap.size + 1 + 1, 0, none⟩ u).setCell ⟨w.heap.size + 1 + 1, 0, none⟩ (.int .u8 7)).alloc C).alloc D).cell? ⟨w.heap.size + 1 + 1, 0, none⟩ = some (.int .u8 7) := by
    intro u C D
    have hz : w.heap.size + 1 + 1 < w1.heap.size := by omega
    rw [World.cell?_alloc_lt _ _ _ (by simp; omega), World.cell?_alloc_lt _ _ _ (by simp; omega)]
    exact World.cell?_setCell_same' _ _ _ (by rw [World.cell?_setCell_same' _ _ _ (by rw [k0]; rfl)]; rfl)
  have q2 := q 2 _ g2
  have q3 := q 3 _ g3
  clear q
  refine wp_loop_rounds 3 ?_; rw [rounds_succ]
  go_wp2
  refine wp_loop_rounds 2 ?_; rw [rounds_succ]
  go_wp2
  go_region
  go_wp2
  rw [rounds_succ]
  go_wp2
  rw [rounds_succ]
  go_wp2
  refine wp_loop_rounds 2 ?_; rw [rounds_succ]
  go_wp2
  go_region
  go_wp2
  rw [rounds_succ]
  go_wp2
  rw [rounds_succ]
  go_wp2
  refine bodyPost_ret (v := .tuple #[.agg #[.int .i64 5, .string ⟨#[7]⟩], .int .i64 0]) (by simp [results, Try.results11, go_sem, bc, hsz]) rfl ⟨rfl, ?_⟩
  exact (((((((hb0.setCell (p := ⟨_, _, none⟩) (by simp; omega) _).setCell (p := ⟨_, _, none⟩) (by simp; omega) _).setCell (p := ⟨_, _, none⟩) (by simp) _).setCell (p := ⟨_, _, none⟩) (by simp) _).alloc (by simp; omega) _).alloc (by simp; omega) _).drew).drew

set_option maxHeartbeats 400000 in
theorem claim1 (g cap : Nat) (w : World) (hg : g < w.heap.size) (hc0 : w.cell? ⟨g, 0, none⟩ = some (.int .i64 1)) (hc1 : w.cell? ⟨g, 1, none⟩ = some (.int .i64 1)) :
    Calls Try.prog 7 #[.agg #[.int .i64 5, .string ⟨#[0]⟩], .slice (some ⟨g, 0, none⟩) 1 cap] w fun e w' => e = .returned (.tuple #[.agg #[.int .i64 5, .string ⟨#[2]⟩], .int .i64 0]) ∧ Below w.heap.size w w' := by
  go_enter Try.func7, Try.ntmps7
  go_wp2_with fail
  refine (turn1 g cap _ ?_ ?_ ?_).mono ?_
  · simp; omega
  · rw [World.cell?_alloc_lt _ _ _ (by simp; omega), World.cell?_alloc_lt _ _ _ hg, hc0]
  · rw [World.cell?_alloc_lt _ _ _ (by simp; omega), World.cell?_alloc_lt _ _ _ hg, hc1]
  rintro e w1 ⟨rfl, hb⟩
  simp only [World.size_alloc] at hb
  have hb0 : Below w.heap.size w w1 := (((Below.refl _ _).alloc (Nat.le_refl _) _).alloc (by simp) _).trans (hb.mono (by omega))
  obtain ⟨bc, bf⟩ := bcell hb
  have hsz := hb.size
  simp at hsz
  clear hb
  go_wp2
  refine bodyPost_ret (v := .tuple #[.agg #[.int .i64 5, .string ⟨#[2]⟩], .int .i64 0]) (by simp [results, Try.results7, go_sem, bc]) rfl ⟨rfl, ?_⟩
  exact (hb0.setCell (p := ⟨_, _, none⟩) (by simp) _).setCell (p := ⟨_, _, none⟩) (by simp) _
set_option maxHeartbeats 400000 in
theorem claim2 (g cap : Nat) (w : World) (hg : g < w.heap.size) (hc0 : w.cell? ⟨g, 0, none⟩ = some (.int .i64 0)) (hc1 : w.cell? ⟨g, 1, none⟩ = some (.int .i64 1)) (hc2 : w.cell? ⟨g, 2, none⟩ = some (.int .i64 2)) (hc3 : w.cell? ⟨g, 3, none⟩ = some (.int .i64 1)) :
    Calls Try.prog 7 #[.agg #[.int .i64 5, .string ⟨#[2]⟩], .slice (some ⟨g, 0, none⟩) 2 cap] w fun e w' => e = .returned (.tuple #[.agg #[.int .i64 5, .string ⟨#[7]⟩], .int .i64 0]) ∧ Below w.heap.size w w' := by
  go_enter Try.func7, Try.ntmps7
  go_wp2_with fail
  refine (turn2 g cap _ ?_ ?_ ?_ ?_ ?_).mono ?_
  · simp; omega
  · rw [World.cell?_alloc_lt _ _ _ (by simp; omega), World.cell?_alloc_lt _ _ _ hg, hc0]
  · rw [World.cell?_alloc_lt _ _ _ (by simp; omega), World.cell?_alloc_lt _ _ _ hg, hc1]
  · rw [World.cell?_alloc_lt _ _ _ (by simp; omega), World.cell?_alloc_lt _ _ _ hg, hc2]
  · rw [World.cell?_alloc_lt _ _ _ (by simp; omega), World.cell?_alloc_lt _ _ _ hg, hc3]
  rintro e w1 ⟨rfl, hb⟩
  simp only [World.size_alloc] at hb
  have hb0 : Below w.heap.size w w1 := (((Below.refl _ _).alloc (Nat.le_refl _) _).alloc (by simp) _).trans (hb.mono (by omega))
  obtain ⟨bc, bf⟩ := bcell hb
  have hsz := hb.size
  simp at hsz
  clear hb
  go_wp2
  refine bodyPost_ret (v := .tuple #[.agg #[.int .i64 5, .string ⟨#[7]⟩], .int .i64 0]) (by simp [results, Try.results7, go_sem, bc]) rfl ⟨rfl, ?_⟩
  exact (hb0.setCell (p := ⟨_, _, none⟩) (by simp) _).setCell (p := ⟨_, _, none⟩) (by simp) _
end Go.Proofs.Ytkaejgpnhcdlnaa
