/- What each row of this seat shares: the world that a witness starts in, and how a slice of pairs of texts is opened. -/
import Derived.Test.YtejokbfejkkpmaaDoorRows
import Derived.Test.YtejokbfejkkpmaaDoorVm
import Derived.ProofKit
import Derived.LaidMore
import Derived.OpenShut
import Derived.ShutString
import Derived.Deep.DeepHandedRow
import Derived.Deep.Slices
import Derived.SizedLaws
namespace Go.Proofs.YtejokbfejkkpmaaDoor
open Go.ChangeShapes Go.WideShapes Go.ChangeAt Go.RowKit
theorem own : ownKnob Tryd.prog.godebug = none := by kernel_rfl
theorem laidOut : laidOutB Tryd.prog = true := by kernel_rfl
noncomputable def laidW (os : Os) : World := World.doorLaid Tryd.prog 72 os
theorem laid_met (os : Os) (args : Array Value) : laidMet Tryd.prog Rows.vocabMoreRow.laid ((laidW os).forCall (fun _ _ => 0) ⟨#[], args, []⟩).memory :=
  laidMet_of_run' 8 (by kernel_rfl) (by kernel_rfl)
theorem ws_row {H : Type} {P : Program} {e : TypeId} {ds : List (DataW H)} {d : DataW H} (hd : d ∈ ds) {k : Nat} (hk : k ∈ d.weights P e) : k ∈ DataW.weightsAll P e ds := by
  induction ds with
  | nil => cases hd
  | cons a l ih =>
    simp only [DataW.weightsAll, List.mem_append]
    rcases List.mem_cons.1 hd with rfl | h
    · exact .inl hk
    · exact .inr (ih h)
theorem cells66 : Tryd.prog.cellsOf 66 = 2 := by kernel_rfl
theorem cells9 : Tryd.prog.cellsOf 9 = 1 := by kernel_rfl
theorem pair_arg {H : Type} {enc : TypeId × Value → H} {W : World} {a : Option Addr} {len cap fuel : Nat} {sp : Nat → Bool} {held : Bool} {x : DataW H × List MemPlace} (h : DataW.trod enc Tryd.prog W 0 sp held fuel 22 (Value.slice a len cap).cells.toList = some x)
    (hw : ∀ k ∈ x.1.weights Tryd.prog 22, k ≤ reachBytes) : ∃ ps, PairArg W a len ps ∧ Small ps := by
  rcases Deep.open_slice Tryd.underlying22 h with ⟨hcs, _⟩ | ⟨b, len', cap', m, n, D, Pl, hcs, _, hl, hm, hmm, rfl, hx⟩
  · simp [Value.cells] at hcs
    obtain ⟨rfl, rfl, rfl⟩ := hcs
    exact ⟨[], ⟨rfl, by omega, fun h => absurd h (by omega), fun p hp => by cases hp⟩, fun p hp => by cases hp⟩
  · simp [Value.cells] at hcs
    obtain ⟨rfl, rfl, rfl⟩ := hcs
    have hle : len ≤ m := by rw [hmm]; split <;> omega
    have each : ∀ i, i < len → ∃ p : Bs × Bs, W.cell? (b.add (i * 2)) = some (.string (mk p.1)) ∧ W.cell? (b.add (i * 2 + 1)) = some (.string (mk p.2)) ∧ p.1.length ≤ 140737488355328 ∧ p.2.length ≤ 140737488355328 := by
      intro i hi
      obtain ⟨cs', hc, ht⟩ := hx i (by omega)
      rw [cells66] at hc
      obtain ⟨_, hl2, hcell⟩ := World.cells?_some hc
      obtain ⟨xs, k, _, hD, _, hxl, hel⟩ := DataW.trod_array Tryd.underlying66 ht
      rw [cells9] at hel
      have t0 := hel 0 (by omega)
      have t1 := hel 1 (by omega)
      match cs', hl2, xs, hxl with
      | [c0, c1], _, [y0, y1], _ =>
        simp at t0 t1
        obtain ⟨s0, e0, rfl, _⟩ := DataW.trod_string Tryd.underlying9 t0
        obtain ⟨s1, e1, rfl, _⟩ := DataW.trod_string Tryd.underlying9 t1
        simp only [List.cons.injEq, and_true] at e0 e1
        subst e0
        subst e1
        have g0 := hcell 0 (by omega)
        have g1 := hcell 1 (by omega)
        rw [Deep.add_add] at g0 g1
        have hDi : D i = .agg [.lit (.string s0.data.toList), .lit (.string s1.data.toList)] := congrArg Prod.fst hD
        have wk : ∀ k ∈ (D i).weights Tryd.prog 66, k ≤ reachBytes := by
          intro k hk
          refine hw k ?_
          simp only [DataW.weights, Tryd.underlying22, List.mem_cons, List.mem_append]
          exact .inr (.inl (ws_row (List.mem_map.2 ⟨i, List.mem_range.2 hi, rfl⟩) hk))
        rw [hDi] at wk
        simp only [DataW.weights, Tryd.underlying66, DataW.weightsAll, List.mem_append, List.mem_cons, List.not_mem_nil, or_false] at wk
        have a0 := wk _ (.inl rfl)
        have a1 := wk _ (.inr rfl)
        simp only [reachBytes] at a0 a1
        exact ⟨(s0.data.toList, s1.data.toList), by simpa [mk_list] using g0, by simpa [mk_list] using g1, by show s0.data.toList.length ≤ _; omega, by show s1.data.toList.length ≤ _; omega⟩
    obtain ⟨f, hf⟩ := Deep.choose_lt (α := Bs × Bs) (p := fun i p => W.cell? (b.add (i * 2)) = some (.string (mk p.1)) ∧ W.cell? (b.add (i * 2 + 1)) = some (.string (mk p.2)) ∧ p.1.length ≤ 140737488355328 ∧ p.2.length ≤ 140737488355328) each
    have hfl : ((List.range len).map f).length = len := by simp
    refine ⟨(List.range len).map f, ⟨hfl, by unfold maxLen at hm; omega, fun hp => ?_, ?_⟩, ?_⟩
    · obtain ⟨bb, off, spot⟩ := b
      have g := (hf 0 hp).1
      have hspot : spot = none := by simpa [Addr.add] using World.cell?_spot g
      subst hspot
      refine ⟨bb, off, rfl, ?_, fun j hj => ?_⟩
      · rcases Nat.lt_or_ge bb W.heap.size with h | h
        · exact h
        · simp [World.cell?, Addr.add, Array.getElem?_eq_none h] at g
      · rw [hfl] at hj
        have := hf j hj
        rw [add_plain, add_plain] at this
        simp only [List.getElem_map, List.getElem_range]
        exact ⟨this.1, by rw [Nat.add_assoc]; exact this.2.1⟩
    · intro p hp
      obtain ⟨i, hi, rfl⟩ := List.mem_map.1 hp
      have := (hf i (List.mem_range.1 hi)).2.2
      omega
    · intro p hp
      obtain ⟨i, hi, rfl⟩ := List.mem_map.1 hp
      exact (hf i (List.mem_range.1 hi)).2.2
end Go.Proofs.YtejokbfejkkpmaaDoor
