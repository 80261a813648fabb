/- NamesLog: the row and its tied card. -/
import Derived.Test.YtlkfnhcnfjdgbaaDoorNl
import Derived.Test.YtlkfnhcnfjdgbaaDoorTo
import Derived.Test.YtlkfnhcnfjdgbaaDoorCards
import Derived.Test.YtlkfnhcnfjdgbaaDoorTie
namespace Go.Proofs.YtlkfnhcnfjdgbaaDoor
open Go.ChangeShapes Go.WideShapes Go.ChangeAt Go.RowKit
/-- A slice of numbers that came in. -/
theorem ints_arg {H : Type} {enc : TypeId × Value → H} {W : World} {a : Option Addr} {len cap fuel : Nat} {sp : Nat → Bool} {held : Bool} {x : DataW H × List MemPlace} (h : DataW.trod enc Tryd.prog W 0 sp held fuel 53 (Value.slice a len cap).cells.toList = some x) :
    ∃ l : List Int, l.length = len ∧ len ≤ maxLen ∧ Ints W a l ∧ ∀ n ∈ l, -9223372036854775808 ≤ n ∧ n ≤ 9223372036854775807 := by
  rcases Deep.open_slice1 Tryd.underlying53 cells3 h with ⟨hcs, _⟩ | ⟨b, len', cap', m, n, V, D, Pl, hcs, _, hl, hm, hmm, rfl, hx⟩
  · simp [Value.cells] at hcs
    obtain ⟨rfl, rfl, rfl⟩ := hcs
    exact ⟨[], rfl, Nat.zero_le _, fun h => absurd h (by simp), fun p hp => by cases hp⟩
  · simp [Value.cells] at hcs
    obtain ⟨rfl, rfl, rfl⟩ := hcs
    have hle : len ≤ m := by rw [hmm]; split <;> omega
    have each : ∀ i, i < len → ∃ p : Int, W.cell? (b.add i) = some (.int .i64 p) ∧ -9223372036854775808 ≤ p ∧ p ≤ 9223372036854775807 := by
      intro i hi
      obtain ⟨hc, ht⟩ := hx i (by omega)
      obtain ⟨n1, e1, _, hwf⟩ := DataW.trod_int Tryd.underlying3 ht
      simp only [List.cons.injEq, and_true] at e1
      rw [e1] at hc
      refine ⟨n1, hc, ?_⟩
      simp [Lit.wf] at hwf
      have e1 : IntKind.i64.min = -9223372036854775808 := by decide
      have e2 : IntKind.i64.max = 9223372036854775807 := by decide
      omega
    obtain ⟨f, hf⟩ := Deep.choose_lt (α := Int) (p := fun i p => W.cell? (b.add i) = some (.int .i64 p) ∧ -9223372036854775808 ≤ p ∧ p ≤ 9223372036854775807) each
    have hfl : ((List.range len).map f).length = len := by simp
    refine ⟨(List.range len).map f, hfl, by omega, fun hp => ?_, fun u hu => ?_⟩
    · rw [hfl] at hp
      obtain ⟨bb, off, rfl, hbb⟩ := addr_block (hf 0 hp).1 rfl
      refine ⟨bb, off, rfl, hbb, fun j hj => ?_⟩
      rw [hfl] at hj
      have := hf j hj
      rw [add_plain] at this
      simp only [List.getElem_map, List.getElem_range]
      exact this.1
    · obtain ⟨i, hi, rfl⟩ := List.mem_map.1 hu
      exact (hf i (List.mem_range.1 hi)).2
theorem log_met (os : Os) (args : Array Value) : laidMet Tryd.prog Rows.namesLogRow.laid ((laidW os).forCall (fun _ _ => 0) ⟨#[], args, []⟩).memory :=
  laidMet_of_run' 8 (by kernel_rfl) (by kernel_rfl)
theorem log_reads (os : Os) {H : Type} (enc : TypeId × Value → H) : ∃ places, DataW.whole enc Tryd.prog ((laidW os).forCall (fun _ _ => 0) ⟨#[], #[.slice none 0 0], []⟩).memory Tryd.f6.params.toList Rows.namesLogSpec.vars false #[Value.slice none 0 0].toList 8 = some ([.nil], [], places) :=
  ⟨[], by kernel_rfl⟩
set_option maxRecDepth 100000 in
theorem log_lifted (os : Os) (started : os.Started) (H : Type) (enc : TypeId × Value → H) (F : Stop.Interp) :
    ReturnsInHanded {} Tryd.checked os 6 .any ((OpenSpec.ofChange Rows.namesLogSpec).preRow enc Tryd.prog Tryd.f6 Rows.namesLogRow.domain false Rows.namesLogRow.laid) (((OpenSpec.ofChange Rows.namesLogSpec).at F).post enc Tryd.prog Tryd.f6 false true false false) := by
  obtain ⟨places, hx⟩ := log_reads os enc
  refine returnsInHanded_of_row (C := Tryd.checked) (s := OpenSpec.ofChange Rows.namesLogSpec) own started (by kernel_rfl) Tryd.func6
    (witness_row_at (enc := enc) (C := Tryd.checked) false (laidW os) #[.slice none 0 0] rfl (by kernel_rfl) (by kernel_rfl) (by kernel_rfl)
      (OpenSpec.preRow_of_cond 8 hx (by kernel_rfl) (fun k hk => by cases hk) (by kernel_rfl) (log_met os _))) ?_
  intro W base args ds gs before hval0 hW _ _ hz hmet hsh _
  have hval : ∀ (j : Nat) t v, Tryd.f6.params[j]? = some t → args[j]? = some v → Value.okWide Tryd.prog W .any base t v := hval0
  have hW' := hW
  obtain ⟨p, q, hA0, hV, rfl, _, _⟩ := hW
  have hA : DataW.TrodAll enc Tryd.prog W 0 (fun _ => true) true Tryd.f6.params.toList args.toList ds p := hA0
  rw [Tryd.params6] at hA hval
  obtain ⟨v0, d0, rfl, rfl, h0⟩ := trodAll_one hA
  obtain ⟨rfl, rfl⟩ := trodVars_none hV
  obtain ⟨a0, len0, cap0, rfl⟩ := okWide_slice Tryd.underlying53 (hval 0 53 v0 rfl rfl)
  have h0k := h0
  obtain ⟨fuel0, hf0⟩ := h0
  clear hA0 hval0 hz
  simp only [List.append_nil] at hW'
  have hlt : ∀ x ∈ p, x.block < W.heap.size := fun x hx => by simpa using hW'.lt x hx
  obtain ⟨m, hm⟩ := maxLen_some hsh
  obtain ⟨l, hl, hlm, hL, hwf⟩ := ints_arg hf0
  unfold maxLen at hlm
  refine (log_any a0 len0 cap0 l m W hl (by omega) hL hwf hm).mono fun e W' ⟨he, hb⟩ => ?_
  subst he
  refine ⟨_, rfl, _, _, _, [], p, [], hW', trodAll_mk1 (shut_bool Tryd.underlying4 true), ?_, rfl, hb.frame _, fun h => by cases h⟩
  exact trodAll_mk1 (Below.trod laidOut (by kernel_rfl) (of_decide_eq_true (by kernel_rfl)) h0k hb hlt)
theorem namesLog_said : Rows.NamesLogSaid :=
  OpenClaim.holds_of_cond 6 Tryd.f6 rfl rfl rfl rfl rfl rfl rfl ⟨rfl, rfl, rfl, rfl, rfl⟩ rfl rfl rfl rfl rfl (by kernel_rfl) Tryd.func6 (by kernel_rfl)
    (of_decide_eq_true (by kernel_rfl)) (by unfold Func.isWrapper; first | (rw [if_pos (by decide +kernel)]; kernel_rfl) | (rw [if_neg (by decide +kernel)]; exact ⟨rfl, rfl⟩))
    (fun os started H enc _ F => by rw [OpenClaim.pre_eq_preRow]; exact log_lifted os started H enc F)
theorem namesLog_plain (f : FuncId) (fn : Func) (hf : Tryd.pinned.checked.prog.funcNamed "stemma/stemmalaw16.NamesLog" = some f) (hfn : Tryd.pinned.checked.prog.funcs[f]? = some fn) :
    false = Tryd.pinned.checked.prog.looks [] ∧ ∀ (j : Nat) t, fn.params[j]? = some t → Tryd.pinned.checked.prog.wantsStandIn t = false := by
  obtain rfl : f = 6 := Option.some.inj ((show Tryd.prog.funcNamed "stemma/stemmalaw16.NamesLog" = some 6 by kernel_rfl).symm.trans hf) |>.symm
  obtain rfl : fn = Tryd.f6 := (Option.some.inj (Tryd.func6.symm.trans hfn)).symm
  refine ⟨by kernel_rfl, fun j t ht => ?_⟩
  rw [Tryd.params6] at ht
  have hm : t ∈ [53] := by simpa using Array.mem_of_getElem? ht
  have hall : ([53].all fun u => !Tryd.prog.wantsStandIn u) = true := by kernel_rfl
  exact (show Tryd.prog.wantsStandIn t = false by simpa using List.all_eq_true.1 hall t hm)
theorem namesLog_card : Rows.NamesLogCardSaid :=
  Claim7.holds_tied_plain_at .later [] _ _ _ _ namesLog_said (fun _ h => by cases h) (by kernel_rfl) (fun _ h => by cases h) namesLog_row_tie rfl ⟨rfl, rfl⟩ (by kernel_rfl) rfl namesLog_plain (by kernel_rfl)
#print axioms namesLog_card
end Go.Proofs.YtlkfnhcnfjdgbaaDoor
