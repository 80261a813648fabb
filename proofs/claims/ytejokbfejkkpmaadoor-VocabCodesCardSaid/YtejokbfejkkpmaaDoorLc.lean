/- VocabCodes: the row and its tied card. -/
import Derived.Test.YtejokbfejkkpmaaDoorVc
import Derived.Test.YtejokbfejkkpmaaDoorBa
import Derived.Test.YtejokbfejkkpmaaDoorCards
import Derived.Test.YtejokbfejkkpmaaDoorTie
namespace Go.Proofs.YtejokbfejkkpmaaDoor
open Go.ChangeShapes Go.WideShapes Go.ChangeAt Go.RowKit
open Go.ChangeMaps (open_string shut_string)
theorem cells3c : Tryd.prog.cellsOf 3 = 1 := by kernel_rfl
theorem int_arg {H : Type} {enc : TypeId × Value → H} {W : World} {a : Option Addr} {len cap fuel : Nat} {sp : Nat → Bool} {held : Bool} {x : DataW H × List MemPlace} (h : DataW.trod enc Tryd.prog W 0 sp held fuel 34 (Value.slice a len cap).cells.toList = some x) :
    ∃ l : List Int, l.length = len ∧ IntsArg W a l ∧ l.length ≤ 9223372036854775807 ∧ l.length ≤ cap := by
  rcases Deep.open_slice1 Tryd.underlying34 cells3c h with ⟨hcs, _⟩ | ⟨b, len', cap', m, n, V, D, Pl, hcs, _, hl, hm, hmm, rfl, hx⟩
  · simp [Value.cells] at hcs
    obtain ⟨rfl, rfl, rfl⟩ := hcs
    exact ⟨[], rfl, ⟨fun h => absurd h (by simp), fun p hp => by cases hp⟩, by simp, by simp⟩
  · simp [Value.cells] at hcs
    obtain ⟨rfl, rfl, rfl⟩ := hcs
    have hle : len ≤ m := by rw [hmm]; split <;> omega
    have each : ∀ i, i < len → ∃ p : Int, W.cell? (b.add i) = some (.int .i64 p) ∧ -9223372036854775808 ≤ p ∧ p ≤ 9223372036854775807 := by
      intro i hi
      obtain ⟨hc, ht⟩ := hx i (by omega)
      obtain ⟨n1, e1, _, hwf⟩ := DataW.trod_int Tryd.underlying3 ht
      simp only [List.cons.injEq, and_true] at e1
      rw [e1] at hc
      refine ⟨n1, hc, ?_⟩
      simp [Lit.wf] at hwf
      have e1 : IntKind.i64.min = -9223372036854775808 := by decide
      have e2 : IntKind.i64.max = 9223372036854775807 := by decide
      omega
    obtain ⟨f, hf⟩ := Deep.choose_lt (α := Int) (p := fun i p => W.cell? (b.add i) = some (.int .i64 p) ∧ -9223372036854775808 ≤ p ∧ p ≤ 9223372036854775807) each
    have hfl : ((List.range len).map f).length = len := by simp
    unfold maxLen at hm
    refine ⟨(List.range len).map f, hfl, ⟨fun hp => ?_, fun u hu => ?_⟩, by omega, by omega⟩
    · rw [hfl] at hp
      obtain ⟨bb, off, spot⟩ := b
      have g := (hf 0 hp).1
      have hspot : spot = none := by simpa [Addr.add] using World.cell?_spot g
      subst hspot
      refine ⟨bb, off, rfl, ?_, fun j hj => ?_⟩
      · rcases Nat.lt_or_ge bb W.heap.size with h | h
        · exact h
        · simp [World.cell?, Addr.add, Array.getElem?_eq_none h] at g
      · rw [hfl] at hj
        have := hf j hj
        rw [add_plain] at this
        simp only [List.getElem_map, List.getElem_range]
        exact this.1
    · obtain ⟨i, hi, rfl⟩ := List.mem_map.1 hu
      exact (hf i (List.mem_range.1 hi)).2
theorem vocabCodes_reads (os : Os) {H : Type} (enc : TypeId × Value → H) : ∃ places, DataW.whole enc Tryd.prog ((laidW os).forCall (fun _ _ => 0) ⟨#[], #[.slice none 0 0, .string ⟨#[]⟩, .slice none 0 0], []⟩).memory Tryd.f4.params.toList Rows.vocabCodesSpec.vars false #[Value.slice none 0 0, Value.string ⟨#[]⟩, Value.slice none 0 0].toList 8 = some ([.nil, .lit (.string []), .nil], [], places) :=
  ⟨[], by kernel_rfl⟩
set_option maxRecDepth 100000 in
theorem vocabCodes_lifted (os : Os) (started : os.Started) (H : Type) (enc : TypeId × Value → H) (F : Stop.Interp) :
    ReturnsInHanded {} Tryd.checked os 4 .any ((OpenSpec.ofChange Rows.vocabCodesSpec).preRow enc Tryd.prog Tryd.f4 Rows.vocabCodesRow.domain false Rows.vocabCodesRow.laid) (((OpenSpec.ofChange Rows.vocabCodesSpec).at F).post enc Tryd.prog Tryd.f4 false true false false) := by
  obtain ⟨places, hx⟩ := vocabCodes_reads os enc
  refine returnsInHanded_of_row (C := Tryd.checked) (s := OpenSpec.ofChange Rows.vocabCodesSpec) own started (by kernel_rfl) Tryd.func4
    (witness_row_at (enc := enc) (C := Tryd.checked) false (laidW os) #[.slice none 0 0, .string ⟨#[]⟩, .slice none 0 0] rfl (by kernel_rfl) (by kernel_rfl) (by kernel_rfl)
      (OpenSpec.preRow_of_cond 8 hx (by kernel_rfl) (fun k hk => by cases hk) (by kernel_rfl) (laid_met os _))) ?_
  intro W base args ds gs before hval0 hW _ _ hz hmet hsh _
  have hval : ∀ (j : Nat) t v, Tryd.f4.params[j]? = some t → args[j]? = some v → Value.okWide Tryd.prog W .any base t v := hval0
  have hW' := hW
  obtain ⟨p, q, hA0, hV, rfl, _, _⟩ := hW
  have hA : DataW.TrodAll enc Tryd.prog W 0 (fun _ => true) true Tryd.f4.params.toList args.toList ds p := hA0
  have hz' : (DataW.weightsEach Tryd.prog (Tryd.f4.params.toList ++ []) (ds ++ gs)).all (· ≤ reachBytes) = true := hz
  rw [Tryd.params4] at hA hval hz'
  obtain ⟨v0, v1, v2, d0, d1, d2, p0, p1, p2, rfl, rfl, rfl, h0, h1, h2⟩ := trodAll_three hA
  obtain ⟨rfl, rfl⟩ := trodVars_none hV
  obtain ⟨a0, l0, c0, rfl⟩ := okWide_slice Tryd.underlying22 (hval 0 22 v0 rfl rfl)
  have h0k := h0
  obtain ⟨fuel0, hf0⟩ := h0
  have hw0 : ∀ k ∈ d0.weights Tryd.prog 22, k ≤ reachBytes := fun k hk => by simpa using List.all_eq_true.1 hz' k (DataW.weights_mem_each (j := 0) rfl rfl k hk)
  obtain ⟨s1, rfl, rfl, rfl, ws1⟩ := open_string Tryd.underlying9 (hval 1 9 v1 rfl rfl) h1
  obtain ⟨a2, l2, c2, rfl⟩ := okWide_slice Tryd.underlying34 (hval 2 34 v2 rfl rfl)
  have h2k := h2
  obtain ⟨fuel2, hf2⟩ := h2
  have hw2 : ∀ k ∈ d2.weights Tryd.prog 34, k ≤ reachBytes := fun k hk => by simpa using List.all_eq_true.1 hz' k (DataW.weights_mem_each (j := 2) rfl rfl k hk)
  clear hA0 hval0 hz hz'
  simp only [List.append_nil] at hW'
  have hlt := hW'.lt
  obtain ⟨ps0, P0, S0⟩ := pair_arg hf0 hw0
  obtain ⟨ns2, rfl, N2, hn2, hc2⟩ := int_arg hf2
  refine (codes_any a0 a2 l0 c0 c2 ps0 s1 ns2 W P0 S0 N2 hn2 (by unfold maxLen at ws1; exact ws1) hc2).mono fun e W' ⟨he, hb⟩ => ?_
  subst he
  refine ⟨_, rfl, _, _, _, [], _, [], hW', trodAll_mk1 (shut_bool Tryd.underlying4 true), trodAll_mk3 (Below.trod laidOut (by kernel_rfl) (of_decide_eq_true (by kernel_rfl)) h0k hb (fun x hx => hlt x (by simp [hx]))) (shut_string Tryd.underlying9 ws1) (Below.trod laidOut (by kernel_rfl) (of_decide_eq_true (by kernel_rfl)) h2k hb (fun x hx => hlt x (by simp [hx]))), rfl, hb.frame _, fun h => by cases h⟩
theorem vocabCodes_said : Rows.VocabCodesSaid :=
  OpenClaim.holds_of_cond 4 Tryd.f4 rfl rfl rfl rfl rfl rfl rfl ⟨rfl, rfl, rfl, rfl, rfl⟩ rfl rfl rfl rfl rfl (by kernel_rfl) Tryd.func4 (by kernel_rfl)
    (of_decide_eq_true (by kernel_rfl)) (by unfold Func.isWrapper; first | (rw [if_pos (by decide +kernel)]; kernel_rfl) | (rw [if_neg (by decide +kernel)]; exact ⟨rfl, rfl⟩))
    (fun os started H enc _ F => by rw [OpenClaim.pre_eq_preRow]; exact vocabCodes_lifted os started H enc F)
theorem vocabCodes_plain (f : FuncId) (fn : Func) (hf : Tryd.pinned.checked.prog.funcNamed "stemma/stemmalaw09.VocabCodes" = some f) (hfn : Tryd.pinned.checked.prog.funcs[f]? = some fn) :
    true = Tryd.pinned.checked.prog.looks [] ∧ ∀ (j : Nat) t, fn.params[j]? = some t → Tryd.pinned.checked.prog.wantsStandIn t = false := by
  obtain rfl : f = 4 := Option.some.inj ((show Tryd.prog.funcNamed "stemma/stemmalaw09.VocabCodes" = some 4 by kernel_rfl).symm.trans hf) |>.symm
  obtain rfl : fn = Tryd.f4 := (Option.some.inj (Tryd.func4.symm.trans hfn)).symm
  refine ⟨by kernel_rfl, fun j t ht => ?_⟩
  rw [Tryd.params4] at ht
  have hm : t ∈ [22, 9, 34] := by simpa using Array.mem_of_getElem? ht
  have hall : ([22, 9, 34].all fun u => !Tryd.prog.wantsStandIn u) = true := by kernel_rfl
  exact (show Tryd.prog.wantsStandIn t = false by simpa using List.all_eq_true.1 hall t hm)
theorem vocabCodes_card : Rows.VocabCodesCardSaid :=
  Claim7.holds_tied_plain_at .later [] _ _ _ _ vocabCodes_said (fun _ h => by cases h) (by kernel_rfl) (fun _ h => by cases h) vocabCodes_row_tie rfl ⟨rfl, rfl⟩ (by kernel_rfl) rfl vocabCodes_plain (by kernel_rfl)
#print axioms vocabCodes_card
end Go.Proofs.YtejokbfejkkpmaaDoor
