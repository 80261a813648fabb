/- VocabBack: the row and its tied card. -/
import Derived.Test.YtejokbfejkkpmaaDoorVb
import Derived.Test.YtejokbfejkkpmaaDoorBa
import Derived.Test.YtejokbfejkkpmaaDoorCards
import Derived.Test.YtejokbfejkkpmaaDoorTie
namespace Go.Proofs.YtejokbfejkkpmaaDoor
open Go.ChangeShapes Go.WideShapes Go.ChangeAt Go.RowKit
open Go.ChangeMaps (open_string shut_string)
theorem vocabBack_reads (os : Os) {H : Type} (enc : TypeId × Value → H) : ∃ places, DataW.whole enc Tryd.prog ((laidW os).forCall (fun _ _ => 0) ⟨#[], #[.slice none 0 0, .string ⟨#[]⟩], []⟩).memory Tryd.f6.params.toList Rows.vocabBackSpec.vars false #[Value.slice none 0 0, Value.string ⟨#[]⟩].toList 8 = some ([.nil, .lit (.string [])], [], places) :=
  ⟨[], by kernel_rfl⟩
set_option maxRecDepth 100000 in
theorem vocabBack_lifted (os : Os) (started : os.Started) (H : Type) (enc : TypeId × Value → H) (F : Stop.Interp) :
    ReturnsInHanded {} Tryd.checked os 6 .any ((OpenSpec.ofChange Rows.vocabBackSpec).preRow enc Tryd.prog Tryd.f6 Rows.vocabBackRow.domain false Rows.vocabBackRow.laid) (((OpenSpec.ofChange Rows.vocabBackSpec).at F).post enc Tryd.prog Tryd.f6 false true false false) := by
  obtain ⟨places, hx⟩ := vocabBack_reads os enc
  refine returnsInHanded_of_row (C := Tryd.checked) (s := OpenSpec.ofChange Rows.vocabBackSpec) own started (by kernel_rfl) Tryd.func6
    (witness_row_at (enc := enc) (C := Tryd.checked) false (laidW os) #[.slice none 0 0, .string ⟨#[]⟩] rfl (by kernel_rfl) (by kernel_rfl) (by kernel_rfl)
      (OpenSpec.preRow_of_cond 8 hx (by kernel_rfl) (fun k hk => by cases hk) (by kernel_rfl) (laid_met os _))) ?_
  intro W base args ds gs before hval0 hW _ _ hz hmet hsh _
  have hval : ∀ (j : Nat) t v, Tryd.f6.params[j]? = some t → args[j]? = some v → Value.okWide Tryd.prog W .any base t v := hval0
  have hW' := hW
  obtain ⟨p, q, hA0, hV, rfl, _, _⟩ := hW
  have hA : DataW.TrodAll enc Tryd.prog W 0 (fun _ => true) true Tryd.f6.params.toList args.toList ds p := hA0
  have hz' : (DataW.weightsEach Tryd.prog (Tryd.f6.params.toList ++ []) (ds ++ gs)).all (· ≤ reachBytes) = true := hz
  rw [Tryd.params6] at hA hval hz'
  obtain ⟨v0, v1, d0, d1, p0, p1, rfl, rfl, rfl, h0, h1⟩ := trodAll_two hA
  obtain ⟨rfl, rfl⟩ := trodVars_none hV
  obtain ⟨a0, l0, c0, rfl⟩ := okWide_slice Tryd.underlying22 (hval 0 22 v0 rfl rfl)
  have h0k := h0
  obtain ⟨fuel0, hf0⟩ := h0
  have hw0 : ∀ k ∈ d0.weights Tryd.prog 22, k ≤ reachBytes := fun k hk => by simpa using List.all_eq_true.1 hz' k (DataW.weights_mem_each (j := 0) rfl rfl k hk)
  obtain ⟨s1, rfl, rfl, rfl, ws1⟩ := open_string Tryd.underlying9 (hval 1 9 v1 rfl rfl) h1
  clear hA0 hval0 hz hz'
  simp only [List.append_nil] at hW'
  have hlt := hW'.lt
  obtain ⟨ps0, P0, S0⟩ := pair_arg hf0 hw0
  refine (back_any a0 l0 c0 ps0 s1 W P0 S0 (by unfold maxLen at ws1; exact ws1)).mono fun e W' ⟨he, hb⟩ => ?_
  subst he
  refine ⟨_, rfl, _, _, _, [], _, [], hW', trodAll_mk1 (shut_bool Tryd.underlying4 true), trodAll_mk2 (Below.trod laidOut (by kernel_rfl) (of_decide_eq_true (by kernel_rfl)) h0k hb (fun x hx => hlt x (by simp [hx]))) (shut_string Tryd.underlying9 ws1), rfl, hb.frame _, fun h => by cases h⟩
theorem vocabBack_said : Rows.VocabBackSaid :=
  OpenClaim.holds_of_cond 6 Tryd.f6 rfl rfl rfl rfl rfl rfl rfl ⟨rfl, rfl, rfl, rfl, rfl⟩ rfl rfl rfl rfl rfl (by kernel_rfl) Tryd.func6 (by kernel_rfl)
    (of_decide_eq_true (by kernel_rfl)) (by unfold Func.isWrapper; first | (rw [if_pos (by decide +kernel)]; kernel_rfl) | (rw [if_neg (by decide +kernel)]; exact ⟨rfl, rfl⟩))
    (fun os started H enc _ F => by rw [OpenClaim.pre_eq_preRow]; exact vocabBack_lifted os started H enc F)
theorem vocabBack_plain (f : FuncId) (fn : Func) (hf : Tryd.pinned.checked.prog.funcNamed "stemma/stemmalaw09.VocabBack" = some f) (hfn : Tryd.pinned.checked.prog.funcs[f]? = some fn) :
    true = Tryd.pinned.checked.prog.looks [] ∧ ∀ (j : Nat) t, fn.params[j]? = some t → Tryd.pinned.checked.prog.wantsStandIn t = false := by
  obtain rfl : f = 6 := Option.some.inj ((show Tryd.prog.funcNamed "stemma/stemmalaw09.VocabBack" = some 6 by kernel_rfl).symm.trans hf) |>.symm
  obtain rfl : fn = Tryd.f6 := (Option.some.inj (Tryd.func6.symm.trans hfn)).symm
  refine ⟨by kernel_rfl, fun j t ht => ?_⟩
  rw [Tryd.params6] at ht
  have hm : t ∈ [22, 9] := by simpa using Array.mem_of_getElem? ht
  have hall : ([22, 9].all fun u => !Tryd.prog.wantsStandIn u) = true := by kernel_rfl
  exact (show Tryd.prog.wantsStandIn t = false by simpa using List.all_eq_true.1 hall t hm)
theorem vocabBack_card : Rows.VocabBackCardSaid :=
  Claim7.holds_tied_plain_at .later [] _ _ _ _ vocabBack_said (fun _ h => by cases h) (by kernel_rfl) (fun _ h => by cases h) vocabBack_row_tie rfl ⟨rfl, rfl⟩ (by kernel_rfl) rfl vocabBack_plain (by kernel_rfl)
#print axioms vocabBack_card
end Go.Proofs.YtejokbfejkkpmaaDoor
