/- NamesTurned, where what it reads is of bulk at most 1048576: the row and its tied card. -/
import Derived.Test.YtlkfnhcnfjdgbaaDoorTo
import Derived.Test.YtlkfnhcnfjdgbaaDoorCards
import Derived.Test.YtlkfnhcnfjdgbaaDoorTie
namespace Go.Proofs.YtlkfnhcnfjdgbaaDoor
open Go.ChangeShapes Go.WideShapes Go.ChangeAt Go.RowKit
open Go.ChangeMaps (open_string shut_string)
theorem arr_two {α : Type} {cs : Array α} (h : cs.size = 2) : ∃ a b, cs = #[a, b] := by
  match cs, h with
  | ⟨[a, b]⟩, _ => exact ⟨a, b, rfl⟩
theorem turned_met (os : Os) (args : Array Value) : laidMet Tryd.prog Rows.namesTurnedRow.laid ((laidW os).forCall (fun _ _ => 0) ⟨#[], args, []⟩).memory :=
  laidMet_of_run' 8 (by kernel_rfl) (by kernel_rfl)
theorem turned_reads (os : Os) {H : Type} (enc : TypeId × Value → H) : ∃ places, DataW.whole enc Tryd.prog ((laidW os).forCall (fun _ _ => 0) ⟨#[], #[.slice none 0 0, .agg #[.slice none 0 0, .string ⟨#[]⟩]], []⟩).memory Tryd.f4.params.toList Rows.namesTurnedSpec.vars false #[Value.slice none 0 0, .agg #[.slice none 0 0, .string ⟨#[]⟩]].toList 8 = some ([.nil, .agg [.nil, .lit (.string [])]], [], places) :=
  ⟨[], by kernel_rfl⟩
set_option maxRecDepth 100000 in
set_option maxHeartbeats 1000000 in
theorem turned_lifted (os : Os) (started : os.Started) (H : Type) (enc : TypeId × Value → H) (F : Stop.Interp) :
    ReturnsInHanded {} Tryd.checked os 4 .any ((Rows.OpenSpec.upto Rows.namesTurnedSpec).preRow enc Tryd.prog Tryd.f4 Rows.namesTurnedUptoRow.domain false Rows.namesTurnedUptoRow.laid) (((Rows.OpenSpec.upto Rows.namesTurnedSpec).at F).post enc Tryd.prog Tryd.f4 false true false false) := by
  obtain ⟨places, hx⟩ := turned_reads os enc
  refine returnsInHanded_of_row (C := Tryd.checked) (s := Rows.OpenSpec.upto Rows.namesTurnedSpec) own started (by kernel_rfl) Tryd.func4
    (witness_row_at (enc := enc) (C := Tryd.checked) false (laidW os) #[.slice none 0 0, .agg #[.slice none 0 0, .string ⟨#[]⟩]] rfl (by kernel_rfl) (by kernel_rfl) (by kernel_rfl)
      (OpenSpec.preRow_of_cond 8 hx (by kernel_rfl) (fun k hk => by cases hk; kernel_rfl) (by kernel_rfl) (turned_met os _))) ?_
  intro W base args ds gs before hval0 hW _ hk hz hmet hsh _
  have hval : ∀ (j : Nat) t v, Tryd.f4.params[j]? = some t → args[j]? = some v → Value.okWide Tryd.prog W .any base t v := hval0
  have hW' := hW
  obtain ⟨p, q, hA0, hV, rfl, _, _⟩ := hW
  have hA : DataW.TrodAll enc Tryd.prog W 0 (fun _ => true) true Tryd.f4.params.toList args.toList ds p := hA0
  rw [Tryd.params4] at hA hval
  obtain ⟨v0, v1, d0, d1, p0, p1, rfl, rfl, rfl, h0, h1⟩ := trodAll_two hA
  obtain ⟨rfl, rfl⟩ := trodVars_none hV
  obtain ⟨a0, len0, cap0, rfl⟩ := okWide_slice Tryd.underlying24 (hval 0 24 v0 rfl rfl)
  obtain ⟨cs, rfl, hcs⟩ := okWide_struct Tryd.underlying27 (hval 1 27 v1 rfl rfl)
  obtain ⟨c0, c1, rfl⟩ := arr_two (hcs.trans cells27)
  have h0k := h0
  have h1k := h1
  obtain ⟨fuel0, hf0⟩ := h0
  obtain ⟨fuel1, hf1⟩ := h1
  have hbd := of_decide_eq_true (hk _ rfl)
  simp only [List.append_nil, Rows.uptoBulkAll] at hbd
  clear hA0 hval0 hz
  simp only [List.append_nil] at hW'
  have hlt : ∀ x ∈ p0 ++ p1, x.block < W.heap.size := fun x hx => by simpa using hW'.lt x hx
  obtain ⟨m, hm⟩ := maxLen_some hsh
  have hb0 : Rows.uptoBulk d0 ≤ 2000000 := by omega
  have hb1 : Rows.uptoBulk d1 ≤ 2000000 := by omega
  clear hcs hbd
  obtain ⟨l, hl, hlm, hL, hok⟩ := txns_arg (x := (d0, p0)) hf0 hb0
  obtain ⟨y, B, c, rfl, rfl, hN, hyo⟩ := txn_cells (x := (d1, p1)) (c0 := c0) (c1 := c1) hf1 hb1
  unfold maxLen at hlm
  refine (turned_any a0 len0 cap0 l y B c m W hl (by omega) hL hok hN hyo hm).mono fun e W' ⟨he, hb⟩ => ?_
  subst he
  refine ⟨_, rfl, _, _, _, [], p0 ++ p1, [], hW', trodAll_mk1 (shut_bool Tryd.underlying4 true), ?_, rfl, hb.frame _, fun h => by cases h⟩
  exact trodAll_mk2 (Below.trod laidOut (by kernel_rfl) (of_decide_eq_true (by kernel_rfl)) h0k hb (fun x hx => hlt x (List.mem_append_left _ hx))) (Below.trod laidOut (by kernel_rfl) (of_decide_eq_true (by kernel_rfl)) h1k hb (fun x hx => hlt x (List.mem_append_right _ hx)))
theorem namesTurned_said : Rows.NamesTurnedUptoSaid :=
  OpenClaim.holds_of_cond 4 Tryd.f4 rfl rfl rfl rfl rfl rfl rfl ⟨rfl, rfl, rfl, rfl, rfl⟩ rfl rfl rfl rfl rfl (by kernel_rfl) Tryd.func4 (by kernel_rfl)
    (of_decide_eq_true (by kernel_rfl)) (by unfold Func.isWrapper; first | (rw [if_pos (by decide +kernel)]; kernel_rfl) | (rw [if_neg (by decide +kernel)]; exact ⟨rfl, rfl⟩))
    (fun os started H enc _ F => by rw [OpenClaim.pre_eq_preRow]; exact turned_lifted os started H enc F)
theorem namesTurned_plain (f : FuncId) (fn : Func) (hf : Tryd.pinned.checked.prog.funcNamed "stemma/stemmalaw16.NamesTurned" = some f) (hfn : Tryd.pinned.checked.prog.funcs[f]? = some fn) :
    false = Tryd.pinned.checked.prog.looks [] ∧ ∀ (j : Nat) t, fn.params[j]? = some t → Tryd.pinned.checked.prog.wantsStandIn t = false := by
  obtain rfl : f = 4 := Option.some.inj ((show Tryd.prog.funcNamed "stemma/stemmalaw16.NamesTurned" = some 4 by kernel_rfl).symm.trans hf) |>.symm
  obtain rfl : fn = Tryd.f4 := (Option.some.inj (Tryd.func4.symm.trans hfn)).symm
  refine ⟨by kernel_rfl, fun j t ht => ?_⟩
  rw [Tryd.params4] at ht
  have hm : t ∈ [24, 27] := by simpa using Array.mem_of_getElem? ht
  have hall : ([24, 27].all fun u => !Tryd.prog.wantsStandIn u) = true := by kernel_rfl
  exact (show Tryd.prog.wantsStandIn t = false by simpa using List.all_eq_true.1 hall t hm)
theorem namesTurned_card : Rows.NamesTurnedUptoCardSaid :=
  Claim7.holds_tied_plain_at .later [] _ _ _ _ namesTurned_said (fun _ h => by cases h) (by kernel_rfl) (fun _ h => by cases h) namesTurnedUpto_row_tie rfl ⟨rfl, rfl⟩ (by kernel_rfl) rfl namesTurned_plain (by kernel_rfl)
#print axioms namesTurned_card
end Go.Proofs.YtlkfnhcnfjdgbaaDoor
