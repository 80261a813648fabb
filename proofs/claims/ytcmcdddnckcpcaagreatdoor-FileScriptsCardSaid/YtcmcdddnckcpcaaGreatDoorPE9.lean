/- FileScripts: the row and its tied card. -/
import Derived.Test.YtcmcdddnckcpcaaGreatDoorPE1
import Derived.Test.YtcmcdddnckcpcaaGreatDoorPE8
import Derived.SliceStrings
import Derived.Test.YtcmcdddnckcpcaaGreatDoorCards
import Derived.Test.YtcmcdddnckcpcaaGreatDoorTie
namespace Go.Proofs.YtcmcdddnckcpcaaGreatDoor
open Go.ChangeShapes Go.WideShapes Go.ChangeAt Go.RowKit
theorem ints_arg {H : Type} {enc : TypeId × Value → H} {W : World} {a : Option Addr} {len cap fuel : Nat} {sp : Nat → Bool} {held : Bool} {x : DataW H × List MemPlace} (h : DataW.trod enc Tryz.prog W 0 sp held fuel 58 (Value.slice a len cap).cells.toList = some x) :
  ∃ l : List Int,l.length = len ∧ len ≤ maxLen ∧ Lies W a (icells l) := by
 rcases open_ints Tryz.underlying58 Tryz.underlying3 cells3 h with ⟨hcs,_⟩ | ⟨b,len',cap',zs,hcs,_,hl,hm,hz,_,hcell,_⟩
 ·simp [Value.cells] at hcs
  obtain ⟨rfl,rfl,rfl⟩ := hcs
  exact ⟨[],rfl,Nat.zero_le _,fun h => absurd h (by simp [icells])⟩
 ·simp [Value.cells] at hcs
  obtain ⟨rfl,rfl,rfl⟩ := hcs
  have hle : len ≤ zs.length := by rw [hz];split <;> omega
  refine ⟨zs.take len,by rw [List.length_take];omega,by omega,fun hp => ?_⟩
  have h0 : 0 < zs.length := by
   rw [icells,List.length_map,List.length_take] at hp;omega
  obtain ⟨bb,off,rfl,hbb⟩ := addr_block (hcell 0 h0) rfl
  refine ⟨bb,off,rfl,hbb,fun j u hu => ?_⟩
  rw [icells,List.getElem?_map] at hu
  obtain ⟨z,hz2,rfl⟩ := Option.map_eq_some_iff.1 hu
  obtain ⟨hj,hz3⟩ := List.getElem?_eq_some_iff.1 hz2
  rw [List.length_take] at hj
  have := hcell j (by omega)
  rw [add_lit'] at this
  rw [this, ← hz3,List.getElem_take]
  simp only [List.getD_eq_getElem?_getD,List.getElem?_eq_getElem (show j < zs.length by omega),Option.getD_some]
theorem txs_arg {H : Type} {enc : TypeId × Value → H} {W : World} {a : Option Addr} {len cap fuel : Nat} {sp : Nat → Bool} {held : Bool} {x : DataW H × List MemPlace} (h : DataW.trod enc Tryz.prog W 0 sp held fuel 42 (Value.slice a len cap).cells.toList = some x) :
  ∃ l : List Bs,l.length = len ∧ len ≤ maxLen ∧ Lies W a (txc l) ∧ ∀ t ∈ l,t.length ≤ maxLen := by
 rcases open_strings Tryz.underlying42 Tryz.underlying9 cells9 h with ⟨hcs,_⟩ | ⟨b,len',cap',ss,hcs,_,hl,hm,hz,_,hcell,hsz⟩
 ·simp [Value.cells] at hcs
  obtain ⟨rfl,rfl,rfl⟩ := hcs
  exact ⟨[],rfl,Nat.zero_le _,fun h => absurd h (by simp [txc]),fun t ht => by cases ht⟩
 ·simp [Value.cells] at hcs
  obtain ⟨rfl,rfl,rfl⟩ := hcs
  have hle : len ≤ ss.length := by rw [hz];split <;> omega
  refine ⟨(ss.take len).map (·.data.toList),by rw [List.length_map,List.length_take];omega,by omega,fun hp => ?_,fun t ht => ?_⟩
  ·have h0 : 0 < ss.length := by
    rw [txc,List.length_map,List.length_map,List.length_take] at hp;omega
   obtain ⟨bb,off,rfl,hbb⟩ := addr_block (hcell 0 h0) rfl
   refine ⟨bb,off,rfl,hbb,fun j u hu => ?_⟩
   rw [txc,List.getElem?_map,List.getElem?_map] at hu
   obtain ⟨t,ht2,rfl⟩ := Option.map_eq_some_iff.1 hu
   obtain ⟨s,hs,rfl⟩ := Option.map_eq_some_iff.1 ht2
   obtain ⟨hj,hs3⟩ := List.getElem?_eq_some_iff.1 hs
   rw [List.length_take] at hj
   have := hcell j (by omega)
   rw [add_lit'] at this
   rw [this,mk_list, ← hs3,List.getElem_take]
   simp only [List.getD_eq_getElem?_getD,List.getElem?_eq_getElem (show j < ss.length by omega),Option.getD_some]
  ·obtain ⟨s,hs,rfl⟩ := List.mem_map.1 ht
   have h1 := hsz s (List.mem_of_mem_take hs)
   have z1 : s.data.toList.length = s.size := by rw [Array.length_toList];rfl
   omega
open Go.ChangeShapes Go.WideShapes Go.ChangeAt Go.RowKit
open Go.ChangeMaps (open_string shut_string)
theorem fileScripts_reads (os : Os) {H : Type} (enc : TypeId × Value → H) : ∃ places,DataW.whole enc Tryz.prog ((laidW os).forCall (fun _ _ => 0) ⟨#[], #[.int .i64 0, .int .i64 0, .slice none 0 0],[]⟩).memory Tryz.f7.params.toList Rows.fileScriptsSpec.vars false #[Value.int .i64 0,Value.int .i64 0,Value.slice none 0 0].toList 8 = some ([.lit (.int .i64 0), .lit (.int .i64 0), .nil],[],places) :=
 ⟨[],by kernel_rfl⟩
set_option maxRecDepth 100000 in
theorem fileScripts_lifted (os : Os) (started : os.Started) (H : Type) (enc : TypeId × Value → H) (F : Stop.Interp) :
  ReturnsInHanded {} Tryz.checked os 7 .any ((OpenSpec.ofChange Rows.fileScriptsSpec).preRow enc Tryz.prog Tryz.f7 Rows.fileScriptsRow.domain false Rows.fileScriptsRow.laid) (((OpenSpec.ofChange Rows.fileScriptsSpec).at F).post enc Tryz.prog Tryz.f7 false true false false) := by
 obtain ⟨places,hx⟩ := fileScripts_reads os enc
 refine returnsInHanded_of_row (C := Tryz.checked) (s := OpenSpec.ofChange Rows.fileScriptsSpec) own started (by kernel_rfl) Tryz.func7
  (witness_row_at (enc := enc) (C := Tryz.checked) false (laidW os) #[.int .i64 0, .int .i64 0, .slice none 0 0] rfl (by kernel_rfl) (by kernel_rfl) (by kernel_rfl)
   (OpenSpec.preRow_of_cond 8 hx (by kernel_rfl) (fun k hk => by cases hk) (by kernel_rfl) (laid_met os _))) ?_
 intro W base args ds gs before hval0 hW _ _ hz hmet hsh _
 have hval : ∀ (j : Nat) t v,Tryz.f7.params[j]? = some t → args[j]? = some v → Value.okWide Tryz.prog W .any base t v := hval0
 have hW' := hW
 obtain ⟨p,q,hA0,hV,rfl,_,_⟩ := hW
 have hA : DataW.TrodAll enc Tryz.prog W 0 (fun _ => true) true Tryz.f7.params.toList args.toList ds p := hA0
 have hz' : (DataW.weightsEach Tryz.prog (Tryz.f7.params.toList ++ []) (ds ++ gs)).all (· ≤ reachBytes) = true := hz
 rw [Tryz.params7] at hA hval hz'
 obtain ⟨v0,v1,v2,d0,d1,d2,p0,p1,p2,rfl,rfl,rfl,h0,h1,h2⟩ := trodAll_three hA
 obtain ⟨rfl,rfl⟩ := trodVars_none hV
 obtain ⟨a2,l2,c2,rfl⟩ := okWide_slice Tryz.underlying24 (hval 2 24 v2 rfl rfl)
 have h0k := h0
 obtain ⟨fuel0,hf0⟩ := h0
 have h1k := h1
 obtain ⟨fuel1,hf1⟩ := h1
 have h2k := h2
 obtain ⟨fuel2,hf2⟩ := h2
 clear hA0 hval0 hz hz'
 simp only [List.append_nil] at hW'
 have hlt := hW'.lt
 obtain ⟨n0,rfl⟩ := okWide_int Tryz.underlying3 (hval 0 3 v0 rfl rfl)
 obtain ⟨n1,rfl⟩ := okWide_int Tryz.underlying3 (hval 1 3 v1 rfl rfl)
 obtain ⟨as0,rfl,AL0,AC0,AO0⟩ := acts_arg hf2
 refine (fileScripts_any n0 n1 a2 as0 c2 W AC0 AO0 AL0 (tb_of rfl hmet) (tb_pos (tb_of rfl hmet))).mono fun e W' ⟨he,hb⟩ => ?_
 subst he
 refine ⟨_,rfl,_,_,_,[],_,[],hW',trodAll_mk1 (shut_bool Tryz.underlying4 true),trodAll_mk3 (Below.trod laidOut (by kernel_rfl) (of_decide_eq_true (by kernel_rfl)) h0k hb (fun x hx => hlt x (by simp [hx]))) (Below.trod laidOut (by kernel_rfl) (of_decide_eq_true (by kernel_rfl)) h1k hb (fun x hx => hlt x (by simp [hx]))) (Below.trod laidOut (by kernel_rfl) (of_decide_eq_true (by kernel_rfl)) h2k hb (fun x hx => hlt x (by simp [hx]))),rfl,hb.frame _,fun h => by cases h⟩
theorem fileScripts_said : Rows.FileScriptsSaid :=
 OpenClaim.holds_of_cond 7 Tryz.f7 rfl rfl rfl rfl rfl rfl rfl ⟨rfl,rfl,rfl,rfl,rfl⟩ rfl rfl rfl rfl rfl (by kernel_rfl) Tryz.func7 (by kernel_rfl)
  (of_decide_eq_true (by kernel_rfl)) (by unfold Func.isWrapper;first | (rw [if_pos (by decide +kernel)];kernel_rfl) | (rw [if_neg (by decide +kernel)];exact ⟨rfl,rfl⟩))
  (fun os started H enc _ F => by rw [OpenClaim.pre_eq_preRow];exact fileScripts_lifted os started H enc F)
theorem fileScripts_plain (f : FuncId) (fn : Func) (hf : Tryz.pinned.checked.prog.funcNamed "stemma/stemmalaw07.FileScripts" = some f) (hfn : Tryz.pinned.checked.prog.funcs[f]? = some fn) :
  false = Tryz.pinned.checked.prog.looks [] ∧ ∀ (j : Nat) t,fn.params[j]? = some t → Tryz.pinned.checked.prog.wantsStandIn t = false := by
 obtain rfl : f = 7 := Option.some.inj ((show Tryz.prog.funcNamed "stemma/stemmalaw07.FileScripts" = some 7 by kernel_rfl).symm.trans hf) |>.symm
 obtain rfl : fn = Tryz.f7 := (Option.some.inj (Tryz.func7.symm.trans hfn)).symm
 refine ⟨by kernel_rfl,fun j t ht => ?_⟩
 rw [Tryz.params7] at ht
 have hm : t ∈ [3,3,24] := by simpa using Array.mem_of_getElem? ht
 have hall : ([3,3,24].all fun u => !Tryz.prog.wantsStandIn u) = true := by kernel_rfl
 exact (show Tryz.prog.wantsStandIn t = false by simpa using List.all_eq_true.1 hall t hm)
theorem fileScripts_card : Rows.FileScriptsCardSaid :=
 Claim7.holds_tied_plain_at .later [] _ _ _ _ fileScripts_said (fun _ h => by cases h) (by kernel_rfl) (fun _ h => by cases h) fileScripts_row_tie rfl ⟨rfl,rfl⟩ (by kernel_rfl) rfl fileScripts_plain (by kernel_rfl)
#print axioms fileScripts_card
end Go.Proofs.YtcmcdddnckcpcaaGreatDoor
