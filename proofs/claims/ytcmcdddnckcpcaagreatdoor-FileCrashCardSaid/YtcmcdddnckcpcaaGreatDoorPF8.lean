/- FileCrash: the row and its tied card. -/
import Derived.Test.YtcmcdddnckcpcaaGreatDoorPF1
import Derived.Test.YtcmcdddnckcpcaaGreatDoorPF7
import Derived.Test.YtcmcdddnckcpcaaGreatDoorPF6
import Derived.Laws.Cover1
import Derived.Test.YtcmcdddnckcpcaaGreatDoorPF4
import Derived.Deep.CutBlock
import Derived.Test.YtcmcdddnckcpcaaGreatDoorRows
import Derived.ProofKit
import Derived.LaidMore
import Derived.OpenShut
import Derived.ShutString
import Derived.Deep.DeepHandedRow
import Derived.Shelf.Vars
import Derived.MakeChecks
import Derived.Lib.LaidTab
import Derived.Deep.Slices
import Derived.SizedLaws
import Derived.SliceStrings
import Derived.Test.YtcmcdddnckcpcaaGreatDoorCards
import Derived.Test.YtcmcdddnckcpcaaGreatDoorTie
namespace Go.Proofs.YtcmcdddnckcpcaaGreatDoor
theorem full_full (b : Bs) : fullB (fullB b) = fullB b := by
 have h : 512 - (fullB b).length = 0 := by
  unfold fullB;rw [List.length_append,List.length_replicate];omega
 rw [fullB,h];simp
theorem overlay_app (A B : List (Nat × Bs)) (L : List Bs) : overlay L (A ++ B) = overlay (overlay L A) B := by unfold overlay;rw [List.foldl_append]
theorem fulls_app (A B : List (Nat × Bs)) : fulls (A ++ B) = fulls A ++ fulls B := by unfold fulls;rw [List.map_append]
theorem sec_last (v : List Bs) (A B : List (Nat × Bs)) (c : Nat × Bs) (h : c.1 < v.length) (hB : c.1 ∉ B.map (·.1)) : secAt (overlay v (fulls (A ++ c :: B))) c.1 = fullB c.2 := by
 rw [fulls_app,overlay_app]
 show secAt (overlay ((overlay v (fulls A)).set c.1 (fullB c.2)) (fulls B)) c.1 = _
 rw [secAt_ne B _ _ hB,secAt_set _ _ _ (by rw [overlay_length];exact h)]
theorem wrOf_settle (most : Nat) (T : List Bool) (C : List (Nat × Bs)) : wrOf (settleC most T C) = imgs (settleX T C) (2 + most) ++ ((2 + most,headW (settleX T C)) :: (settleX T C ++ [(2 + most,[])])) := by
 unfold settleC commitC
 simp only [wrOf_append,wrOf_wrs]
 simp [wrOf]
theorem settle_secs {most : Nat} {T : List Bool} {C : List (Nat × Bs)} {d : DS} (h1 : d.cut = none) (h2 : d.off = false) (hC : ∀ c ∈ C,c.1 < most) (hn : (C.map (·.1)).Nodup) (hl : 2 + most < d.L.length) :
  secAt (DS.run (settleC most T C) d).2.vis 0 = secAt d.vis 0 ∧ secAt (DS.run (settleC most T C) d).2.vis 1 = fullB (packB T) ∧
  (∀ c ∈ C,secAt (DS.run (settleC most T C) d).2.vis (2 + c.1) = fullB c.2) ∧ (∀ e,e < most → e ∉ C.map (·.1) → secAt (DS.run (settleC most T C) d).2.vis (2 + e) = secAt d.vis (2 + e)) ∧
  secAt (DS.run (settleC most T C) d).2.vis (2 + most) = zeroS := by
 obtain ⟨_,_,_,hv⟩ := run_on (settleC most T C) d h1 h2
 have hvl : d.vis.length = d.L.length := overlay_length _ _
 have hm : ∀ i,i ∉ (wrOf (settleC most T C)).map (·.1) ↔ (i ∉ (imgs (settleX T C) (2 + most)).map (·.1) ∧ i ≠ 2 + most ∧ i ≠ 1 ∧ ∀ c ∈ C,i ≠ 2 + c.1) := fun i => by
  rw [wrOf_settle]
  unfold settleX
  simp only [List.map_append,List.map_cons,List.map_nil,List.mem_append,List.mem_cons,List.not_mem_nil,or_false,not_or,List.map_map,List.mem_map,Function.comp]
  constructor
  ·rintro ⟨a,b,⟨c,d⟩,e⟩
   exact ⟨a,b,c,fun c hc he => d ⟨c,hc,he.symm⟩⟩
  ·rintro ⟨a,b,c,d⟩
   exact ⟨a,b,⟨c,fun ⟨x,hx,he⟩ => d x hx he.symm⟩,b⟩
 have him : ∀ i,i ≤ 2 + most → i ∉ (imgs (settleX T C) (2 + most)).map (·.1) := fun i hi hx => by
  obtain ⟨c,hc,rfl⟩ := List.mem_map.1 hx
  obtain ⟨k,hk,rfl⟩ := List.getElem_of_mem hc
  rw [imgs_length] at hk
  rw [imgs_at _ _ k hk] at hi
  simp only at hi
  omega
 have hout : ∀ i,i ≤ 2 + most → i ≠ 2 + most → i ≠ 1 → (∀ c ∈ C,i ≠ 2 + c.1) → secAt (DS.run (settleC most T C) d).2.vis i = secAt d.vis i := fun i a b c e => by
  rw [hv];exact secAt_ne _ _ _ ((hm i).2 ⟨him i a,b,c,e⟩)
 refine ⟨hout 0 (by omega) (by omega) (by omega) (fun c _ => by omega), ?_,fun c hc => ?_,fun e he hx => ?_, ?_⟩
 ·rw [hv,wrOf_settle]
  unfold settleX
  have := sec_last d.vis (imgs ((1,packB T) :: C.map fun c => (2 + c.1,c.2)) (2 + most) ++ [(2 + most,headW ((1,packB T) :: C.map fun c => (2 + c.1,c.2)))]) ((C.map fun c => (2 + c.1,c.2)) ++ [(2 + most,[])]) (1,packB T) (by rw [hvl];show 1 < _;omega) (by
   simp only [List.map_append,List.map_cons,List.map_nil,List.mem_append,List.mem_cons,List.not_mem_nil,or_false,List.map_map,List.mem_map,Function.comp]
   rintro (⟨x,hx,he⟩ | he)
   ·omega
   ·omega)
  simpa using this
 ·rw [hv,wrOf_settle]
  obtain ⟨C1,C2,rfl⟩ := List.append_of_mem hc
  rw [List.map_append,List.map_cons,List.nodup_append,List.nodup_cons] at hn
  have := sec_last d.vis (imgs (settleX T (C1 ++ c :: C2)) (2 + most) ++ ((2 + most,headW (settleX T (C1 ++ c :: C2))) :: (1,packB T) :: (C1.map fun c => (2 + c.1,c.2)))) ((C2.map fun c => (2 + c.1,c.2)) ++ [(2 + most,[])]) (2 + c.1,c.2) (by rw [hvl];have := hC c hc;show 2 + c.1 < _;omega) (by
   simp only [List.map_append,List.map_cons,List.map_nil,List.mem_append,List.mem_cons,List.not_mem_nil,or_false,List.map_map,List.mem_map,Function.comp]
   rintro (⟨x,hx,he⟩ | he)
   ·exact hn.2.1.1 (List.mem_map.2 ⟨x,hx,by omega⟩)
   ·have := hC c hc;omega)
  refine Eq.trans ?_ this
  congr 3
  simp [settleX]
 ·exact hout (2 + e) (by omega) (by omega) (by omega) (fun c hc h => hx (List.mem_map.2 ⟨c,hc,by omega⟩))
 ·rw [hv,wrOf_settle]
  have := sec_last d.vis (imgs (settleX T C) (2 + most) ++ ((2 + most,headW (settleX T C)) :: settleX T C)) [] (2 + most,[]) (by rw [hvl];exact hl) (by simp)
  rw [show zeroS = fullB ([] : Bs) by rfl]
  refine Eq.trans ?_ this
  congr 3
  simp
theorem turn1_take : ∀ (m : Nat) (T : List Bool) (i : Nat),i + m ≤ T.length → (∀ j,i ≤ j → j < i + m → T.getD j false = false) →
  ∃ T',turn1 true T i m = some T' ∧ T'.length = T.length ∧ ∀ j,T'.getD j false = (T.getD j false || decide (i ≤ j ∧ j < i + m)) := by
 intro m
 induction m with
 | zero => intro T i _ _;exact ⟨T,rfl,rfl,fun j => by simp;intro _;omega⟩
 | succ m ih =>
  intro T i hl hf
  have h0 := hf i (Nat.le_refl _) (by omega)
  have hil : i < T.length := by omega
  obtain ⟨T',h1,h2,h3⟩ := ih (T.set i true) (i + 1) (by rw [List.length_set];omega) (fun j hj hj2 => by
   rw [set_getD _ _ _ _ hil,if_neg (by omega)];exact hf j (by omega) (by omega))
  refine ⟨T', ?_,by rw [h2,List.length_set],fun j => ?_⟩
  ·rw [turn1,h0,if_neg (by simp)]
   exact h1
  ·rw [h3,set_getD _ _ _ _ hil]
   by_cases e : i = j
   ·subst e;simp
   ·rw [if_neg e]
    congr 1
    exact decide_eq_decide.2 (by constructor <;> intro h <;> omega)
theorem turnS_take : ∀ (l : List (Nat × Nat)) (T : List Bool),(∀ x ∈ l,1 ≤ x.2 ∧ x.1 + x.2 ≤ T.length) → (unitsL l).Nodup → (∀ j ∈ unitsL l,T.getD j false = false) →
  ∃ T',turnS true T l = some T' ∧ T'.length = T.length ∧ ∀ j,T'.getD j false = (T.getD j false || decide (j ∈ unitsL l)) := by
 intro l
 induction l with
 | nil => intro T _ _ _;exact ⟨T,rfl,rfl,fun j => by simp [unitsL]⟩
 | cons x l ih =>
  intro T hb hn ht
  obtain ⟨a1,a2⟩ := hb x (List.mem_cons_self ..)
  rw [unitsL_cons,List.nodup_append] at hn
  obtain ⟨_,n2,n3⟩ := hn
  obtain ⟨T1,b1,b2,b3⟩ := turn1_take x.2 T x.1 a2 (fun j h1 h2 => ht j (by rw [unitsL_cons];exact List.mem_append_left _ (by rw [List.mem_range'_1];exact ⟨h1,h2⟩)))
  obtain ⟨T',c1,c2,c3⟩ := ih T1 (fun y hy => by rw [b2];exact hb y (List.mem_cons_of_mem _ hy)) n2 (fun j hj => by
   rw [b3,ht j (by rw [unitsL_cons];exact List.mem_append_right _ hj),Bool.false_or,decide_eq_false_iff_not]
   intro h
   exact n3 j (by rw [List.mem_range'_1];exact h) j hj rfl)
  refine ⟨T', ?_,by rw [c2,b2],fun j => ?_⟩
  ·rw [turnS,if_neg (by omega),b1];exact c1
  ·rw [c3,b3,unitsL_cons,Bool.or_assoc]
   congr 1
   rw [← Bool.decide_or]
   exact decide_eq_decide.2 (by rw [List.mem_append,List.mem_range'_1])
def goC : List Cmd → List Bs → List (Nat × Bs) → List Bs × List (Nat × Bs)
 | [],L,S => (L,S)
 | .wr i b :: l,L,S => goC l L (S ++ [(i,fullB b)])
 | .sy :: l,L,S => goC l (overlay L S) []
theorem run_go : ∀ (l : List Cmd) (L : List Bs) (S : List (Nat × Bs)),DS.run l ⟨L,S,none,false⟩ = (0,⟨(goC l L S).1,(goC l L S).2,none,false⟩)
 | [],L,S => rfl
 | .wr i b :: l,L,S => by
  have h : (⟨L,S,none,false⟩ : DS).cmd (.wr i b) = (0,⟨L,S ++ [(i,fullB b)],none,false⟩) := rfl
  rw [DS.run,h,if_pos rfl]
  exact run_go l L _
 | .sy :: l,L,S => by
  have h : (⟨L,S,none,false⟩ : DS).cmd .sy = (0,⟨overlay L S,[],none,false⟩) := rfl
  rw [DS.run,h,if_pos rfl]
  exact run_go l _ _
theorem run_cut : ∀ (l : List Cmd) (L : List Bs) (S : List (Nat × Bs)) (c : Nat) (keep : List Int),1 ≤ c → DS.run l ⟨L,S,some (c,keep),false⟩ = if l.length < c then (0,⟨(goC l L S).1,(goC l L S).2,some (c - l.length,keep),false⟩)
  else (7,⟨overK (keptI keep) 0 (goC (l.take (c - 1)) L S).1 (goC (l.take (c - 1)) L S).2,[],none,true⟩)
 | [],L,S,c,keep,hc => by rw [if_pos (by rw [List.length_nil];omega)];rfl
 | x :: l,L,S,c,keep,hc => by
  by_cases h1 : c = 1
  ·subst h1
   rw [if_neg (by simp)]
   have h : (⟨L,S,some (1,keep),false⟩ : DS).cmd x = (7,⟨overK (keptI keep) 0 L S,[],none,true⟩) := by cases x <;> rfl
   rw [DS.run,h,if_neg (by simp)]
   rfl
  ·obtain ⟨c,rfl⟩ : ∃ k,c = k + 2 := ⟨c - 2,by omega⟩
   have e1 : (x :: l).take (c + 2 - 1) = x :: l.take (c + 1 - 1) := by rw [show c + 2 - 1 = (c + 1 - 1) + 1 by omega,List.take_succ_cons]
   have hs : (⟨L,S,some (c + 2,keep),false⟩ : DS).step = (0,⟨L,S,some (c + 1,keep),false⟩) := by
    unfold DS.step
    simp
   have e4 : ((x :: l).length < c + 2) = (l.length < c + 1) := by simp
   have e3 : c + 2 - (x :: l).length = c + 1 - l.length := by simp only [List.length_cons];omega
   rw [e1,e3]
   cases x with
   | wr i b =>
    have h : (⟨L,S,some (c + 2,keep),false⟩ : DS).cmd (.wr i b) = (0,⟨L,S ++ [(i,fullB b)],some (c + 1,keep),false⟩) := by
     show DS.write _ i b = _
     unfold DS.write
     rw [hs];rfl
    rw [DS.run,h,if_pos rfl,run_cut l _ _ (c + 1) keep (by omega)]
    simp only [goC,e4]
   | sy =>
    have h : (⟨L,S,some (c + 2,keep),false⟩ : DS).cmd .sy = (0,⟨overlay L S,[],some (c + 1,keep),false⟩) := by
     show DS.sync _ = _
     unfold DS.sync
     rw [hs];rfl
    rw [DS.run,h,if_pos rfl,run_cut l _ _ (c + 1) keep (by omega)]
    simp only [goC,e4]
def phC (Ws : List (List (Nat × Bs))) : List Cmd := Ws.flatMap fun W => wrs W ++ [.sy]
theorem phC_cons (W : List (Nat × Bs)) (Ws : List (List (Nat × Bs))) : phC (W :: Ws) = wrs W ++ (.sy :: phC Ws) := by simp [phC]
theorem go_wrs : ∀ (W : List (Nat × Bs)) (l : List Cmd) (L : List Bs) (S : List (Nat × Bs)),goC (wrs W ++ l) L S = goC l L (S ++ fulls W)
 | [],l,L,S => by simp [wrs,fulls]
 | x :: W,l,L,S => by
  have := go_wrs W l L (S ++ [(x.1,fullB x.2)])
  show goC (wrs W ++ l) L (S ++ [(x.1,fullB x.2)]) = _
  rw [this]
  simp [fulls]
theorem go_cons (W : List (Nat × Bs)) (Ws : List (List (Nat × Bs))) (L : List Bs) : goC (phC (W :: Ws)) L [] = goC (phC Ws) (overlay L (fulls W)) [] := by
 rw [phC_cons,go_wrs]
 rfl
theorem go_all : ∀ (Ws : List (List (Nat × Bs))) (L : List Bs),goC (phC Ws) L [] = (overlay L (fulls Ws.flatten),[])
 | [],L => by simp [phC,goC,fulls,overlay]
 | W :: Ws,L => by rw [go_cons,go_all Ws,List.flatten_cons,fulls_app,overlay_app]
def CutP (P : List Bs → Prop) (Ws : List (List (Nat × Bs))) (L : List Bs) : Prop := ∀ (n : Nat) (p : Nat → Bool),P (overK p 0 (goC ((phC Ws).take n) L []).1 (goC ((phC Ws).take n) L []).2)
theorem cut_nil {P : List Bs → Prop} {L : List Bs} (h : P L) : CutP P [] L := fun n p => by simpa [phC,goC,overK] using h
theorem cut_cons {P : List Bs → Prop} {W : List (Nat × Bs)} {Ws : List (List (Nat × Bs))} {L : List Bs} (h : ∀ Z,Z <+: W → ∀ p,P (overK p 0 L (fulls Z))) (h2 : CutP P Ws (overlay L (fulls W))) : CutP P (W :: Ws) L := by
 intro n p
 rw [phC_cons]
 by_cases hn : n ≤ W.length
 ·have e : (wrs W ++ (Cmd.sy :: phC Ws)).take n = wrs (W.take n) := by rw [List.take_append_of_le_length (by rw [wrs_length];exact hn)];simp [wrs,List.map_take]
  have := go_wrs (W.take n) [] L []
  rw [List.append_nil] at this
  rw [e,this]
  exact h _ (List.take_prefix _ _) p
 ·obtain ⟨k,rfl⟩ : ∃ k,n = W.length + (k + 1) := ⟨n - W.length - 1,by omega⟩
  have e : (wrs W ++ (Cmd.sy :: phC Ws)).take (W.length + (k + 1)) = wrs W ++ (Cmd.sy :: (phC Ws).take k) := by
   rw [← wrs_length W,List.take_length_add_append,List.take_succ_cons]
  rw [e,go_wrs]
  exact h2 k p
theorem cut_end {P : List Bs → Prop} {Ws : List (List (Nat × Bs))} {L : List Bs} (h : CutP P Ws L) : P (overlay L (fulls Ws.flatten)) := by
 have := h (phC Ws).length (fun _ => false)
 rw [List.take_length,go_all] at this
 exact this
theorem overK_ne (p : Nat → Bool) (j : Nat) : ∀ (S : List (Nat × Bs)) (k : Nat) (L : List Bs),j ∉ S.map (·.1) → secAt (overK p k L S) j = secAt L j
 | [],k,L,_ => rfl
 | x :: S,k,L,h => by
  rw [List.map_cons,List.mem_cons,not_or] at h
  rw [overK,overK_ne p j S (k + 1) _ h.2]
  split
  ·exact secAt_set_ne _ _ _ _ (fun e => h.1 e.symm)
  ·rfl
theorem overK_one (p : Nat → Bool) (j : Nat) : ∀ (S : List (Nat × Bs)) (k : Nat) (L : List Bs),secAt (overK p k L S) j = secAt L j ∨ ∃ b,(j,b) ∈ S ∧ secAt (overK p k L S) j = b
 | [],k,L => .inl rfl
 | x :: S,k,L => by
  rw [overK]
  rcases overK_one p j S (k + 1) (if p k then L.set x.1 x.2 else L) with h | ⟨b,hb,h⟩
  ·by_cases hp : p k = true
   ·rw [if_pos hp] at h ⊢
    by_cases hj : x.1 = j
    ·by_cases hl : x.1 < L.length
     ·rw [← hj,secAt_set _ _ _ hl] at h
      exact .inr ⟨x.2,by rw [← hj];exact List.mem_cons_self,by rw [← hj];exact h⟩
     ·rw [List.set_eq_of_length_le (by omega)] at h ⊢
      exact .inl h
    ·rw [secAt_set_ne _ _ _ _ hj] at h
     exact .inl h
   ·rw [if_neg hp] at h ⊢
    exact .inl h
  ·exact .inr ⟨b,List.mem_cons_of_mem _ hb,h⟩
theorem over_set (i : Nat) (b : Bs) : ∀ (Z : List (Nat × Bs)) (L : List Bs),i ∈ Z.map (·.1) → overlay (L.set i b) Z = overlay L Z
 | [],_,h => by simp at h
 | z :: Z,L,h => by
  rw [overlay_cons,overlay_cons]
  by_cases hz : z.1 = i
  ·rw [hz,List.set_set]
  ·have : i ∈ Z.map (·.1) := by
    rw [List.map_cons,List.mem_cons] at h
    exact h.resolve_left fun e => hz e.symm
   rw [List.set_comm _ _ (fun e => hz e.symm),over_set i b Z _ this]
theorem overK_over (p : Nat → Bool) (Z : List (Nat × Bs)) : ∀ (S : List (Nat × Bs)) (k : Nat) (L : List Bs),(∀ x ∈ S,x.1 ∈ Z.map (·.1)) → overlay (overK p k L S) Z = overlay L Z
 | [],k,L,_ => rfl
 | x :: S,k,L,h => by
  rw [overK,overK_over p Z S (k + 1) _ fun y hy => h y (List.mem_cons_of_mem _ hy)]
  split
  ·exact over_set _ _ _ _ (h x List.mem_cons_self)
  ·rfl
theorem fulls_key (W : List (Nat × Bs)) : (fulls W).map (·.1) = W.map (·.1) := by simp [fulls,Function.comp_def]
theorem fulls_fulls (W : List (Nat × Bs)) : fulls (fulls W) = fulls W := by simp [fulls,full_full]
structure Od (m : StoM) : Prop where
 head : secAt m.ds.vis 0 = headB m.ds.L.length m.most
 map : secAt m.ds.vis 1 = fullB (packB m.T)
 ent : ∀ f ∈ m.F,secAt m.ds.vis (2 + f.entry) = entryB f.name f.size f.ext
 vac : ∀ e,e < m.most → (∀ f ∈ m.F,f.entry ≠ e) → secAt m.ds.vis (2 + e) = zeroS
 log : secAt m.ds.vis (2 + m.most) = zeroS
 some : 1 ≤ m.T.length
def byE (F : List FileM) (k : Nat) : List FileM := (List.range k).filterMap fun e => F.find? fun f => f.entry == e
theorem byE_succ (F : List FileM) (k : Nat) : byE F (k + 1) = byE F k ++ (F.find? fun f => f.entry == k).toList := by
 unfold byE
 rw [List.range_succ,List.filterMap_append]
 cases h : F.find? fun f => f.entry == k <;> simp [h]
theorem find_entry {F : List FileM} (h : (F.map (·.entry)).Nodup) {f : FileM} (hf : f ∈ F) : (F.find? fun g => g.entry == f.entry) = some f := by
 cases hq : F.find? fun g => g.entry == f.entry with
 | none =>
  have := List.find?_eq_none.1 hq f hf
  simp at this
 | some g =>
  have h1 := List.find?_some hq
  have h2 := List.mem_of_find?_eq_some hq
  rw [entry_inj h h2 hf (by simpa using h1)]
theorem mem_byE {F : List FileM} (h : (F.map (·.entry)).Nodup) {k : Nat} {f : FileM} : f ∈ byE F k ↔ f ∈ F ∧ f.entry < k := by
 unfold byE
 rw [List.mem_filterMap]
 constructor
 ·rintro ⟨e,he,hf⟩
  have h1 := List.find?_some hf
  have h2 := List.mem_of_find?_eq_some hf
  have e1 : f.entry = e := by simpa using h1
  exact ⟨h2,e1 ▸ List.mem_range.1 he⟩
 ·rintro ⟨h1,h2⟩
  exact ⟨f.entry,List.mem_range.2 h2,find_entry h h1⟩
theorem byE_nodup {F : List FileM} (h : (F.map (·.entry)).Nodup) : ∀ k,(byE F k).Nodup := by
 intro k
 induction k with
 | zero => simp [byE]
 | succ k ih =>
  rw [byE_succ,List.nodup_append]
  refine ⟨ih, ?_, ?_⟩
  ·cases F.find? fun f => f.entry == k <;> simp
  ·intro a ha b hb e
   subst e
   have h1 := (mem_byE h).1 ha
   rw [Option.mem_toList] at hb
   have h2 := List.find?_some hb
   have : a.entry = k := by simpa using h2
   omega
theorem parse_zero : parseP zeroS = none := by kernel_rfl
theorem flat_sub {F : List FileM} (h : (unitsF F).Nodup) {f : FileM} (hf : f ∈ F) : (unitsL f.ext).Nodup := by
 induction F with
 | nil => cases hf
 | cons a F ih =>
  rw [unitsF_cons,List.nodup_append] at h
  rcases List.mem_cons.1 hf with rfl | hf
  ·exact h.1
  ·exact ih h.2.1 hf
theorem flat_apart {F : List FileM} (h : (unitsF F).Nodup) {f g : FileM} (hf : f ∈ F) (hg : g ∈ F) {j : Nat} (h1 : j ∈ unitsL f.ext) (h2 : j ∈ unitsL g.ext) : f = g := by
 induction F with
 | nil => cases hf
 | cons a F ih =>
  rw [unitsF_cons,List.nodup_append] at h
  rcases List.mem_cons.1 hf with rfl | hf
  ·rcases List.mem_cons.1 hg with rfl | hg
   ·rfl
   ·exact absurd rfl (h.2.2 j h1 j (mem_unitsF.2 ⟨g,hg,h2⟩))
  ·rcases List.mem_cons.1 hg with e | hg
   ·rw [e] at h2;exact absurd rfl (h.2.2 j h2 j (mem_unitsF.2 ⟨f,hf,h1⟩))
   ·exact ih h.2.1 hf hg
theorem getD_replicate_false (n j : Nat) : (List.replicate n false).getD j false = false := by
 rw [List.getD_eq_getElem?_getD,List.getElem?_replicate];split <;> rfl
theorem fold_od {m : StoM} (h : Inv m) (ho : Od m) : ∀ k,k ≤ m.most → ∃ T',foldL m.ds.vis m.T.length k = some (byE m.F k,T') ∧ T'.length = m.T.length ∧ ∀ j,T'.getD j false = decide (j ∈ unitsF (byE m.F k)) := by
 intro k
 induction k with
 | zero => intro _;exact ⟨_,rfl,by simp,fun j => by rw [getD_replicate_false];simp [byE,unitsF]⟩
 | succ k ih =>
  intro hk
  obtain ⟨T1,h1,h2,h3⟩ := ih (by omega)
  rw [foldL,h1,Option.bind_some,stepL,byE_succ]
  cases hf : m.F.find? fun f => f.entry == k with
  | none =>
   have hz := ho.vac k (by omega) (fun f hm e => by
    have := List.find?_eq_none.1 hf f hm
    simp [e] at this)
   rw [if_pos hz]
   exact ⟨T1,by simp,h2,by simpa using h3⟩
  | some f =>
   have hm := List.mem_of_find?_eq_some hf
   have he : f.entry = k := by simpa using List.find?_some hf
   have hin := h.fin hm
   have hs := ho.ent f hm
   rw [he] at hs
   have hp := parse_entry f.name f.size f.ext hin.good hin.siz hin.exl hin.sum (fun x hx => by
    have := hin.exb x hx
    have := h.b.tl
    exact ⟨by omega,by omega⟩)
   rw [hs,if_neg (fun e => by rw [e,parse_zero] at hp;cases hp),hp]
   have hno : fileOf (byE m.F k) f.name = none := fileOf_none.2 (fun g hg e => by
    obtain ⟨a,b⟩ := (mem_byE h.entries).1 hg
    have := name_inj h.names a hm e
    subst this;omega)
   dsimp only
   rw [hno]
   obtain ⟨T2,c1,c2,c3⟩ := turnS_take f.ext T1 (fun x hx => by rw [h2];exact hin.exb x hx) (flat_sub h.once hm) (fun j hj => by
    rw [h3,decide_eq_false_iff_not]
    intro hj2
    obtain ⟨g,hg,hjg⟩ := mem_unitsF.1 hj2
    obtain ⟨a,b⟩ := (mem_byE h.entries).1 hg
    have := flat_apart h.once hm a hj hjg
    subst this;omega)
   rw [c1]
   refine ⟨T2, ?_,c2.trans h2,fun j => ?_⟩
   ·obtain ⟨nm,en,sz,ex⟩ := f
    dsimp only at he
    subst he
    rfl
   ·rw [c3,h3, ← Bool.decide_or]
    refine decide_eq_decide.2 ?_
    rw [mem_unitsF,mem_unitsF]
    simp only [Option.toList_some,List.mem_append,List.mem_singleton]
    constructor
    ·rintro (⟨g,hg,hj⟩ | hj)
     ·exact ⟨g, .inl hg,hj⟩
     ·exact ⟨f, .inr rfl,hj⟩
    ·rintro ⟨g,hg | rfl,hj⟩
     ·exact .inl ⟨g,hg,hj⟩
     ·exact .inr hj
theorem byE_perm {m : StoM} (h : Inv m) : (byE m.F m.most).Perm m.F := by
 have hn : m.F.Nodup := by
  have := h.names
  rw [List.Nodup,List.pairwise_map] at this
  exact this.imp (fun hne e => hne (by rw [e]))
 rw [List.perm_ext_iff_of_nodup (byE_nodup h.entries _) hn]
 intro f
 rw [mem_byE h.entries]
 exact ⟨fun a => a.1,fun a => ⟨a,h.b.ent f a⟩⟩
theorem spare_pack (T : List Bool) : spareB T.length (packB T) = true := by
  unfold spareB
  by_cases h8 : T.length % 8 = 0
  ·simp [h8]
  ·rw [decide_eq_false h8,Bool.false_or,decide_eq_true_eq]
   have hb : ∀ k,T.length % 8 ≤ k → k < 8 → byteN T (T.length / 8) / 2 ^ k % 2 = 0 := fun k h1 h2 => by
    rw [byteN_bit T _ k h2]
    unfold bitN
    rw [List.getD_eq_getElem?_getD,List.getElem?_eq_none (by omega)];rfl
   rw [List.getD_eq_getElem?_getD,packB_at T (T.length / 8) (by omega),Option.getD_some,UInt8.toNat_ofNat',Nat.mod_eq_of_lt (byteN_lt _ _)]
   have hl := byteN_lt T (T.length / 8)
   obtain ⟨r,hr⟩ : ∃ r,T.length % 8 = r := ⟨_,rfl⟩
   obtain ⟨B,hB⟩ : ∃ B,byteN T (T.length / 8) = B := ⟨_,rfl⟩
   rw [hr] at hb h8 ⊢
   rw [hB] at hb hl ⊢
   have hr8 : r < 8 := by omega
   have c1 := hb 1;have c2 := hb 2;have c3 := hb 3;have c4 := hb 4;have c5 := hb 5;have c6 := hb 6;have c7 := hb 7
   simp only [Nat.reducePow] at c1 c2 c3 c4 c5 c6 c7
   have hcase : r = 1 ∨ r = 2 ∨ r = 3 ∨ r = 4 ∨ r = 5 ∨ r = 6 ∨ r = 7 := by omega
   rcases hcase with rfl | rfl | rfl | rfl | rfl | rfl | rfl <;> simp only [Nat.reducePow] <;> omega
theorem bits_of (T : List Bool) : bitsB T.length (packB T) = T := bits_inj (bits_pack _ _ (packB_length T) (spare_pack T)) (bitsB_length _ _)
theorem full_take {b : Bs} {n : Nat} (h : b.length = n) (h2 : n ≤ 512) : (fullB b).take n = b := by
 unfold fullB
 subst h
 rw [List.take_append_of_le_length (Nat.le_refl _),List.take_length]
theorem said_none {v : List Bs} {f s : Nat} (h : secAt v f = zeroS) : saidB v f s = [] := by
 unfold saidB
 rw [if_neg]
 unfold saidOk
 rw [h]
 simp only [Bool.not_eq_true]
 rw [show (zeroS.take 2 == ([87,76] : Bs)) = false by decide]
 simp
theorem files_head {n f : Nat} (h1 : f ≤ 256) : filesH (headB n f) = f := by
 have e : ∀ a b c d : UInt8,filesH (fullB ([83,70] ++ [a,b] ++ [c,d])) = c.toNat * 256 + d.toNat := fun a b c d => rfl
 unfold headB twoB
 rw [e]
 rw [UInt8.toNat_ofNat',UInt8.toNat_ofNat']
 omega
theorem mount_od {m : StoM} (h : Inv m) (ho : Od m) : ∃ F',mountM m.ds = (0,m.ds,some (F',m.T)) ∧ F'.Perm m.F := by
 obtain ⟨T',a1,a2,a3⟩ := fold_od h ho m.most (Nat.le_refl _)
 have hT : T' = m.T := by
  refine List.ext_getElem a2 fun j h1 h2 => ?_
  have e1 := a3 j
  rw [List.getD_eq_getElem?_getD,List.getElem?_eq_getElem h1,Option.getD_some] at e1
  have e2 := h.taken j
  rw [List.getD_eq_getElem?_getD,List.getElem?_eq_getElem h2,Option.getD_some] at e2
  rw [e1,Bool.eq_iff_iff,e2,decide_eq_true_eq]
  exact (unitsF_perm (byE_perm h)).mem_iff
 subst hT
 refine ⟨byE m.F m.most, ?_,byE_perm h⟩
 have hll := h.b.ll
 have hfh : filesH (secAt m.ds.vis 0) = m.most := by rw [ho.head];exact files_head h.b.mo.2
 have hlr : logR m.ds m.most = (0,m.ds) := by
  unfold logR
  rw [said_none ho.log]
  rfl
 unfold mountM
 rw [hfh,hlr]
 have hok : headOk m.ds = true := by
  unfold headOk
  rw [hfh,ho.head]
  simp only [Bool.and_eq_true,decide_eq_true_eq,beq_self_eq_true,and_true]
  exact ⟨h.b.mo.1,h.b.mo.2,by have := ho.some;omega⟩
 rw [hok,if_neg (by simp),if_neg (by simp)]
 have hl : learnL m.ds.vis (m.ds.L.length - (m.most + 7)) m.most = some (byE m.F m.most,m.T) := by
  rw [show m.ds.L.length - (m.most + 7) = m.T.length by omega]
  unfold learnL
  have hmp : mapL m.ds.vis m.T.length = some m.T := by
   unfold mapL
   have ht : (secAt m.ds.vis 1).take ((m.T.length + 7) / 8) = packB m.T := by
    rw [ho.map];exact full_take (packB_length _) (by have := h.b.tl;omega)
   rw [ht,bits_of,if_pos ⟨spare_pack _,ho.map⟩]
  rw [hmp,Option.bind_some,a1,Option.bind_some,if_pos rfl]
 dsimp only
 rw [hl]
theorem od_step {m : StoM} (ho : Od m) (hb : StoB m) {d0 : DS} (h1 : d0.cut = none) (h2 : d0.off = false) (hlen : d0.L.length = m.ds.L.length) (hlow : ∀ i,i < m.most + 7 → secAt d0.vis i = secAt m.ds.vis i)
  {T2 : List Bool} {C : List (Nat × Bs)} {F' : List FileM} {o : Bool} (hC : ∀ c ∈ C,c.1 < m.most) (hn : (C.map (·.1)).Nodup) (hT : T2.length = m.T.length) (he : ∀ f ∈ F',f.entry < m.most)
  (hF : ∀ f ∈ F',(f.entry,entryB f.name f.size f.ext) ∈ C ∨ (f.entry ∉ C.map (·.1) ∧ ∃ g ∈ m.F,g.entry = f.entry ∧ entryB g.name g.size g.ext = entryB f.name f.size f.ext))
  (hV : ∀ e,e < m.most → (∀ f ∈ F',f.entry ≠ e) → (e,[]) ∈ C ∨ (e ∉ C.map (·.1) ∧ ∀ f ∈ m.F,f.entry ≠ e)) :
  Od ⟨(DS.run (settleC m.most T2 C) d0).2,F',T2,m.most,o⟩ := by
 have hll := hb.ll
 obtain ⟨s0,s1,s2,s3,s4⟩ := settle_secs (T := T2) h1 h2 hC hn (by rw [hlen];omega)
 refine ⟨?_,s1,fun f hf => ?_,fun e hel hx => ?_,s4,by show 1 ≤ T2.length;rw [hT];exact ho.some⟩
 ·show secAt _ 0 = headB _ m.most
  rw [s0,hlow 0 (by omega),ho.head,(run_len _ _).1,hlen]
 ·show secAt _ (2 + f.entry) = _
  rcases hF f hf with hc | ⟨hc,g,hg,hge,hgb⟩
  ·rw [s2 _ hc]
   unfold entryB
   rw [full_full]
  ·have := he f hf
   rw [s3 _ this hc,hlow _ (by omega), ← hge,ho.ent g hg,hgb]
 ·show secAt _ (2 + e) = _
  rcases hV e hel hx with hc | ⟨hc,hg⟩
  ·rw [s2 _ hc];rfl
  ·have : e < m.most := hel
   rw [s3 _ this hc,hlow _ (by omega),ho.vac e hel hg]
theorem mem_putF {F : List FileM} {f g : FileM} (h : g ∈ putF F f) : g = f ∨ (g ∈ F ∧ g.name ≠ f.name) := by
 unfold putF at h
 split at h
 ·obtain ⟨x,hx,rfl⟩ := List.mem_map.1 h
  by_cases e : x.name = f.name
  ·exact .inl (by simp [e])
  ·exact .inr (by simp [e,hx])
 ·rename_i hn
  rcases List.mem_append.1 h with hx | hx
  ·refine .inr ⟨hx,fun e => hn ?_⟩
   cases hq : fileOf F f.name with
   | none => exact absurd e (fileOf_none.1 hq g hx)
   | some _ => rfl
  ·exact .inl (by simpa using hx)
theorem put_mem2 {F : List FileM} {f g : FileM} (h : g = f ∨ (g ∈ F ∧ g.name ≠ f.name)) : g ∈ putF F f := by
 unfold putF
 split
 ·rename_i hs
  rcases h with rfl | ⟨h1,h2⟩
  ·cases hq : fileOf F g.name with
   | none => rw [hq] at hs;cases hs
   | some x =>
    exact List.mem_map.2 ⟨x,fileOf_mem hq,by rw [if_pos (by simpa using fileOf_name hq)]⟩
  ·exact List.mem_map.2 ⟨g,h1,by rw [if_neg (by simpa using h2)]⟩
 ·rcases h with rfl | ⟨h1,_⟩
  ·exact List.mem_append_right _ (List.mem_singleton.2 rfl)
  ·exact List.mem_append_left _ h1
theorem mem_delF {F : List FileM} {t : Bs} {g : FileM} : g ∈ delF F t ↔ g ∈ F ∧ g.name ≠ t := by
 unfold delF;rw [List.mem_filter];simp
theorem od_put {m : StoM} (ho : Od m) (hb : StoB m) (h1 : m.ds.cut = none) (h2 : m.ds.off = false) {T2 : List Bool} {f : FileM} {L : List Nat} {dt : Bs} {o : Bool} (hT : T2.length = m.T.length) (he : f.entry < m.most)
  (hL : ∀ i ∈ L,m.most + 7 ≤ i) (ha : ∀ g ∈ m.F,g.name = f.name → g.entry = f.entry) (hd : ∀ g ∈ m.F,g.name ≠ f.name → g.entry ≠ f.entry) : Od ⟨(DS.run (putC m.most T2 L dt f) m.ds).2,putF m.F f,T2,m.most,o⟩ := by
 unfold putC
 obtain ⟨r1,r2,r3,r4⟩ := run_on (layC L dt) m.ds h1 h2
 rw [run_append,if_pos r1]
 have hlay : ∀ i,i < m.most + 7 → i ∉ (wrOf (layC L dt)).map (·.1) := fun i hi hm => by
  rw [wrOf_lay,layR_sec] at hm
  have := hL i hm
  omega
 refine od_step ho hb r2 r3 (run_len _ _).1 (fun i hi => by rw [r4];exact secAt_ne _ _ _ (hlay i hi)) ?_ (by simp) hT ?_ ?_ ?_
 ·intro c hc
  obtain rfl := List.mem_singleton.1 hc
  exact he
 ·intro g hg
  rcases mem_putF hg with rfl | ⟨hg,_⟩
  ·exact he
  ·exact hb.ent g hg
 ·intro g hg
  rcases mem_putF hg with rfl | ⟨hg,hne⟩
  ·exact .inl (List.mem_singleton.2 rfl)
  ·exact .inr ⟨by simpa using hd g hg hne,g,hg,rfl,rfl⟩
 ·intro e _ hx
  refine .inr ⟨?_,fun g hg e2 => ?_⟩
  ·have := hx f (put_mem2 (.inl rfl))
   simp only [List.map_cons,List.map_nil,List.mem_singleton]
   exact fun e2 => this e2.symm
  ·by_cases hne : g.name = f.name
   ·exact hx f (put_mem2 (.inl rfl)) ((ha g hg hne).symm.trans e2)
   ·exact hx g (put_mem2 (.inr ⟨hg,hne⟩)) e2
theorem fin_on {m : StoM} {l : List Cmd} {F : List FileM} {T : List Bool} (h1 : m.ds.cut = none) (h2 : m.ds.off = false) : finW (DS.run l m.ds) F T m = (0,⟨(DS.run l m.ds).2,F,T,m.most,m.off⟩) := by
 unfold finW
 rw [if_pos (run_on l m.ds h1 h2).1]
theorem opW_od {m : StoM} (h : Inv m) (ho : Od m) (n d : Bs) : Od (opW m n d).2 := by
 unfold opW
 cases hq : (preW m n d).2 with
 | none => exact ho
 | some p =>
  obtain ⟨T2,f⟩ := p
  dsimp only
  rw [fin_on h.cut h.on]
  unfold preW at hq
  split at hq
  ·cases hq
  ·split at hq
   ·cases hq
   ·split at hq
    ·cases hq
    ·rename_i i hs
     split at hq
     ·cases hq
     ·rename_i l T1 htk
      split at hq
      ·cases hq
      ·rename_i T3 htn
       simp only [Option.some.injEq,Prod.mk.injEq] at hq
       obtain ⟨rfl,rfl⟩ := hq
       obtain ⟨_,_,_,t1,_⟩ := takeS_facts htk
       refine od_put ho h.b h.cut h.on ((turnS_len _ _ _ _ htn).trans t1) ?_ (fun i hi => secL_ge hi) ?_ ?_
       ·unfold slotW at hs
        cases hf : fileOf m.F n with
        | none => rw [hf] at hs;exact (vacN_some hs).1
        | some g => rw [hf] at hs;cases hs;exact h.b.ent g (fileOf_mem hf)
       ·intro g hg e
        unfold slotW at hs
        cases hf : fileOf m.F n with
        | none => exact absurd e (fileOf_none.1 hf g hg)
        | some g2 =>
         rw [hf] at hs
         cases hs
         rw [name_inj h.names hg (fileOf_mem hf) (Eq.trans e (fileOf_name hf).symm)]
       ·intro g hg e
        unfold slotW at hs
        cases hf : fileOf m.F n with
        | none => rw [hf] at hs;exact (vacN_some hs).2.1 g hg
        | some g2 =>
         rw [hf] at hs
         cases hs
         intro e2
         have := entry_inj h.entries hg (fileOf_mem hf) e2
         exact e (by rw [this];exact fileOf_name hf)
theorem opA_od {m : StoM} (h : Inv m) (ho : Od m) (n d : Bs) : Od (opA m n d).2 := by
 unfold opA
 cases hq : (preA m n d).2 with
 | none => exact ho
 | some p =>
  obtain ⟨T2,L,dt,f⟩ := p
  dsimp only
  rw [fin_on h.cut h.on]
  unfold preA at hq
  split at hq
  ·cases hq
  ·split at hq
   ·cases hq
   ·rename_i g hf
    split at hq
    ·cases hq
    ·split at hq
     ·cases hq
     ·split at hq
      ·cases hq
      ·rename_i l T1 htk
       simp only [Option.some.injEq,Prod.mk.injEq] at hq
       obtain ⟨rfl,rfl,rfl,rfl⟩ := hq
       obtain ⟨_,_,_,t1,_⟩ := takeS_facts htk
       refine od_put ho h.b h.cut h.on t1 (h.b.ent g (fileOf_mem hf)) (fun i hi => ?_) ?_ ?_
       ·rcases List.mem_append.1 hi with hi | hi
        ·unfold appL at hi
         split at hi
         ·cases hi
         ·rename_i hz
          obtain ⟨e1,e2,_⟩ := lastS_at (m := m) (h.sum g (fileOf_mem hf)) hz
          have e3 := List.getElem_mem e1
          rw [← e2] at e3
          obtain rfl := List.mem_singleton.1 hi
          exact secL_ge e3
        ·exact secL_ge hi
       ·intro x hx e
        rw [name_inj h.names hx (fileOf_mem hf) (Eq.trans e (fileOf_name hf).symm)]
       ·intro x hx e e2
        have := entry_inj h.entries hx (fileOf_mem hf) e2
        exact e (by rw [this];exact fileOf_name hf)
theorem opR_od {m : StoM} (h : Inv m) (ho : Od m) (n : Bs) : Od (opR m n).2 := by
 unfold opR
 cases hq : (preR m n).2 with
 | none => exact ho
 | some p =>
  obtain ⟨T2,f⟩ := p
  dsimp only
  rw [fin_on h.cut h.on]
  unfold preR at hq
  split at hq
  ·cases hq
  ·split at hq
   ·cases hq
   ·rename_i g hf
    split at hq
    ·cases hq
    ·rename_i T3 htn
     simp only [Option.some.injEq,Prod.mk.injEq] at hq
     obtain ⟨rfl,rfl⟩ := hq
     have hgm := fileOf_mem hf
     refine od_step ho h.b h.cut h.on rfl (fun _ _ => rfl) ?_ (by simp) (turnS_len _ _ _ _ htn) ?_ ?_ ?_
     ·intro c hc
      obtain rfl := List.mem_singleton.1 hc
      exact h.b.ent g hgm
     ·intro x hx
      exact h.b.ent x (mem_delF.1 hx).1
     ·intro x hx
      obtain ⟨a,b⟩ := mem_delF.1 hx
      refine .inr ⟨?_,x,a,rfl,rfl⟩
      simp only [List.map_cons,List.map_nil,List.mem_singleton]
      intro e
      exact b (by rw [entry_inj h.entries a hgm e])
     ·intro e _ hx
      by_cases hge : g.entry = e
      ·exact .inl (by rw [hge];exact List.mem_singleton.2 rfl)
      ·refine .inr ⟨by simpa using fun e2 => hge e2.symm,fun x hx2 e2 => ?_⟩
       by_cases hn : x.name = g.name
       ·rw [name_inj h.names hx2 hgm hn] at e2;exact hge e2
       ·exact hx x (mem_delF.2 ⟨hx2,hn⟩) e2
theorem two2_mem {i j : Nat} {t u : Bs} {c : Nat × Bs} : c ∈ two2 i t j u ↔ c = (i,t) ∨ c = (j,u) := by
 unfold two2
 split
 ·simp
 ·simp [or_comm]
theorem two2_key {i j e : Nat} {t u : Bs} : e ∈ (two2 i t j u).map (·.1) ↔ e = i ∨ e = j := by
 unfold two2
 split
 ·simp
 ·simp [or_comm]
theorem two2_nodup {i j : Nat} {t u : Bs} (h : i ≠ j) : ((two2 i t j u).map (·.1)).Nodup := by
 unfold two2
 split
 ·simpa using h
 ·simpa using fun e => h e.symm
theorem opN_od {m : StoM} (h : Inv m) (ho : Od m) (a b : Bs) : Od (opN m a b).2 := by
 unfold opN
 cases hq : (preN m a b).2 with
 | none => exact ho
 | some p =>
  obtain ⟨T2,C,F2⟩ := p
  dsimp only
  rw [fin_on h.cut h.on]
  unfold preN at hq
  split at hq
  ·cases hq
  ·split at hq
   ·cases hq
   ·rename_i f hf
    have hfm := fileOf_mem hf
    have hfn := fileOf_name hf
    split at hq
    ·cases hq
    ·rename_i hab
     have hold : ∀ x ∈ putF (delF m.F a) (renF f b),x = renF f b ∨ (x ∈ m.F ∧ x.name ≠ a ∧ x.name ≠ b) := fun x hx => by
      rcases mem_putF hx with rfl | ⟨hx,hn⟩
      ·exact .inl rfl
      ·obtain ⟨c,d⟩ := mem_delF.1 hx
       exact .inr ⟨c,d,hn⟩
     have hnew : renF f b ∈ putF (delF m.F a) (renF f b) := put_mem2 (.inl rfl)
     have hkeep : ∀ x ∈ m.F,x.name ≠ a → x.name ≠ b → x ∈ putF (delF m.F a) (renF f b) := fun x h1 h2 h3 => put_mem2 (.inr ⟨mem_delF.2 ⟨h1,h2⟩,h3⟩)
     have hent : ∀ x ∈ putF (delF m.F a) (renF f b),x.entry < m.most := fun x hx => by
      rcases hold x hx with rfl | ⟨hx,_⟩
      ·exact h.b.ent f hfm
      ·exact h.b.ent x hx
     split at hq
     ·rename_i hb
      simp only [Option.some.injEq,Prod.mk.injEq] at hq
      obtain ⟨rfl,rfl,rfl⟩ := hq
      refine od_step ho h.b h.cut h.on rfl (fun _ _ => rfl) ?_ (by simp) rfl hent ?_ ?_
      ·intro c hc
       obtain rfl := List.mem_singleton.1 hc
       exact h.b.ent f hfm
      ·intro x hx
       rcases hold x hx with rfl | ⟨hx,hn,_⟩
       ·exact .inl (List.mem_singleton.2 rfl)
       ·refine .inr ⟨?_,x,hx,rfl,rfl⟩
        simp only [List.map_cons,List.map_nil,List.mem_singleton]
        intro e
        exact hn (by rw [entry_inj h.entries hx hfm e];exact hfn)
      ·intro e _ hx
       refine .inr ⟨?_,fun x hx2 e2 => ?_⟩
       ·simp only [List.map_cons,List.map_nil,List.mem_singleton]
        exact fun e2 => hx _ hnew e2.symm
       ·by_cases hn : x.name = a
        ·rw [name_inj h.names hx2 hfm (hn.trans hfn.symm)] at e2
         exact hx _ hnew e2
        ·exact hx x (hkeep x hx2 hn (fileOf_none.1 hb x hx2)) e2
     ·rename_i g hg
      have hgm := fileOf_mem hg
      have hgn := fileOf_name hg
      have hfg : f.entry ≠ g.entry := fun e => hab (by rw [← hfn, ← hgn,entry_inj h.entries hfm hgm e])
      split at hq
      ·cases hq
      ·rename_i T3 htn
       simp only [Option.some.injEq,Prod.mk.injEq] at hq
       obtain ⟨rfl,rfl,rfl⟩ := hq
       refine od_step ho h.b h.cut h.on rfl (fun _ _ => rfl) ?_ (two2_nodup hfg) (turnS_len _ _ _ _ htn) hent ?_ ?_
       ·intro c hc
        rcases two2_mem.1 hc with rfl | rfl
        ·exact h.b.ent f hfm
        ·exact h.b.ent g hgm
       ·intro x hx
        rcases hold x hx with rfl | ⟨hx,hn,hn2⟩
        ·exact .inl (two2_mem.2 (.inl rfl))
        ·refine .inr ⟨fun e => ?_,x,hx,rfl,rfl⟩
         rcases two2_key.1 e with e | e
         ·exact hn (by rw [entry_inj h.entries hx hfm e];exact hfn)
         ·exact hn2 (by rw [entry_inj h.entries hx hgm e];exact hgn)
       ·intro e _ hx
        by_cases hge : g.entry = e
        ·exact .inl (two2_mem.2 (.inr (by rw [hge])))
        ·refine .inr ⟨fun e2 => ?_,fun x hx2 e2 => ?_⟩
         ·rcases two2_key.1 e2 with e2 | e2
          ·exact hx _ hnew e2.symm
          ·exact hge e2.symm
         ·by_cases hn : x.name = a
          ·rw [name_inj h.names hx2 hfm (hn.trans hfn.symm)] at e2
           exact hx _ hnew e2
          ·by_cases hn2 : x.name = b
           ·rw [name_inj h.names hx2 hgm (hn2.trans hgn.symm)] at e2
            exact hge e2
           ·exact hx x (hkeep x hx2 hn hn2) e2
theorem actO_od {m : StoM} (h : Inv m) (ho : Od m) (a : ActM) (i : Nat) : Od (actO m a i).2 := by
 unfold actO
 split
 ·exact opW_od h ho _ _
 ·split
  ·exact opA_od h ho _ _
  ·split
   ·exact opN_od h ho _ _
   ·split
    ·exact opR_od h ho _
    ·exact ho
theorem od_fresh (n f : Nat) (h1 : 1 ≤ f) (h3 : f + 8 ≤ n) (h4 : n ≤ 4000) : Od (freshM n f) := by
 have hlen : (freshL n f).length = n := by unfold freshL;rw [List.length_set,List.length_replicate]
 have hz : ∀ i,1 ≤ i → i < n → secAt (freshL n f) i = zeroS := fun i h1 h2 => by
  unfold freshL
  rw [secAt_set_ne _ _ _ _ (by omega)]
  unfold secAt
  rw [List.getElem?_replicate,if_pos h2];rfl
 refine ⟨?_, ?_,fun g hg => (by cases hg),fun e he _ => hz _ (by omega) (by have : e < f := he;omega),hz _ (by omega) (by show 2 + f < n;omega), ?_⟩
 ·show secAt (freshL n f) 0 = headB (freshL n f).length f
  rw [hlen]
  exact secAt_set _ _ _ (by rw [List.length_replicate];omega)
 ·show secAt (freshL n f) 1 = fullB (packB (List.replicate (n - f - 7) false))
  rw [hz 1 (by omega) (by omega),pack_zero _ (by omega)]
 ·show 1 ≤ (List.replicate (n - f - 7) false).length
  rw [List.length_replicate]
  omega
structure Rel (m : StoM) (F : List PF) (T : List Bool) : Prop where
 t : m.T = T
 perm : m.F.Perm (F.map toM)
 data : ∀ g ∈ F,readF m (toM g) = g.data
theorem inv_perm {m : StoM} {F' : List FileM} (h : Inv m) (hp : F'.Perm m.F) : Inv ⟨m.ds,F',m.T,m.most,false⟩ :=
 inv_mk m.F hp (fun _ hf => h.fin hf) h.names h.entries h.once h.taken h.b.mo h.b.tl h.b.ll h.cut h.on h.syn rfl
theorem sorted_unique : ∀ (a b : List Bs),a.Perm b → a.Pairwise (· ≤ ·) → b.Pairwise (· ≤ ·) → a = b := by
 intro a
 induction a with
 | nil => intro b h _ _;exact (List.nil_perm.1 h).symm
 | cons x a ih =>
  intro b h h1 h2
  cases b with
  | nil => exact absurd h.length_eq (by simp)
  | cons y b =>
   obtain ⟨p1,p2⟩ := List.pairwise_cons.1 h1
   obtain ⟨q1,q2⟩ := List.pairwise_cons.1 h2
   have hxy : x = y := by
    have m1 : x ∈ y :: b := h.mem_iff.1 (List.mem_cons_self ..)
    have m2 : y ∈ x :: a := h.mem_iff.2 (List.mem_cons_self ..)
    rcases List.mem_cons.1 m1 with e | m1
    ·exact e
    ·rcases List.mem_cons.1 m2 with e | m2
     ·exact e.symm
     ·exact List.le_antisymm (p1 y m2) (q1 x m1)
   subst hxy
   rw [ih b (List.Perm.cons_inv h) p2 q2]
open Go.RowKit Go.Maps
open Go.RowKit Go.Maps
theorem and_small (a : Int) (k : Nat) (hk : k ≤ 63) : ∃ n : Nat,n ≤ k ∧ bits .and .i64 a (k : Int) = (n : Int) := by
 refine ⟨(BitVec.ofInt 64 a &&& BitVec.ofInt 64 (k : Int)).toNat, ?_, ?_⟩
 ·rw [BitVec.toNat_and]
  refine Nat.le_trans Nat.and_le_right ?_
  rw [BitVec.toNat_ofInt]
  omega
 ·have h : (BitVec.ofInt 64 a &&& BitVec.ofInt 64 (k : Int)).toNat ≤ k := by
   rw [BitVec.toNat_and]
   refine Nat.le_trans Nat.and_le_right ?_
   rw [BitVec.toNat_ofInt]
   omega
  show IntKind.i64.wrap ((BitVec.ofInt 64 a &&& BitVec.ofInt 64 (k : Int)).toNat : Int) = _
  exact wrI (by omega) (by omega)
open Go.RowKit Go.Maps
theorem nw_sub {w w' : World} {Y Z : List Nat} (h : Nw w Y w') (hz : ∀ z ∈ Z,z ∈ Y) : Nw w Z w' := ⟨h.below,fun z hh => h.new z (hz z hh)⟩
def onL (m : StoM) (L : List Bs) : StoM := ⟨⟨L,[],none,false⟩,m.F,m.T,m.most,false⟩
structure Tells (m : StoM) (L : List Bs) : Prop where
 len : L.length = m.ds.L.length
 low : ∀ i,i < m.most + 3 → secAt L i = secAt m.ds.L i
 read : ∀ f ∈ m.F,(secsB L (secL (m.most + 7) f.ext)).take f.size = readF m f
theorem Inv.vis {m : StoM} (h : Inv m) : m.ds.vis = m.ds.L := by unfold DS.vis;rw [h.syn];rfl
theorem Inv.ds {m : StoM} (h : Inv m) : m.ds = ⟨m.ds.L,[],none,false⟩ := by
 have h1 := h.cut;have h2 := h.on;have h3 := h.syn
 revert h1 h2 h3
 cases m.ds
 rintro rfl rfl rfl
 rfl
theorem tells_self {m : StoM} (h : Inv m) : Tells m m.ds.L := ⟨rfl,fun _ _ => rfl,fun f _ => by unfold readF;rw [h.vis]⟩
theorem tells_inv {m : StoM} {L : List Bs} (h : Inv m) (t : Tells m L) : Inv (onL m L) :=
 inv_mk (m' := onL m L) m.F (List.Perm.refl _) (fun _ hf => h.fin hf) h.names h.entries h.once h.taken h.b.mo h.b.tl (h.b.ll.trans t.len.symm) rfl rfl rfl rfl
theorem tells_od {m : StoM} {L : List Bs} (h : Inv m) (ho : Od m) (t : Tells m L) : Od (onL m L) := by
 have hl : ∀ i,i < m.most + 3 → secAt L i = secAt m.ds.vis i := fun i hi => by rw [h.vis];exact t.low i hi
 have hm := h.b.mo
 refine ⟨?_, ?_,fun f hf => ?_,fun e he hx => ?_, ?_,ho.some⟩
 ·show secAt L 0 = headB L.length m.most
  rw [hl 0 (by omega),ho.head,t.len]
 ·show secAt L 1 = _
  rw [hl 1 (by omega)];exact ho.map
 ·show secAt L (2 + f.entry) = _
  rw [hl _ (by have := h.b.ent f hf;omega)];exact ho.ent f hf
 ·have he' : e < m.most := he
  show secAt L (2 + e) = _
  rw [hl _ (by omega)];exact ho.vac e he' hx
 ·show secAt L (2 + m.most) = _
  rw [hl _ (by omega)];exact ho.log
structure Same (a m : StoM) : Prop where
 most : a.most = m.most
 perm : a.F.Perm m.F
 read : ∀ f ∈ m.F,readF a f = readF m f
theorem mount_ct {L : List Bs} (ct : Option (Nat × List Int)) (h : saidB L (2 + filesH (secAt L 0)) 5 = []) : mountM ⟨L,[],ct,false⟩ = ((mountM ⟨L,[],none,false⟩).1,⟨L,[],ct,false⟩,(mountM ⟨L,[],none,false⟩).2.2) := by
 have e : ∀ c,logR ⟨L,[],c,false⟩ (filesH (secAt L 0)) = (0,⟨L,[],c,false⟩) := fun c => by
  unfold logR
  show DS.run (openC (saidB L _ 5) _) _ = _
  rw [h];rfl
 have ho : headOk ⟨L,[],ct,false⟩ = headOk ⟨L,[],none,false⟩ := rfl
 have hv : ∀ c,(⟨L,[],c,false⟩ : DS).vis = L := fun _ => rfl
 unfold mountM
 simp only [hv,e,ho]
 split
 ·rfl
 ·rw [if_neg (by simp),if_neg (by simp)]
  split <;> rfl
theorem tells_mount {m : StoM} {L : List Bs} (h : Inv m) (ho : Od m) (t : Tells m L) (ct : Option (Nat × List Int)) : ∃ F',mountM ⟨L,[],ct,false⟩ = (0,⟨L,[],ct,false⟩,some (F',m.T)) ∧ F'.Perm m.F ∧ filesH (secAt L 0) = m.most := by
 obtain ⟨F',h1,h2⟩ := mount_od (tells_inv h t) (tells_od h ho t)
 have hd := (tells_od h ho t).head
 have hf : filesH (secAt L 0) = m.most := by
  have : secAt L 0 = headB L.length m.most := hd
  rw [this];exact files_head h.b.mo.2
 refine ⟨F', ?_,h2,hf⟩
 have h3 : mountM ⟨L,[],none,false⟩ = (0,⟨L,[],none,false⟩,some (F',m.T)) := h1
 rw [mount_ct ct (by rw [hf];exact said_none (tells_od h ho t).log),h3]
theorem tells_same {m : StoM} {L : List Bs} {F' : List FileM} {T : List Bool} {o : Bool} {ct : Option (Nat × List Int)} {f : Bool} (t : Tells m L) (hp : F'.Perm m.F) : Same ⟨⟨L,[],ct,f⟩,F',T,m.most,o⟩ m := ⟨rfl,hp,fun g hg => t.read g hg⟩
theorem tells_out {m : StoM} {L : List Bs} {S : List (Nat × Bs)} (t : Tells m L) (hS : ∀ c ∈ S,m.most + 3 ≤ c.1 ∧ c.1 < m.most + 7) (p : Nat → Bool) : Tells m (overK p 0 L S) := by
 have hk : ∀ j,(j < m.most + 3 ∨ m.most + 7 ≤ j) → secAt (overK p 0 L S) j = secAt L j := fun j hj => overK_ne p j S 0 L fun hm => by
  obtain ⟨c,hc,rfl⟩ := List.mem_map.1 hm
  have := hS c hc
  omega
 refine ⟨by rw [overK_length,t.len],fun i hi => by rw [hk i (.inl hi),t.low i hi],fun f hf => ?_⟩
 rw [← t.read f hf,secsB_congr fun i hi => hk i (.inr (secL_ge hi))]
theorem overK_true : ∀ (S : List (Nat × Bs)) (k : Nat) (L : List Bs),overK (fun _ => true) k L S = overlay L S
 | [],_,_ => rfl
 | x :: S,k,L => by rw [overK,if_pos rfl,overK_true S,overlay_cons]
theorem said_own {v : List Bs} {f s : Nat} {c : Nat × Bs} (h : c ∈ saidB v f s) : c.1 < v.length ∧ ownB f s c.1 = false := by
 unfold saidB at h
 split at h
 ·rename_i hok
  unfold saidOk at hok
  simp only [Bool.and_eq_true,decide_eq_true_eq] at hok
  have h4 := List.all_eq_true.1 hok.1.2 c h
  unfold mayB at h4
  simp only [Bool.and_eq_true,decide_eq_true_eq,Bool.not_eq_true'] at h4
  exact h4
 ·cases h
theorem said_congr {v u : List Bs} {f s : Nat} (hl : v.length = u.length) (h : ∀ i,f ≤ i → i < f + s → secAt v i = secAt u i) (hs : 1 ≤ s) : saidB v f s = saidB u f s := by
 have h0 := h f (Nat.le_refl _) (by omega)
 by_cases hn : byteAt (secAt u f) 2 ≤ s - 1
 ·have hx : saidX v f (byteAt (secAt u f) 2) = saidX u f (byteAt (secAt u f) 2) := by
   unfold saidX
   refine List.map_congr_left fun i hi => ?_
   have := List.mem_range.1 hi
   rw [h0,h (f + 1 + i) (by omega) (by omega)]
  unfold saidB saidOk
  rw [h0,hx,hl]
 ·have e : ∀ w : List Bs,secAt w f = secAt u f → saidB w f s = [] := fun w hw => by
   unfold saidB
   rw [if_neg]
   unfold saidOk
   rw [hw,show decide (byteAt (secAt u f) 2 ≤ s - 1) = false by simpa using hn]
   simp
  rw [e v h0,e u rfl]
structure Said (most : Nat) (Lz L : List Bs) : Prop where
 some : saidB L (2 + most) 5 ≠ []
 done : overlay L (fulls (saidB L (2 + most) 5 ++ [(2 + most,[])])) = Lz
 pos : ∀ c ∈ saidB L (2 + most) 5,c.1 ≠ 0
 head : secAt L 0 = headB L.length most
 bd : 1 ≤ most ∧ most ≤ 256 ∧ most + 8 ≤ L.length
theorem said_part {most : Nat} {Lz L : List Bs} (h : Said most Lz L) {Z : List (Nat × Bs)} (hz : ∀ c ∈ Z,c.1 ∈ (saidB L (2 + most) 5).map (·.1)) (p : Nat → Bool) : saidB (overK p 0 L Z) (2 + most) 5 = saidB L (2 + most) 5 ∧ Said most Lz (overK p 0 L Z) := by
 have hk : ∀ c ∈ Z,c.1 ≠ 0 ∧ ownB (2 + most) 5 c.1 = false := fun c hc => by
  obtain ⟨d,hd,he⟩ := List.mem_map.1 (hz c hc)
  rw [← he]
  exact ⟨h.pos d hd,(said_own hd).2⟩
 have hs : saidB (overK p 0 L Z) (2 + most) 5 = saidB L (2 + most) 5 := said_congr (overK_length p Z 0 L) (fun i h1 h2 => overK_ne p i Z 0 L fun hm => by
  obtain ⟨c,hc,rfl⟩ := List.mem_map.1 hm
  have := (hk c hc).2
  unfold ownB at this
  simp only [decide_eq_false_iff_not] at this
  omega) (by omega)
 refine ⟨hs,by rw [hs];exact h.some, ?_,by rw [hs];exact h.pos, ?_,by rw [overK_length];exact h.bd⟩
 ·rw [hs,overK_over p _ Z 0 L fun x hx => ?_]
  ·exact h.done
  ·rw [fulls_key,List.map_append]
   exact List.mem_append_left _ (hz x hx)
 ·rw [overK_ne p 0 Z 0 L fun hm => ?_,overK_length]
  ·exact h.head
  ·obtain ⟨c,hc,he⟩ := List.mem_map.1 hm
   exact (hk c hc).1 he
theorem said_cut {most : Nat} {Lz L : List Bs} {x : List (Nat × Bs)} (h : Said most Lz L) (hx : fulls x = fulls (saidB L (2 + most) 5)) : CutP (fun L' => Said most Lz L' ∨ L' = Lz) [x,[(2 + most,[])]] L := by
 have hkey : x.map (·.1) = (saidB L (2 + most) 5).map (·.1) := by rw [← fulls_key x,hx,fulls_key]
 have hpre : ∀ Z,Z <+: x → ∀ c ∈ fulls Z,c.1 ∈ (saidB L (2 + most) 5).map (·.1) := fun Z hZ c hc => by
  rw [← hkey]
  have : c.1 ∈ (fulls Z).map (·.1) := List.mem_map_of_mem hc
  rw [fulls_key] at this
  obtain ⟨d,hd,he⟩ := List.mem_map.1 this
  exact he ▸ List.mem_map_of_mem (hZ.subset hd)
 have hd := h.done
 rw [fulls_app,overlay_app, ← hx] at hd
 have h1 := said_part h (hpre x (List.prefix_refl _)) (fun _ => true)
 rw [overK_true] at h1
 refine cut_cons (fun Z hZ p => .inl (said_part h (hpre Z hZ) p).2) (cut_cons (fun Z hZ p => ?_) (cut_nil (.inr hd)))
 have hc : Z = [] ∨ Z = [(2 + most,[])] := by
  obtain ⟨t,ht⟩ := hZ
  cases Z with
  | nil => exact .inl rfl
  | cons a Z =>
   rw [List.cons_append,List.cons.injEq] at ht
   have := List.append_eq_nil_iff.1 ht.2
   exact .inr (by rw [ht.1,this.1])
 rcases hc with rfl | rfl
 ·exact .inl h1.2
 ·show Said most Lz (overK p (0 + 1) (if p 0 then _ else _) []) ∨ overK p (0 + 1) (if p 0 then _ else _) [] = Lz
  split
  ·exact .inr hd
  ·exact .inl h1.2
theorem open_ph {x : List (Nat × Bs)} (h : x ≠ []) (f : Nat) : openC x f = phC [x,[(f,[])]] := by
 unfold openC
 rw [if_neg h]
 simp [phC,wrs]
theorem Said.files {most : Nat} {Lz L : List Bs} (h : Said most Lz L) : filesH (secAt L 0) = most := by rw [h.head];exact files_head h.bd.2.1
theorem Said.ok {most : Nat} {Lz L : List Bs} (h : Said most Lz L) (ct : Option (Nat × List Int)) : headOk ⟨L,[],ct,false⟩ = true := by
 have hv : (⟨L,[],ct,false⟩ : DS).vis = L := rfl
 unfold headOk
 rw [hv,h.files]
 simp only [Bool.and_eq_true,decide_eq_true_eq,beq_iff_eq]
 exact ⟨h.bd.1,h.bd.2.1,h.bd.2.2,h.head⟩
theorem mount_log {L : List Bs} {ct : Option (Nat × List Int)} (hok : headOk ⟨L,[],ct,false⟩ = true) : (mountM ⟨L,[],ct,false⟩).2.1 = (logR ⟨L,[],ct,false⟩ (filesH (secAt L 0))).2 := by
 have hv : (⟨L,[],ct,false⟩ : DS).vis = L := rfl
 unfold mountM
 rw [hok,hv,if_neg (by simp)]
 split
 ·rfl
 ·split <;> rfl
theorem said_again {most : Nat} {Lz L : List Bs} (h : Said most Lz L) (n : Nat) (hn : 1 ≤ n) (keep : List Int) : ∃ L' ct o,(mountM ⟨L,[],some (n,keep),false⟩).2.1 = ⟨L',[],ct,o⟩ ∧ (Said most Lz L' ∨ L' = Lz) := by
 have hc := said_cut h (x := saidB L (2 + most) 5) rfl
 have hv : (⟨L,[],some (n,keep),false⟩ : DS).vis = L := rfl
 rw [mount_log (h.ok _),h.files]
 unfold logR
 rw [hv,open_ph h.some,run_cut _ _ _ _ _ hn]
 split
 ·rw [go_all]
  exact ⟨_,_,_,rfl,cut_end hc⟩
 ·exact ⟨_,_,_,rfl,hc _ _⟩
theorem said_mount {most : Nat} {Lz L : List Bs} (h : Said most Lz L) : mountM ⟨L,[],none,false⟩ = mountM ⟨Lz,[],none,false⟩ := by
 have hv : ∀ L,(⟨L,[],none,false⟩ : DS).vis = L := fun _ => rfl
 have hlen : Lz.length = L.length := by rw [← h.done,overlay_length]
 have h0 : secAt Lz 0 = secAt L 0 := by
  rw [← h.done,secAt_ne]
  intro hm
  rw [List.map_append,List.mem_append] at hm
  rcases hm with hm | hm
  ·obtain ⟨c,hc,he⟩ := List.mem_map.1 hm
   exact h.pos c hc he
  ·simp at hm;omega
 have hz : secAt Lz (2 + most) = zeroS := by
  rw [← h.done,fulls_app,overlay_app]
  show secAt ((overlay L _).set (2 + most) (fullB [])) (2 + most) = _
  rw [secAt_set _ _ _ (by rw [overlay_length];have := h.bd;omega)]
  rfl
 have hok : headOk ⟨Lz,[],none,false⟩ = true := by
  have := h.ok none
  unfold headOk at this ⊢
  rw [hv] at this ⊢
  rw [h0,show (⟨Lz,[],none,false⟩ : DS).L.length = L.length from hlen]
  exact this
 have e1 : logR ⟨L,[],none,false⟩ most = (0,⟨Lz,[],none,false⟩) := by
  unfold logR
  rw [hv,open_ph h.some,run_go,go_all]
  have : (([saidB L (2 + most) 5,[(2 + most,[])]] : List (List (Nat × Bs))).flatten) = saidB L (2 + most) 5 ++ [(2 + most,[])] := by simp
  rw [this,h.done]
 have e2 : logR ⟨Lz,[],none,false⟩ most = (0,⟨Lz,[],none,false⟩) := by
  unfold logR
  rw [hv,said_none hz];rfl
 have hl : (⟨Lz,[],none,false⟩ : DS).L.length = (⟨L,[],none,false⟩ : DS).L.length := hlen
 unfold mountM
 rw [h.ok none,hok,hv,hv,h0,h.files,e1,e2,hl]
 have hn : ¬ (true = false) := by decide
 rw [if_neg hn,if_neg hn]
def Ends (a b : StoM) (L : List Bs) : Prop := Tells a L ∨ Said b.most b.ds.L L ∨ L = b.ds.L
theorem ends_again {a b : StoM} (ha : Inv a) (oa : Od a) (hb : Inv b) (ob : Od b) {L : List Bs} (h : Ends a b L) (n : Nat) (hn : 1 ≤ n) (keep : List Int) : ∃ L' ct o,(mountM ⟨L,[],some (n,keep),false⟩).2.1 = ⟨L',[],ct,o⟩ ∧ Ends a b L' := by
 rcases h with h | h | h
 ·obtain ⟨F',e,_⟩ := tells_mount ha oa h (some (n,keep))
  exact ⟨L,_,_,by rw [e], .inl h⟩
 ·obtain ⟨L',ct,o,h1,h2⟩ := said_again h n hn keep
  exact ⟨L',ct,o,h1, .inr h2⟩
 ·obtain ⟨F',e,_⟩ := tells_mount hb ob (tells_self hb) (some (n,keep))
  exact ⟨L,_,_,by rw [h,e], .inr (.inr h)⟩
theorem ends_mount {a b : StoM} (ha : Inv a) (oa : Od a) (hb : Inv b) (ob : Od b) (hm : a.most = b.most) {L : List Bs} (h : Ends a b L) : ∃ L' F' T',mountM ⟨L,[],none,false⟩ = (0,⟨L',[],none,false⟩,some (F',T')) ∧ Inv ⟨⟨L',[],none,false⟩,F',T',b.most,false⟩ ∧
  filesH (secAt L 0) = b.most ∧ (Same ⟨⟨L',[],none,false⟩,F',T',b.most,false⟩ a ∨ Same ⟨⟨L',[],none,false⟩,F',T',b.most,false⟩ b) := by
 rcases h with h | h | h
 ·obtain ⟨F',e,h2,h3⟩ := tells_mount ha oa h none
  refine ⟨L,F',a.T,e, ?_,h3.trans hm, .inl ?_⟩
  ·rw [← hm];exact inv_perm (tells_inv ha h) h2
  ·rw [← hm];exact tells_same h h2
 ·obtain ⟨F',e,h2,_⟩ := tells_mount hb ob (tells_self hb) none
  exact ⟨_,F',b.T,by rw [said_mount h,e],inv_perm (tells_inv hb (tells_self hb)) h2,h.files, .inr (tells_same (tells_self hb) h2)⟩
 ·obtain ⟨F',e,h2,h3⟩ := tells_mount hb ob (tells_self hb) none
  exact ⟨_,F',b.T,by rw [h,e],inv_perm (tells_inv hb (tells_self hb)) h2,by rw [h];exact h3, .inr (tells_same (tells_self hb) h2)⟩
def sightB (m : StoM) : Bs := (namesS m.F).flatMap fun n => n ++ [32] ++ readW m n ++ [10]
theorem names_perm {F G : List FileM} (h : F.Perm G) : namesS F = namesS G := by
 have hs : ∀ F,(namesS F).Pairwise (· ≤ ·) := fun F => by
  refine (List.pairwise_mergeSort (le := leB) (fun a b c h1 h2 => ?_) (fun a b => ?_) _).imp (fun h => ?_)
  ·simp only [leB,decide_eq_true_eq] at *;exact List.le_trans h1 h2
  ·simp only [leB,Bool.or_eq_true,decide_eq_true_eq];exact List.le_total a b
  ·simpa [leB] using h
 exact sorted_unique _ _ ((List.mergeSort_perm _ _).trans ((h.map _).trans (List.mergeSort_perm _ _).symm)) (hs F) (hs G)
theorem same_sight {a m : StoM} (hn : (m.F.map (·.name)).Nodup) (h : Same a m) : sightB a = sightB m := by
 have hr : ∀ n,readW a n = readW m n := fun n => by
  unfold readW
  rw [fileOf_perm h.perm ((h.perm.map _).nodup_iff.2 hn) n]
  split
  ·cases hf : fileOf m.F n with
   | none => rfl
   | some f => simp only [Option.map_some,Option.getD_some];exact h.read f (List.mem_of_find?_eq_some hf)
  ·rfl
 unfold sightB
 rw [names_perm h.perm]
 exact congrArg (fun g => List.flatMap g (namesS m.F)) (funext fun n => by rw [hr n])
theorem listB_at : ∀ (x : List (Nat × Bs)) (i : Nat) (h : i < x.length),(listB x)[2 * i]? = some (UInt8.ofNat (x[i].1 / 256)) ∧ (listB x)[2 * i + 1]? = some (UInt8.ofNat x[i].1)
 | c :: x,0,_ => by simp [listB,twoB]
 | c :: x,i + 1,h => by
  obtain ⟨a,b⟩ := listB_at x i (by simpa using h)
  have e : listB (c :: x) = UInt8.ofNat (c.1 / 256) :: UInt8.ofNat c.1 :: listB x := by simp [listB,twoB]
  rw [e,show 2 * (i + 1) = 2 * i + 1 + 1 by omega,List.getElem?_cons_succ,List.getElem?_cons_succ,List.getElem?_cons_succ,List.getElem?_cons_succ]
  exact ⟨a,b⟩
theorem head_form (x : List (Nat × Bs)) : fullB (headW x) = 87 :: 76 :: UInt8.ofNat x.length :: (listB x ++ (sumB (crcI (sayB x ++ imgB x)) ++ List.replicate (512 - (headW x).length) 0)) := by
 have h : ∀ n,headW x ++ List.replicate n 0 = 87 :: 76 :: UInt8.ofNat x.length :: (listB x ++ (sumB (crcI (sayB x ++ imgB x)) ++ List.replicate n 0)) := fun n => by
  unfold headW
  rw [show sayB x ++ sumB (crcI (sayB x ++ imgB x)) ++ List.replicate n 0 = sayB x ++ (sumB (crcI (sayB x ++ imgB x)) ++ List.replicate n 0) from List.append_assoc ..]
  generalize sumB (crcI (sayB x ++ imgB x)) ++ List.replicate n 0 = Q
  simp [sayB]
 exact h _
theorem head_fulls (x : List (Nat × Bs)) : headW (fulls x) = headW x := by
 have e1 : listB (fulls x) = listB x := by unfold listB fulls;rw [List.flatMap_map]
 have e2 : imgB (fulls x) = imgB x := by
  unfold imgB fulls;rw [List.flatMap_map]
  exact congrArg (fun g => List.flatMap g x) (funext fun c => full_full c.2)
 have e3 : sayB (fulls x) = sayB x := by unfold sayB;rw [e1];simp [fulls]
 unfold headW
 rw [e2,e3]
theorem said_back {v : List Bs} {x : List (Nat × Bs)} {f s : Nat} (hh : secAt v f = fullB (headW x)) (hi : ∀ k (h : k < x.length),secAt v (f + 1 + k) = fullB x[k].2) (h1 : 1 ≤ x.length) (h2 : x.length ≤ s - 1) (h3 : x.length ≤ 64) (hm : ∀ c ∈ x,mayB v.length f s c.1 = true) (hb : ∀ c ∈ x,c.1 < 65536) : saidB v f s = fulls x := by
 have hn : byteAt (secAt v f) 2 = x.length := by
  rw [hh,head_form]
  unfold byteAt
  simp only [List.getElem?_cons_succ,List.getElem?_cons_zero,Option.getD_some,UInt8.toNat_ofNat']
  omega
 have hx : saidX v f x.length = fulls x := by
  unfold saidX fulls
  refine List.ext_getElem (by simp) fun k k1 k2 => ?_
  have hk : k < x.length := by simpa using k1
  simp only [List.getElem_map,List.getElem_range]
  rw [hi k hk]
  have : numAt (secAt v f) (3 + 2 * k) = x[k].1 := by
   rw [hh,head_form]
   obtain ⟨a,b⟩ := listB_at x k hk
   generalize sumB (crcI (sayB x ++ imgB x)) ++ List.replicate (512 - (headW x).length) 0 = Q
   have e : ∀ j c,(listB x)[j]? = some c → byteAt (87 :: 76 :: UInt8.ofNat x.length :: (listB x ++ Q)) (3 + j) = c.toNat := fun j c hc => by
    unfold byteAt
    rw [show 3 + j = j + 1 + 1 + 1 by omega,List.getElem?_cons_succ,List.getElem?_cons_succ,List.getElem?_cons_succ,List.getElem?_append_left (List.getElem?_eq_some_iff.1 hc).1,hc,Option.getD_some]
   have hlt := hb x[k] (List.getElem_mem hk)
   unfold numAt
   rw [e _ _ a,show 3 + 2 * k + 1 = 3 + (2 * k + 1) by omega,e _ _ b]
   simp only [UInt8.toNat_ofNat']
   omega
  rw [this]
 unfold saidB
 rw [hn,hx,if_pos]
 unfold saidOk
 rw [hn,hx,head_fulls,hh]
 have ht : (fullB (headW x)).take 2 = [87,76] := by rw [head_form];rfl
 rw [ht]
 simp only [beq_self_eq_true,Bool.true_and,Bool.and_true,Bool.and_eq_true,decide_eq_true_eq,List.all_eq_true]
 refine ⟨⟨h1,h2⟩,fun c hc => ?_⟩
 obtain ⟨d,hd,rfl⟩ := List.mem_map.1 hc
 exact hm d hd
def atC (m : StoM) (ct : Option (Nat × List Int)) : StoM := ⟨⟨m.ds.L,[],ct,false⟩,m.F,m.T,m.most,false⟩
theorem Inv.at {m : StoM} (h : Inv m) : m = atC m none := by
 have h1 := h.ds;have h2 := h.up
 revert h1 h2
 cases m
 rintro h1 rfl
 unfold atC
 congr
structure Xok (m : StoM) (x : List (Nat × Bs)) : Prop where
 one : x ≠ []
 len : x.length ≤ 4
 key : ∀ c ∈ x,1 ≤ c.1 ∧ c.1 < 2 + m.most
def Safe (m : StoM) (W : List (List (Nat × Bs))) : Prop := W = [] ∨ ∃ X,W = [X] ∧ ∀ Z,Z <+: X → ∀ p,Tells m (overK p 0 m.ds.L (fulls Z))
def commitW (x : List (Nat × Bs)) (f : Nat) : List (List (Nat × Bs)) := [imgs x f,[(f,headW x)],x,[(f,[])]]
theorem commit_ph (x : List (Nat × Bs)) (f : Nat) : commitC x f = phC (commitW x f) := by simp [commitC,commitW,phC,wrs]
def layW (l : List Nat) (d : Bs) : List (List (Nat × Bs)) := if l = [] then [] else [layX l d]
theorem lay_ph (l : List Nat) (d : Bs) : layC l d = phC (layW l d) := by
 unfold layC layW
 split <;> simp [phC]
theorem phC_app (A B : List (List (Nat × Bs))) : phC A ++ phC B = phC (A ++ B) := by simp [phC]
theorem one_prefix {α : Type} {Z : List α} {a : α} (h : Z <+: [a]) : Z = [] ∨ Z = [a] := by
 obtain ⟨t,ht⟩ := h
 cases Z with
 | nil => exact .inl rfl
 | cons b Z =>
  rw [List.cons_append,List.cons.injEq] at ht
  have := List.append_eq_nil_iff.1 ht.2
  exact .inr (by rw [ht.1,this.1])
theorem imgs_key (x : List (Nat × Bs)) (f : Nat) : ∀ c ∈ imgs x f,f + 1 ≤ c.1 ∧ c.1 < f + 1 + x.length := fun c hc => by
 refine ⟨?_,imgs_low x f c hc⟩
 unfold imgs at hc
 obtain ⟨d,_,rfl⟩ := List.mem_map.1 hc
 dsimp only
 omega
theorem over_at : ∀ (W : List (Nat × Bs)) (v : List Bs) (k : Nat) (h : k < W.length),(W.map (·.1)).Nodup → W[k].1 < v.length → secAt (overlay v (fulls W)) W[k].1 = fullB W[k].2
 | c :: W,v,0,_,hn,hl => by
  rw [List.map_cons,List.nodup_cons] at hn
  show secAt (overlay (v.set c.1 (fullB c.2)) (fulls W)) c.1 = _
  have hl2 : c.1 < v.length := hl
  rw [secAt_ne _ _ _ hn.1,secAt_set _ _ _ hl2]
  rfl
 | c :: W,v,k + 1,h,hn,hl => by
  rw [List.map_cons,List.nodup_cons] at hn
  exact over_at W (v.set c.1 (fullB c.2)) k (by simpa using h) hn.2 (by rw [List.length_set];exact hl)
theorem imgs_nodup (x : List (Nat × Bs)) (f : Nat) : ((imgs x f).map (·.1)).Nodup := by
 have e : (imgs x f).map (·.1) = (List.range' 0 x.length).map (f + 1 + ·) := by
  unfold imgs
  rw [List.map_map]
  have : x.zipIdx.map (·.2) = List.range' 0 x.length := by simp [List.zipIdx_map_snd]
  rw [← this,List.map_map]
  rfl
 rw [e]
 refine List.Pairwise.map _ (fun a b h h2 => h ?_) (List.nodup_range' (n := x.length))
 omega
theorem commit_cut {m b : StoM} {x : List (Nat × Bs)} {L1 : List Bs} (h : Inv m) (ho : Od m) (t : Tells m L1) (hx : Xok m x) (hb : b.most = m.most) (hz : b.ds.L = overlay L1 (fulls (commitW x (2 + m.most)).flatten)) : CutP (Ends m b) (commitW x (2 + m.most)) L1 := by
 have hmo := h.b.mo
 have hll := h.b.ll
 have hsome := ho.some
 have hxl : 1 ≤ x.length := by
  have := hx.one
  cases x with
  | nil => exact absurd rfl this
  | cons _ _ => simp
 have himg : ∀ Z,Z <+: imgs x (2 + m.most) → ∀ c ∈ fulls Z,m.most + 3 ≤ c.1 ∧ c.1 < m.most + 7 := fun Z hZ c hc => by
  obtain ⟨d,hd,rfl⟩ := List.mem_map.1 hc
  have := imgs_key _ _ d (hZ.subset hd)
  have := hx.len
  dsimp only
  omega
 have t2 : Tells m (overlay L1 (fulls (imgs x (2 + m.most)))) := by
  have := tells_out t (himg _ (List.prefix_refl _)) (fun _ => true)
  rwa [overK_true] at this
 obtain ⟨L2,hL2⟩ : ∃ q,overlay L1 (fulls (imgs x (2 + m.most))) = q := ⟨_,rfl⟩
 rw [hL2] at t2
 have hl2 : L2.length = m.ds.L.length := t2.len
 obtain ⟨L3,hL3⟩ : ∃ q,overlay L2 (fulls [(2 + m.most,headW x)]) = q := ⟨_,rfl⟩
 have hs3 : L3 = L2.set (2 + m.most) (fullB (headW x)) := hL3.symm
 have hl3 : L3.length = m.ds.L.length := by rw [hs3,List.length_set,hl2]
 have hsaid : saidB L3 (2 + m.most) 5 = fulls x := by
  refine said_back ?_ (fun k hk => ?_) hxl (by have := hx.len;omega) (by have := hx.len;omega) (fun c hc => ?_) (fun c hc => by have := hx.key c hc;omega)
  ·rw [hs3,secAt_set _ _ _ (by omega)]
  ·have hk2 : k < (imgs x (2 + m.most)).length := by rw [imgs_length];exact hk
   have e := imgs_at x (2 + m.most) k hk hk2
   have := over_at (imgs x (2 + m.most)) L1 k hk2 (imgs_nodup _ _) (by rw [e];have := hx.len;have := t.len;dsimp only;omega)
   rw [e] at this
   rw [hs3,secAt_set_ne _ _ _ _ (by omega), ← hL2]
   exact this
  ·have := hx.key c hc
   unfold mayB ownB
   rw [hl3]
   simp only [Bool.and_eq_true,decide_eq_true_eq,Bool.not_eq_true',decide_eq_false_iff_not]
   omega
 have hdone : overlay L3 (fulls (x ++ [(2 + m.most,[])])) = b.ds.L := by
  rw [hz, ← hL3, ← hL2, ← overlay_app, ← overlay_app, ← fulls_app, ← fulls_app]
  simp [commitW]
 have S3 : Said b.most b.ds.L L3 := by
  rw [hb]
  refine ⟨?_, ?_, ?_, ?_,by omega⟩
  ·rw [hsaid]
   intro e
   have := congrArg List.length e
   simp [fulls] at this
   exact hx.one this
  ·rw [hsaid, ← hdone,fulls_app,fulls_app,fulls_fulls]
  ·rw [hsaid]
   intro c hc
   obtain ⟨d,hd,rfl⟩ := List.mem_map.1 hc
   have := hx.key d hd
   dsimp only
   omega
  ·rw [hs3,secAt_set_ne _ _ _ _ (by omega),t2.low 0 (by omega),List.length_set,hl2]
   have := ho.head
   rw [h.vis] at this
   exact this
 unfold commitW
 refine cut_cons (fun Z hZ p => .inl (tells_out t (himg Z hZ) p)) ?_
 rw [hL2]
 refine cut_cons (fun Z hZ p => ?_) ?_
 ·rcases one_prefix hZ with rfl | rfl
  ·exact .inl t2
  ·show Ends m b (overK p (0 + 1) (if p 0 then L2.set (2 + m.most) (fullB (headW x)) else L2) [])
   split
   ·rw [← hs3];exact .inr (.inl S3)
   ·exact .inl t2
 ·rw [hL3]
  have := said_cut (x := x) S3 (by rw [hb,hsaid,fulls_fulls])
  rw [hb] at this
  intro n p
  rcases this n p with h | h
  ·exact .inr (.inl (by rw [hb];exact h))
  ·exact .inr (.inr h)
def Acts (m : StoM) (o : Option (Nat × List Int) → Nat × StoM) : Prop :=
 (∃ r, ∀ ct,o ct = (r,atC m ct)) ∨ ∃ Lx x F2 T2,(∀ ct,o ct = finW (DS.run (phC (Lx ++ commitW x (2 + m.most))) ⟨m.ds.L,[],ct,false⟩) F2 T2 (atC m ct)) ∧ Xok m x ∧ Safe m Lx
theorem lay_keys {Z : List (Nat × Bs)} {l : List Nat} {d : Bs} (hZ : Z <+: layX l d) {j : Nat} (hj : j ∈ (fulls Z).map (·.1)) : j ∈ l := by
 rw [fulls_key] at hj
 obtain ⟨c,hc,rfl⟩ := List.mem_map.1 hj
 have := List.mem_map_of_mem (f := (·.1)) (hZ.subset hc)
 rwa [layX_eq,layR_sec] at this
theorem safe_lay {m : StoM} (l : List Nat) (d : Bs) (hl : ∀ i ∈ l,m.most + 7 ≤ i) (hr : ∀ Z,Z <+: layX l d → ∀ p, ∀ f ∈ m.F,(secsB (overK p 0 m.ds.L (fulls Z)) (secL (m.most + 7) f.ext)).take f.size = readF m f) : Safe m (layW l d) := by
 unfold layW
 split
 ·exact .inl rfl
 ·refine .inr ⟨_,rfl,fun Z hZ p => ⟨overK_length _ _ _ _,fun i hi => overK_ne _ _ _ _ _ fun hm => ?_,hr Z hZ p⟩⟩
  have := hl i (lay_keys hZ hm)
  omega
theorem settle_ok {m : StoM} (T : List Bool) {C : List (Nat × Bs)} (hC : ∀ c ∈ C,c.1 < m.most) (hl : C.length ≤ 2) : Xok m (settleX T C) := by
 refine ⟨by unfold settleX;simp,by rw [settleX_length];omega,fun c hc => ?_⟩
 unfold settleX at hc
 rcases List.mem_cons.1 hc with rfl | hc
 ·dsimp only;omega
 ·obtain ⟨d,hd,rfl⟩ := List.mem_map.1 hc
  have := hC d hd
  dsimp only
  omega
theorem put_ph (most : Nat) (T : List Bool) (l : List Nat) (d : Bs) (f : FileM) : putC most T l d f = phC (layW l d ++ commitW (settleX T [(f.entry,entryB f.name f.size f.ext)]) (2 + most)) := by
 unfold putC settleC
 rw [lay_ph,commit_ph,phC_app]
theorem acts_W {m : StoM} (h : Inv m) (n d : Bs) : Acts m fun ct => opW (atC m ct) n d := by
 have e : ∀ ct,preW (atC m ct) n d = preW m n d := fun ct => rfl
 cases hq : (preW m n d).2 with
 | none => exact .inl ⟨(preW m n d).1,fun ct => by simp only [opW,e ct,hq]⟩
 | some q =>
  obtain ⟨T2,f⟩ := q
  obtain ⟨p1,p2,p3,p4,p5,T1,p6,p7⟩ := preW_some (preW_zero hq)
  obtain ⟨u1,u2,u3,u4⟩ := take_units h p6
  obtain ⟨s1,s2⟩ := slot_fresh h p3
  refine .inr ⟨_,_,putF m.F f,T2,fun ct => ?_,settle_ok T2 (C := [(f.entry,entryB f.name f.size f.ext)]) (fun c hc => ?_) (by simp),safe_lay (secL (m.most + 7) f.ext) d (fun i hi => secL_ge hi) fun Z hZ p g hg => ?_⟩
  ·simp only [opW,e ct,hq,put_ph]
   rfl
  ·obtain rfl := List.mem_singleton.1 hc
   exact s1
  ·unfold readF
   rw [secsB_congr fun i hi => overK_ne p i _ 0 m.ds.L fun hm => ?_,h.vis]
   obtain ⟨u,hu1,e1⟩ := mem_secL.1 hi
   obtain ⟨v,hv1,e2⟩ := mem_secL.1 (lay_keys hZ hm)
   have : u = v := by omega
   subst this
   exact u3 u hv1 (mem_unitsF.2 ⟨g,hg,hu1⟩)
theorem acts_N {m : StoM} (h : Inv m) (a b : Bs) : Acts m fun ct => opN (atC m ct) a b := by
 have e : ∀ ct,preN (atC m ct) a b = preN m a b := fun ct => rfl
 cases hq : (preN m a b).2 with
 | none => exact .inl ⟨(preN m a b).1,fun ct => by simp only [opN,e ct,hq]⟩
 | some q =>
  obtain ⟨T2,C,F2⟩ := q
  obtain ⟨f,p1,p2,p3,p4,p5,p6⟩ := preN_some (preN_zero hq)
  have hf := h.b.ent f (fileOf_mem p3)
  have hC : (∀ c ∈ C,c.1 < m.most) ∧ C.length ≤ 2 := by
   rcases p6 with ⟨_,_,rfl⟩ | ⟨g,g1,_,rfl⟩
   ·exact ⟨fun c hc => by obtain rfl := List.mem_singleton.1 hc;exact hf,by simp⟩
   ·refine ⟨fun c hc => ?_, ?_⟩
    ·rcases two2_mem.1 hc with rfl | rfl
     ·exact hf
     ·exact h.b.ent g (fileOf_mem g1)
    ·unfold two2;split <;> simp
  refine .inr ⟨[],_,F2,T2,fun ct => ?_,settle_ok T2 hC.1 hC.2, .inl rfl⟩
  simp only [opN,e ct,hq,settleC,commit_ph,List.nil_append]
  rfl
theorem acts_R {m : StoM} (h : Inv m) (a : Bs) : Acts m fun ct => opR (atC m ct) a := by
 have e : ∀ ct,preR (atC m ct) a = preR m a := fun ct => rfl
 cases hq : (preR m a).2 with
 | none => exact .inl ⟨(preR m a).1,fun ct => by simp only [opR,e ct,hq]⟩
 | some q =>
  obtain ⟨T2,f⟩ := q
  have hf : f ∈ m.F := by
   unfold preR at hq
   split at hq
   ·cases hq
   ·split at hq
    ·cases hq
    ·rename_i g hg
     split at hq
     ·cases hq
     ·simp only [Option.some.injEq,Prod.mk.injEq] at hq
      rw [← hq.2];exact fileOf_mem hg
  refine .inr ⟨[],_,delF m.F f.name,T2,fun ct => ?_,settle_ok T2 (C := [(f.entry,[])]) (fun c hc => ?_) (by simp), .inl rfl⟩
  ·simp only [opR,e ct,hq,settleC,commit_ph,List.nil_append]
   rfl
  ·obtain rfl := List.mem_singleton.1 hc
   exact h.b.ent f hf
theorem take_last {v u : List Bs} {A : List Nat} {j t n : Nat} (hA : ∀ i ∈ A,secAt u i = secAt v i) (hl : (secsB v A).length = n) (hj : (secAt u j).take t = (secAt v j).take t) : (secsB u (A ++ [j])).take (n + t) = (secsB v (A ++ [j])).take (n + t) := by
 have e1 : ∀ w : List Bs,secsB w [j] = secAt w j := fun w => by simp [secsB]
 rw [secsB_app,secsB_app,secsB_congr hA,e1,e1,List.take_append,List.take_append,hl,show n + t - n = t by omega,hj]
theorem acts_A {m : StoM} (h : Inv m) (hd : DGood m.ds) (n d : Bs) : Acts m fun ct => opA (atC m ct) n d := by
 have e : ∀ ct,preA (atC m ct) n d = preA m n d := fun ct => by
  have h1 : preA (atC m ct) n d = preA (atC m none) n d := rfl
  rw [h1, ← h.at]
 cases hq : (preA m n d).2 with
 | none => exact .inl ⟨(preA m n d).1,fun ct => by simp only [opA,e ct,hq]⟩
 | some q =>
  obtain ⟨T2,L,dt,f'⟩ := q
  obtain ⟨f,l,p1,p2,p3,p4,p5,p6,p7,p8⟩ := preA_some (preA_zero hq)
  obtain ⟨u1,u2,u3,u4⟩ := take_units h p5
  have hfm := fileOf_mem p2
  have hfi := h.fin hfm
  have hbl := h.b.ll
  have hin : ∀ i ∈ secL (m.most + 7) f.ext,i < m.ds.L.length := fun i hi => by
   obtain ⟨x,hx,h1,h2⟩ := secL_mem hi
   have := (hfi.exb x hx).2
   omega
  have hfr : ∀ g ∈ m.F, ∀ i ∈ secL (m.most + 7) g.ext,i ∉ secL (m.most + 7) l := fun g hg i hi hl => by
   obtain ⟨u,hu,e1⟩ := mem_secL.1 hi
   obtain ⟨v,hv,e2⟩ := mem_secL.1 hl
   have : u = v := by omega
   subst this
   exact u3 u hv (mem_unitsF.2 ⟨g,hg,hu⟩)
  have hent : f'.entry < m.most := by rw [p8];exact hfi.ent
  refine .inr ⟨_,_,putF m.F f',T2,fun ct => ?_,settle_ok T2 (C := [(f'.entry,entryB f'.name f'.size f'.ext)]) (fun c hc => ?_) (by simp),safe_lay L dt (fun i hi => ?_) fun Z hZ p g hg => ?_⟩
  ·simp only [opA,e ct,hq,put_ph]
   rfl
  ·obtain rfl := List.mem_singleton.1 hc
   exact hent
  ·rw [p6] at hi
   rcases List.mem_append.1 hi with hi | hi
   ·unfold appL at hi
    split at hi
    ·cases hi
    ·rename_i hz
     obtain rfl := List.mem_singleton.1 hi
     obtain ⟨h1,h2,_⟩ := lastS_at (m := m) hfi.sum hz
     rw [h2]
     exact secL_ge (List.getElem_mem h1)
   ·exact secL_ge hi
  ·by_cases hz : f.size % 512 = 0
   ·have hL : L = secL (m.most + 7) l := by rw [p6];unfold appL;rw [if_pos hz,List.nil_append]
    unfold readF
    rw [secsB_congr fun i hi => overK_ne p i _ 0 m.ds.L fun hm => ?_,h.vis]
    have := lay_keys hZ hm
    rw [hL] at this
    exact hfr g hg i hi this
   ·obtain ⟨h1,h2,h3⟩ := lastS_at (m := m) hfi.sum hz
    have hsl := secL_length (m.most + 7) f.ext
    have hL : L = lastS m f :: secL (m.most + 7) l := by rw [p6];unfold appL;rw [if_neg hz];rfl
    have hD : dt = (secAt m.ds.vis (lastS m f)).take (f.size % 512) ++ d := by rw [p7];unfold appD;rw [if_neg hz]
    have hlm : lastS m f ∈ secL (m.most + 7) f.ext := by rw [h2];exact List.getElem_mem h1
    have hpd := perm_del _ _ _ h.names p2
    have hU := (unitsF_perm hpd).nodup_iff.1 h.once
    rw [unitsF_cons] at hU
    have hUn := List.nodup_append.1 hU
    by_cases hgf : g = f
    ·subst hgf
     have hsp := last_split (secL (m.most + 7) g.ext) (sumN g.ext - 1) (by rw [hsl];omega) h1
     rw [← h2] at hsp
     have hnd : (secL (m.most + 7) g.ext).Nodup := secL_nodup hUn.1
     obtain ⟨A,hA⟩ : ∃ q,(secL (m.most + 7) g.ext).take (sumN g.ext - 1) = q := ⟨_,rfl⟩
     rw [hA] at hsp
     have hnA : lastS m g ∉ A := fun hm => by
      rw [hsp] at hnd
      exact (List.nodup_append.1 hnd).2.2 _ hm _ (List.mem_singleton.2 rfl) rfl
     have hAl : A.length = g.size / 512 := by
      have h5 := congrArg List.length hsp
      rw [hsl,hfi.sum,List.length_append] at h5
      unfold needsN at h5
      simp at h5
      omega
     have hlen : (secsB m.ds.L A).length = 512 * (g.size / 512) := by
      have := secsB_len hd A fun i hi => hin i (by rw [hsp];exact List.mem_append_left _ hi)
      rw [h.vis] at this
      rw [this,hAl]
     have hsz : g.size = 512 * (g.size / 512) + g.size % 512 := by omega
     have hj : (secAt (overK p 0 m.ds.L (fulls Z)) (lastS m g)).take (g.size % 512) = (secAt m.ds.L (lastS m g)).take (g.size % 512) := by
      rcases overK_one p (lastS m g) (fulls Z) 0 m.ds.L with h6 | ⟨b,hb,h6⟩
      ·rw [h6]
      ·rw [h6]
       obtain ⟨c,hc,e1⟩ := List.mem_map.1 hb
       have hc2 := hZ.subset hc
       rw [layX_eq,hL] at hc2
       have hb2 : b = fullB (dt.take 512) := by
        rcases List.mem_cons.1 hc2 with rfl | hc2
        ·simp only [Prod.mk.injEq] at e1;exact e1.2.symm
        ·exfalso
         have := List.mem_map_of_mem (f := (·.1)) hc2
         rw [layR_sec] at this
         simp only [Prod.mk.injEq] at e1
         rw [e1.1] at this
         exact hfr g hg _ hlm this
       have hvl := vis_sec hd (lastS m g) (hin _ hlm)
       have hle : ((secAt m.ds.vis (lastS m g)).take (g.size % 512)).length = g.size % 512 := by rw [List.length_take,hvl];omega
       rw [hb2,hD]
       unfold fullB
       rw [List.take_append_of_le_length (by rw [List.length_take,List.length_append,hle];omega),List.take_take,Nat.min_eq_left (by omega),List.take_append_of_le_length (Nat.le_of_eq hle.symm),List.take_of_length_le (Nat.le_of_eq hle),h.vis]
     have := take_last (v := m.ds.L) (u := overK p 0 m.ds.L (fulls Z)) (A := A) (j := lastS m g) (fun i hi => overK_ne p i _ 0 _ fun hm => by
      have h7 := lay_keys hZ hm
      rw [hL] at h7
      rcases List.mem_cons.1 h7 with rfl | h7
      ·exact hnA hi
      ·exact hfr g hg i (by rw [hsp];exact List.mem_append_left _ hi) h7) hlen hj
     rw [← hsp, ← hsz] at this
     unfold readF
     rw [h.vis]
     exact this
    ·unfold readF
     rw [secsB_congr fun i hi => overK_ne p i _ 0 m.ds.L fun hm => ?_,h.vis]
     have h7 := lay_keys hZ hm
     rw [hL] at h7
     rcases List.mem_cons.1 h7 with rfl | h7
     ·obtain ⟨u,hu,e1⟩ := mem_secL.1 hi
      obtain ⟨v,hv,e2⟩ := mem_secL.1 hlm
      have : u = v := by omega
      subst this
      exact hgf (flat_apart h.once hg hfm hu hv)
     ·exact hfr g hg i hi h7
theorem acts_any {m : StoM} (h : Inv m) (hd : DGood m.ds) (a : ActM) (i : Nat) : Acts m fun ct => actO (atC m ct) a i := by
 unfold actO
 by_cases h1 : whatN a.what 8 < 2
 ·simp only [h1,if_true];exact acts_W h _ _
 ·by_cases h2 : whatN a.what 8 < 4
  ·simp only [h1,h2,if_true,if_false];exact acts_A h hd _ _
  ·by_cases h3 : whatN a.what 8 = 4
   ·simp only [h1,h2,if_false];simp only [h3,if_true];exact acts_N h _ _
   ·by_cases h4 : whatN a.what 8 = 5
    ·simp only [h1,h2,h3,if_false];simp only [h4,if_true];exact acts_R h _
    ·simp only [h1,h2,h3,h4,if_false]
     exact .inl ⟨findE m.F a.name,fun _ => rfl⟩
theorem act_crash {m : StoM} (h : Inv m) (ho : Od m) (hd : DGood m.ds) (a : ActM) (i c : Nat) (hc : 1 ≤ c) (keep : List Int) :
  (actO (atC m (some (c,keep))) a i).2.ds.S = [] ∧ (((actO (atC m (some (c,keep))) a i).1 ≠ 7 ∧ (actO (atC m (some (c,keep))) a i).2.ds.L = (actO m a i).2.ds.L) ∨ ((actO (atC m (some (c,keep))) a i).1 = 7 ∧ Ends m (actO m a i).2 (actO (atC m (some (c,keep))) a i).2.ds.L)) := by
 have hm : actO m a i = actO (atC m none) a i := by rw [← h.at]
 rcases acts_any h hd a i with ⟨r,e⟩ | ⟨Lx,x,F2,T2,e,hx,hs⟩
 ·have e1 := e (some (c,keep));have e2 := e none
  dsimp only at e1 e2
  rw [hm,e1,e2]
  refine ⟨rfl, ?_⟩
  by_cases hr : r = 7
  ·refine .inr ⟨hr, .inl ?_⟩
   exact tells_self h
  ·exact .inl ⟨hr,rfl⟩
 ·have e1 := e (some (c,keep));have e2 := e none
  dsimp only at e1 e2
  rw [hm,e1,e2,run_go,go_all,run_cut _ _ _ _ _ hc]
  obtain ⟨Lz,hLz⟩ : ∃ q,overlay m.ds.L (fulls (Lx ++ commitW x (2 + m.most)).flatten) = q := ⟨_,rfl⟩
  rw [hLz]
  have hb : finW (0,(⟨Lz,[],none,false⟩ : DS)) F2 T2 (atC m none) = (0,⟨⟨Lz,[],none,false⟩,F2,T2,m.most,false⟩) := rfl
  rw [hb]
  split
  ·rw [go_all,hLz]
   exact ⟨rfl, .inl ⟨by show (0 : Nat) ≠ 7;decide,rfl⟩⟩
  ·refine ⟨rfl, .inr ⟨rfl, ?_⟩⟩
   show Ends m ⟨⟨Lz,[],none,false⟩,F2,T2,m.most,false⟩ (overK (keptI keep) 0 _ _)
   have key : CutP (Ends m ⟨⟨Lz,[],none,false⟩,F2,T2,m.most,false⟩) (Lx ++ commitW x (2 + m.most)) m.ds.L := by
    rcases hs with rfl | ⟨X,rfl,hX⟩
    ·exact commit_cut h ho (tells_self h) hx rfl hLz.symm
    ·refine cut_cons (fun Z hZ p => .inl (hX Z hZ p)) ?_
     have t := hX X (List.prefix_refl _) (fun _ => true)
     rw [overK_true] at t
     refine commit_cut h ho t hx rfl ?_
     show Lz = _
     rw [← hLz,List.singleton_append,List.flatten_cons,fulls_app,overlay_app]
   exact key _ _
open Go.RowKit Go.Maps
def lineB (m : StoM) (n : Bs) : Bs := n ++ [32] ++ readW m n ++ [10]
theorem sight_snoc (m : StoM) (l : List Bs) (j : Nat) (h : j < l.length) : (l.take (j + 1)).flatMap (lineB m) = (l.take j).flatMap (lineB m) ++ lineB m l[j] := by
 rw [List.take_succ_eq_append_getElem h,List.flatMap_append]
 simp
theorem readW_len {m : StoM} (hb : StoB m) (n : Bs) : (readW m n).length ≤ 1048576 := by
 unfold readW
 split
 ·cases hf : fileOf m.F n with
  | none => simp
  | some f =>
   have := hb.siz f (List.mem_of_find?_eq_some hf)
   simp only [Option.map_some,Option.getD_some]
   unfold readF
   rw [List.length_take]
   omega
 ·simp
theorem lines_len {m : StoM} (hb : StoB m) : ∀ (l : List Bs),(∀ n ∈ l,n.length ≤ 80) → (l.flatMap (lineB m)).length ≤ l.length * 1048700
 | [],_ => by simp
 | n :: l,h => by
  have h1 := lines_len hb l fun x hx => h x (List.mem_cons_of_mem _ hx)
  have h2 := h n List.mem_cons_self
  have h3 := readW_len hb n
  rw [List.flatMap_cons,List.length_append,List.length_cons]
  have : (lineB m n).length = n.length + (readW m n).length + 2 := by unfold lineB;simp only [List.length_append,List.length_singleton];omega
  omega
set_option maxRecDepth 100000 in
set_option maxHeartbeats 2000000 in
theorem sight_any (X : List Nat) (S D Lg M : Nat) (m : StoM) (w : World) (h : Sto w X S D Lg M m) (hi : Rdy m) : Calls Tryz.prog 31 #[.pointer (some ⟨S,0,none⟩)] w fun e w' => e = .returned (.string (mk (sightB m))) ∧ Below w.heap.size w w' := by
 have KNM := fnames_any X S D Lg M m w h hi.b.len
 have hn80 : ∀ n ∈ namesS m.F,n.length ≤ 80 := fun n hn => by
  have hn2 := (List.mergeSort_perm (m.F.map (·.name)) leB).mem_iff.1 hn
  obtain ⟨f,hf,rfl⟩ := List.mem_map.1 hn2
  exact hi.b.nam f hf
 have hnl : (namesS m.F).length ≤ 1000 := by
  unfold namesS
  rw [List.length_mergeSort,List.length_map]
  exact hi.b.len
 have hsi : sightB m = (namesS m.F).flatMap (lineB m) := rfl
 rw [hsi]
 obtain ⟨N,hN⟩ : ∃ q,namesS m.F = q := ⟨_,rfl⟩
 rw [hN] at KNM hn80 hnl ⊢
 obtain ⟨nl,hnle⟩ : ∃ q,N.length = q := ⟨_,rfl⟩
 rw [hnle] at hnl
 simp only [hnle] at KNM
 have HH := Lib.hid (And.intro h (And.intro hi (And.intro hn80 hnle)))
 have hz : mk ((N.take 0).flatMap (lineB m)) = ⟨#[]⟩ := rfl
 clear h hi hn80 hnle hN hsi
 go_enter Tryz.func31,Tryz.ntmps31
 go_wp2_with (first
  | (go_at_call 22;refine KNM.mono ?_;rintro e w1 ⟨A1,c1,rfl,hrow1,hb1⟩;have H1 := Lib.hid (And.intro (Lies.of_row hrow1) hb1);clear hrow1 hb1 KNM))
 go_loopw [3,5] (fun ov iv wr => ∃ j : Nat,j ≤ nl ∧ iv = .int .i64 j ∧ ov = .string (mk ((N.take j).flatMap (lineB m))) ∧ Below w1.heap.size w1 wr) (fun _ iv _ => nl - (intOf iv).toNat)
 case atStart => exact ⟨0,Nat.zero_le _,rfl,rfl,Below.refl _ _⟩
 case round =>
  obtain ⟨j,hj,rfl,rfl,hbj⟩ := hrel
  have j0 : (0 : Int) ≤ (j : Int) := by omega
  by_cases hjl : j < nl
  ·have j1 : (j : Int) < (nl : Int) := by omega
   have hjn : j < N.length := by rw [HH.out.2.2.2];exact hjl
   have htw := HH.out.1.below (H1.out.2.trans (hbj.mono H1.out.2.size))
   obtain ⟨g1,o1,rfl,hg1,hc1⟩ := (H1.out.1.below (Nat.le_refl _) hbj) (by rw [List.length_map];omega)
   have a0 := hc1 j (.string (mk N[j])) (by rw [List.getElem?_map,List.getElem?_eq_getElem hjn];rfl)
   have hn80 := HH.out.2.2.1 N[j] (List.getElem_mem hjn)
   have hrl := readW_len HH.out.2.1.b N[j]
   have hol := lines_len HH.out.2.1.b (N.take j) fun n hn => HH.out.2.2.1 n (List.take_subset _ _ hn)
   have KRD := opS_any X S D Lg M m N[j] wr htw HH.out.2.1 (by unfold maxLen;omega)
   have hs1 := sight_snoc m N j hjn
   obtain ⟨nm,hnm⟩ : ∃ q,N[j] = q := ⟨_,rfl⟩
   rw [hnm] at a0 hn80 hrl KRD hs1
   obtain ⟨O,hO⟩ : ∃ q,(N.take j).flatMap (lineB m) = q := ⟨_,rfl⟩
   rw [hO] at hol hs1 ⊢
   obtain ⟨t,ht⟩ : ∃ q,readW m nm = q := ⟨_,rfl⟩
   unfold lineB at hs1
   rw [ht] at hrl KRD hs1
   have hol2 : O.length ≤ 1048700000 := by
    rw [List.length_take] at hol
    have : min j N.length ≤ 1000 := by omega
    have := Nat.mul_le_mul_right 1048700 this
    omega
   have q1 := run_sum nm [32] (by simp;omega)
   have q2 := run_sum (nm ++ [32]) t (by simp;omega)
   have q3 := run_sum (nm ++ [32] ++ t) [10] (by simp;omega)
   have q4 := run_sum O (nm ++ [32] ++ t ++ [10]) (by simp;omega)
   obtain ⟨C1,hC1⟩ : ∃ q,mk [32] = q := ⟨_,rfl⟩
   obtain ⟨C2,hC2⟩ : ∃ q,mk [10] = q := ⟨_,rfl⟩
   have hC1' : (⟨#[32]⟩ : ByteArray) = C1 := hC1
   have hC2' : (⟨#[10]⟩ : ByteArray) = C2 := hC2
   rw [hC1] at q1
   rw [hC2] at q3
   obtain ⟨NM,hNM⟩ : ∃ q,mk nm = q := ⟨_,rfl⟩
   obtain ⟨TM,hTM⟩ : ∃ q,mk t = q := ⟨_,rfl⟩
   obtain ⟨OM,hOM⟩ : ∃ q,mk O = q := ⟨_,rfl⟩
   obtain ⟨N1,hN1⟩ : ∃ q,mk (nm ++ [32]) = q := ⟨_,rfl⟩
   obtain ⟨N2,hN2⟩ : ∃ q,mk (nm ++ [32] ++ t) = q := ⟨_,rfl⟩
   obtain ⟨N3,hN3⟩ : ∃ q,mk (nm ++ [32] ++ t ++ [10]) = q := ⟨_,rfl⟩
   obtain ⟨O2,hO2⟩ : ∃ q,mk (O ++ (nm ++ [32] ++ t ++ [10])) = q := ⟨_,rfl⟩
   rw [hNM] at a0 KRD q1
   rw [hTM] at KRD q2
   rw [hN1] at q1 q2
   rw [hN2] at q2 q3
   rw [hN3] at q3 q4
   rw [hOM] at q4 ⊢
   rw [hO2] at q4
   have HO := Lib.hid (hs1 ▸ hO2 : mk ((N.take (j + 1)).flatMap (lineB m)) = O2)
   have HBJ := Lib.hid hbj
   have hg := Lib.hid hg1
   clear htw hc1 hjn hn80 hrl hol hs1 hnm hO ht hol2 hC1 hC2 hNM hTM hOM hN1 hN2 hN3 hO2 hbj
   go_wp2_with (first
    | (go_at_call 17;refine KRD.mono ?_;rintro e w5 ⟨rfl,hb5⟩;have a1 := (hb5.cell (p := ⟨g1,o1 + j,none⟩) hg1).trans a0;have H5 := Lib.hid hb5;clear hb5 KRD))
   go_roundw
   case rel => exact ⟨j + 1,by omega,by go_num,(congrArg Value.string HO.out).symm,HBJ.out.trans (H5.out.mono HBJ.out.size)⟩
   case measure => simp [intOf];omega
  ·obtain rfl : j = nl := by omega
   have HBJ := Lib.hid hbj
   clear hbj
   go_wp2
   go_ret
   refine ⟨?_,H1.out.2.trans (HBJ.out.mono H1.out.2.size)⟩
   rw [List.take_of_length_le (Nat.le_of_eq HH.out.2.2.2)]
   rfl
open Go.RowKit
def NoX (w : World) (X : List Nat) : Prop := ∀ x ∈ X, ∀ cs t fr,w.heap[x]? = some (.cells cs t fr) → t ≠ 90 ∧ t ≠ 165
theorem own_typed {w : World} {B e size n g : Nat} {v : Value} {xs : List Value} (h : w.ownsRow B e size v n xs) (hg : v.ownBlock = some g) : ∃ cs fr,w.heap[g]? = some (.cells cs e fr) := by
 rcases h.2 with ⟨hv,_⟩ | ⟨g',cap,cur,hv,_,hc,_⟩
 ·subst hv;simp [Value.ownBlock] at hg
 ·subst hv
  simp [Value.ownBlock] at hg
  subst hg
  exact ⟨cur,_,hc⟩
theorem not90 {w : World} {g t : Nat} {cs : Array Value} {fr : Nat × Nat} (h : w.heap[g]? = some (.cells cs t fr)) (ht : t ≠ 90 ∧ t ≠ 165) : ∀ cs t fr,w.heap[g]? = some (.cells cs t fr) → t ≠ 90 ∧ t ≠ 165 := by
 intro c t' f e
 rw [h] at e
 simp only [Option.some.injEq,Obj.cells.injEq] at e
 rw [← e.2.1]
 exact ht
theorem CutAt.wide {w : World} {X Z : List Nat} {v : Value} {o : Option (Nat × List Int)} (h : CutAt w X v o) (hz : ∀ x ∈ X,x ∈ Z) : CutAt w Z v o := by
 cases o with
 | none => exact h
 | some p =>
  obtain ⟨n,keep⟩ := p
  obtain ⟨a1,a2,a3,C,A,c,a4,a5,a6,a7,a8,a9⟩ := h
  exact ⟨a1,a2,a3,C,A,c,a4,hz _ a5,a6,a7,a8,fun a ha => hz _ (a9 a ha)⟩
theorem CutAt.norm {w : World} {X : List Nat} {v : Value} {o : Option (Nat × List Int)} (h : CutAt w X v o) : ∃ Z,CutAt w Z v o ∧ NoX w Z ∧ ∀ x ∈ Z,x ∈ X := by
 cases o with
 | none => exact ⟨[],h,fun x hx => by (cases hx),fun x hx => by (cases hx)⟩
 | some p =>
  obtain ⟨n,keep⟩ := p
  obtain ⟨a1,a2,a3,C,A,c,a4,a5,a6,a7,a8,a9⟩ := h
  refine ⟨C :: (A.map (·.block)).toList,⟨a1,a2,a3,C,A,c,a4,List.mem_cons_self,a6,a7,a8,fun a ha => List.mem_cons_of_mem _ (by simp [ha])⟩,fun x hx => ?_,fun x hx => ?_⟩
  ·rcases List.mem_cons.1 hx with rfl | hx
   ·exact not90 a6 (by decide)
   ·obtain ⟨a,ha,rfl⟩ : ∃ a,A = some a ∧ a.block = x := by simpa using hx
    obtain ⟨cs,fr,hc⟩ := a8 a ha
    exact not90 hc (by decide)
  ·rcases List.mem_cons.1 hx with rfl | hx
   ·exact a5
   ·obtain ⟨a,ha,rfl⟩ : ∃ a,A = some a ∧ a.block = x := by simpa using hx
    exact a9 a ha
theorem Dsk.norm {w : World} {X : List Nat} {D : Nat} {d : DS} (h : Dsk w X D d) : ∃ Z,Dsk w Z D d ∧ NoX w Z ∧ ∀ x ∈ Z,x ∈ X := by
 obtain ⟨gL,cL,vS,vC,cnt,hB,hL,hS,hC,hgX,hvX⟩ := h.blk
 obtain ⟨Z,z1,z2,z3⟩ := hC.norm
 have hsub : ∀ x ∈ D :: gL :: (vS.ownBlock.toList ++ Z),x ∈ X := fun x hx => by
  rcases List.mem_cons.1 hx with rfl | hx
  ·exact h.mem
  ·rcases List.mem_cons.1 hx with rfl | hx
   ·exact hgX
   ·rcases List.mem_append.1 hx with hx | hx
    ·exact hvX x (by simpa using hx)
    ·exact z3 x hx
 refine ⟨D :: gL :: (vS.ownBlock.toList ++ Z),⟨⟨gL,cL,vS,vC,cnt,hB,hL,hS,z1.wide fun x hx => List.mem_cons_of_mem _ (List.mem_cons_of_mem _ (List.mem_append_right _ hx)),List.mem_cons_of_mem _ List.mem_cons_self,fun g hg => List.mem_cons_of_mem _ (List.mem_cons_of_mem _ (List.mem_append_left _ (by simpa using hg)))⟩,h.good,List.mem_cons_self,fun x hx => h.lt x (hsub x hx)⟩,fun x hx => ?_,hsub⟩
 rcases List.mem_cons.1 hx with rfl | hx
 ·exact not90 hB (by decide)
 ·rcases List.mem_cons.1 hx with rfl | hx
  ·obtain ⟨cs,fr,hc⟩ := row_blk hL
   exact not90 hc (by decide)
  ·rcases List.mem_append.1 hx with hx | hx
   ·obtain ⟨cs,fr,hc⟩ := own_typed hS (by simpa using hx)
    exact not90 hc (by decide)
   ·exact z2 x hx
theorem Sto.norm {w : World} {X : List Nat} {S D Lg M : Nat} {m : StoM} (h : Sto w X S D Lg M m) : ∃ Z,Sto w Z S D Lg M m ∧ NoX w Z ∧ ∀ x ∈ Z,x ∈ X := by
 obtain ⟨Z,z1,z2,z3⟩ := h.dsk.norm
 obtain ⟨ad,m1,m2⟩ := h.map
 obtain ⟨p1,p2,p3,p4⟩ := h.apart
 exact ⟨Z,⟨h.blk,z1,h.log,⟨ad,m1,fun f hf => ⟨(m2 f hf).1,(m2 f hf).2.1,fun a ha hz => (m2 f hf).2.2 a ha (z3 _ hz)⟩⟩,⟨fun e => p1 (z3 _ e),fun e => p2 (z3 _ e),fun e => p3 (z3 _ e),fun e => p4 (z3 _ e)⟩,h.tb,h.pos⟩,z2,z3⟩
theorem NoX.frm {w w' : World} {X Z : List Nat} (h : NoX w X) (hf : Frm Z w w') (hz : ∀ x ∈ X,x ∉ Z) (hl : ∀ x ∈ X,x < w.heap.size) : NoX w' X := fun x hx cs t fr => by
 rw [hf.block x (hl x hx) (hz x hx)]
 exact h x hx cs t fr
structure Duo (w : World) (X1 : List Nat) (S1 D1 L1 M1 : Nat) (m1 : StoM) (X2 : List Nat) (S2 D2 L2 M2 : Nat) (m2 : StoM) (Y : List Nat) (R : Nat) (F : List PF) (T : List Bool) (most : Nat) : Prop where
 two : Two w X1 S1 D1 L1 M1 m1 Y R F T most
 sto : Sto w X2 S2 D2 L2 M2 m2
 k1 : NoX w X1
 k2 : NoX w X2
 ap : ∀ z ∈ (S1 :: M1 :: X1) ++ (R :: Y),z ≠ L2 ∧ z ∉ S2 :: M2 :: X2
 ap2 : ∀ z ∈ S2 :: M2 :: X2,z ≠ L1
 n1 : S1 ≠ 0 ∧ M1 ≠ 0
 n2 : S2 ≠ 0 ∧ M2 ≠ 0
section
variable {w w' : World} {X1 : List Nat} {S1 D1 L1 M1 : Nat} {m1 : StoM} {X2 : List Nat} {S2 D2 L2 M2 : Nat} {m2 : StoM} {Y : List Nat} {R : Nat} {F : List PF} {T : List Bool} {most : Nat}
theorem Duo.swap (h : Duo w X1 S1 D1 L1 M1 m1 X2 S2 D2 L2 M2 m2 Y R F T most) : Duo w X2 S2 D2 L2 M2 m2 X1 S1 D1 L1 M1 m1 Y R F T most := by
 refine ⟨⟨h.sto,h.two.rst,fun y hy => ?_⟩,h.two.sto,h.k2,h.k1,fun z hz => ?_,fun z hz => (h.ap z (List.mem_append_left _ hz)).1,h.n2,h.n1⟩
 ·obtain ⟨a1,a2⟩ := h.ap y (List.mem_append_right _ hy)
  simp only [List.mem_cons,not_or] at a2
  exact ⟨a2.1,a1,a2.2.1,a2.2.2,(h.two.ap y hy).2.2.2.2⟩
 ·rcases List.mem_append.1 hz with hz | hz
  ·exact ⟨h.ap2 z hz,fun h1 => (h.ap z (List.mem_append_left _ h1)).2 hz⟩
  ·obtain ⟨a1,a2,a3,a4,_⟩ := h.two.ap z hz
   refine ⟨a2, ?_⟩
   simp only [List.mem_cons,not_or]
   exact ⟨a1,a3,a4⟩
theorem Sto.lts {X : List Nat} {S D Lg M : Nat} {m : StoM} (h : Sto w X S D Lg M m) : (∀ z ∈ S :: M :: X,z < w.heap.size) ∧ Lg < w.heap.size := by
 obtain ⟨ad,hM,_⟩ := h.map
 refine ⟨fun z hz => ?_,Blk.lt h.log⟩
 rcases List.mem_cons.1 hz with rfl | hz
 ·exact h.blk.lt
 ·rcases List.mem_cons.1 hz with rfl | hz
  ·exact hM.lt
  ·exact h.dsk.lt z hz
theorem Duo.below (h : Duo w X1 S1 D1 L1 M1 m1 X2 S2 D2 L2 M2 m2 Y R F T most) (hb : Below w.heap.size w w') : Duo w' X1 S1 D1 L1 M1 m1 X2 S2 D2 L2 M2 m2 Y R F T most :=
 ⟨h.two.below hb,h.sto.below hb,fun x hx cs t fr => by rw [hb.block x (h.two.sto.dsk.lt x hx)];exact h.k1 x hx cs t fr,fun x hx cs t fr => by rw [hb.block x (h.sto.dsk.lt x hx)];exact h.k2 x hx cs t fr,h.ap,h.ap2,h.n1,h.n2⟩
theorem RSt.no90 (h : RSt w Y R F T most) : NoX w (R :: Y) := fun y hy cs t' fr => by
 obtain ⟨c,t,f,hc,hk⟩ := h.kinds y hy
 exact not90 hc ⟨fun e => by subst e;revert hk;unfold okT;decide,fun e => by subst e;revert hk;unfold okT;decide⟩ cs t' fr
theorem Duo.step {X1' Y' : List Nat} {m1' : StoM} {F' : List PF} {T' : List Bool} (h : Duo w X1 S1 D1 L1 M1 m1 X2 S2 D2 L2 M2 m2 Y R F T most) (ht : Two w' X1' S1 D1 L1 M1 m1' Y' R F' T' most) (hm : Mv ((S1 :: M1 :: X1) ++ (R :: Y)) ((S1 :: M1 :: X1') ++ (R :: Y')) w w') :
  ∃ Z,Duo w' Z S1 D1 L1 M1 m1' X2 S2 D2 L2 M2 m2 Y' R F' T' most ∧ Mv ((S1 :: M1 :: X1) ++ (R :: Y)) ((S1 :: M1 :: Z) ++ (R :: Y')) w w' := by
 obtain ⟨Z,z1,z2,z3⟩ := ht.sto.norm
 have hl2 := h.sto.lts
 have hno : ∀ z ∈ (S1 :: M1 :: X1) ++ (R :: Y), ∀ cs fr,w.heap[z]? ≠ some (.cells cs 90 fr) := fun z hz => by
  rcases List.mem_append.1 hz with hz | hz
  ·rcases List.mem_cons.1 hz with rfl | hz
   ·exact fun cs fr hc => (not90 h.two.sto.blk (by decide) cs 90 fr hc).1 rfl
   ·rcases List.mem_cons.1 hz with rfl | hz
    ·obtain ⟨ad,hM,_⟩ := h.two.sto.map
     intro cs fr hc
     exact hM.not_cells hc rfl
    ·exact fun cs fr hc => (h.k1 z hz cs 90 fr hc).1 rfl
  ·exact fun cs fr hc => (h.two.rst.no90 z hz cs 90 fr hc).1 rfl
 have hdis : ∀ x ∈ S2 :: M2 :: X2,x ∉ (S1 :: M1 :: X1) ++ (R :: Y) := fun x hx hz => (h.ap x hz).2 hx
 have h0 : 0 ∉ (S1 :: M1 :: X1) ++ (R :: Y) := fun hz => by
  rcases List.mem_append.1 hz with hz | hz
  ·rcases List.mem_cons.1 hz with e | hz
   ·exact h.n1.1 e.symm
   ·rcases List.mem_cons.1 hz with e | hz
    ·exact h.n1.2 e.symm
    ·exact h.two.sto.apart.2.2.2 hz
  ·exact (h.two.ap 0 hz).2.2.2.2 rfl
 have hs2 : Sto w' X2 S2 D2 L2 M2 m2 := h.sto.frm hm.frm (hdis _ List.mem_cons_self) (fun hz => (h.ap _ hz).1 rfl) (hdis _ (List.mem_cons_of_mem _ List.mem_cons_self)) h0 (fun x hx => hdis x (List.mem_cons_of_mem _ (List.mem_cons_of_mem _ hx))) hno
 have hap : ∀ z ∈ (S1 :: M1 :: X1') ++ (R :: Y'),z ≠ L2 ∧ z ∉ S2 :: M2 :: X2 := fun z hz => by
  rcases hm.sub z hz with h1 | h1
  ·exact h.ap z h1
  ·refine ⟨by have := hl2.2;omega,fun h2 => by have := hl2.1 z h2;omega⟩
 have hz1 : ∀ z ∈ (S1 :: M1 :: Z) ++ (R :: Y'),z ∈ (S1 :: M1 :: X1') ++ (R :: Y') := fun z hz => by
  rcases List.mem_append.1 hz with hz | hz
  ·refine List.mem_append_left _ ?_
   rcases List.mem_cons.1 hz with rfl | hz
   ·exact List.mem_cons_self
   ·rcases List.mem_cons.1 hz with rfl | hz
    ·exact List.mem_cons_of_mem _ List.mem_cons_self
    ·exact List.mem_cons_of_mem _ (List.mem_cons_of_mem _ (z3 z hz))
  ·exact List.mem_append_right _ hz
 refine ⟨Z,⟨⟨z1,ht.rst,fun y hy => ?_⟩,hs2,z2,h.k2.frm hm.frm (fun x hx => hdis x (List.mem_cons_of_mem _ (List.mem_cons_of_mem _ hx))) (fun x hx => h.sto.dsk.lt x hx),fun z hz => hap z (hz1 z hz),h.ap2,h.n1,h.n2⟩,⟨hm.frm,fun x hx => hm.sub x (hz1 x hx)⟩⟩
 obtain ⟨a1,a2,a3,a4,a5⟩ := ht.ap y hy
 exact ⟨a1,a2,a3,fun hx => a4 (z3 y hx),a5⟩
theorem duo_start {w1 w2 w3 w4 : World} (hw : 0 < w1.heap.size) (h1 : Sto w2 X1 S1 D1 L1 M1 m1) (n1 : Nw w1 (S1 :: M1 :: X1) w2) (h2 : Sto w3 X2 S2 D2 L2 M2 m2) (n2 : Nw w2 (S2 :: M2 :: X2) w3) (hr : RSt w4 Y R F T most) (hb : Below w3.heap.size w3 w4) (hR : w3.heap.size ≤ R) (hY : ∀ y ∈ Y,w3.heap.size ≤ y) :
  ∃ Z1 Z2,Duo w4 Z1 S1 D1 L1 M1 m1 Z2 S2 D2 L2 M2 m2 Y R F T most ∧ Nw w1 (((S1 :: M1 :: Z1) ++ (R :: Y)) ++ (S2 :: M2 :: Z2)) w4 := by
 obtain ⟨Z1,a1,a2,a3⟩ := h1.norm
 obtain ⟨Z2,b1,b2,b3⟩ := h2.norm
 have hs12 := n1.below.size
 have hs23 := n2.below.size
 have hs34 := hb.size
 have l1 := a1.lts
 have l2 := b1.lts
 have hRY : ∀ y ∈ R :: Y,w3.heap.size ≤ y := fun y hy => by
  rcases List.mem_cons.1 hy with rfl | hy
  ·exact hR
  ·exact hY y hy
 have hN1 : ∀ z ∈ S1 :: M1 :: Z1,w1.heap.size ≤ z := fun z hz => n1.new z (by
  rcases List.mem_cons.1 hz with rfl | hz
  ·exact List.mem_cons_self
  ·rcases List.mem_cons.1 hz with rfl | hz
   ·exact List.mem_cons_of_mem _ List.mem_cons_self
   ·exact List.mem_cons_of_mem _ (List.mem_cons_of_mem _ (a3 z hz)))
 have hN2 : ∀ z ∈ S2 :: M2 :: Z2,w2.heap.size ≤ z := fun z hz => n2.new z (by
  rcases List.mem_cons.1 hz with rfl | hz
  ·exact List.mem_cons_self
  ·rcases List.mem_cons.1 hz with rfl | hz
   ·exact List.mem_cons_of_mem _ List.mem_cons_self
   ·exact List.mem_cons_of_mem _ (List.mem_cons_of_mem _ (b3 z hz)))
 have hL2 : ∀ z ∈ S1 :: M1 :: Z1,z ≠ L2 := fun z hz e => by
  subst e
  have hl : w3.heap[z]? = _ := h2.log
  have hk : z < w2.heap.size := l1.1 z hz
  rw [n2.below.block z hk] at hl
  rcases List.mem_cons.1 hz with rfl | hz
  ·exact (not90 a1.blk (by decide) _ _ _ hl).2 rfl
  ·rcases List.mem_cons.1 hz with rfl | hz
   ·obtain ⟨ad,hM,_⟩ := a1.map
    exact hM.not_cells hl rfl
   ·exact (a2 z hz _ _ _ hl).2 rfl
 have a1' := (a1.below n2.below)
 refine ⟨Z1,Z2,⟨⟨a1'.below hb,hr,fun y hy => ?_⟩,b1.below hb,fun x hx cs t fr => ?_,fun x hx cs t fr => ?_,fun z hz => ?_,fun z hz => ?_,⟨?_, ?_⟩,⟨?_, ?_⟩⟩,(n1.below.trans ((n2.below.trans (hb.mono hs23)).mono hs12)),fun z hz => ?_⟩
 ·have := hRY y hy
  have h3 := l1.1 S1 List.mem_cons_self
  have h4 := l1.1 M1 (List.mem_cons_of_mem _ List.mem_cons_self)
  have h5 := l1.2
  exact ⟨by omega,by omega,by omega,fun hx => by have := l1.1 y (List.mem_cons_of_mem _ (List.mem_cons_of_mem _ hx));omega,by omega⟩
 ·have hx2 := a1.dsk.lt x hx
  rw [hb.block x (by omega),n2.below.block x hx2]
  exact a2 x hx cs t fr
 ·rw [hb.block x (b1.dsk.lt x hx)]
  exact b2 x hx cs t fr
 ·rcases List.mem_append.1 hz with hz | hz
  ·exact ⟨hL2 z hz,fun h => by have := hN2 z h;have := l1.1 z hz;omega⟩
  ·have := hRY z hz
   exact ⟨by have := l2.2;omega,fun h => by have := l2.1 z h;omega⟩
 ·have := hN2 z hz
  have := l1.2
  omega
 ·have := hN1 S1 List.mem_cons_self
  omega
 ·have := hN1 M1 (List.mem_cons_of_mem _ List.mem_cons_self)
  omega
 ·have := hN2 S2 List.mem_cons_self
  omega
 ·have := hN2 M2 (List.mem_cons_of_mem _ List.mem_cons_self)
  omega
 ·rcases List.mem_append.1 hz with hz | hz
  ·rcases List.mem_append.1 hz with hz | hz
   ·exact hN1 z hz
   ·have := hRY z hz
    omega
  ·have := hN2 z hz
   omega
end
open Go.RowKit Go.Maps
theorem run_appL {w : World} {P : Program} (ty t e : TypeId) (i : TypeInfo) (z : Value) (size bytes : Nat) (ht : P.underlying t = some (.slice e)) (hi : P.info? e = some i) (hz : i.zero = some z) (hs : i.size = size) (hby : i.bytes = bytes) (hzs : z.cells.size = size) (hsz : 0 < size)
  (B : Nat) (v : Value) (n : Nat) (xs : List Value) (hown : w.ownsRow B e size v n xs) (A : Option Addr) (m c : Nat) (news : List Value) (hl : news.length = m * size) (hL : Lies w A news) (h1 : ∀ u ∈ news,u.oneCell' = true) (h63 : n + m ≤ maxLen) (hb2 : (n + m) * bytes ≤ 140737488355328) (hB : B ≤ w.heap.size) :
  ∃ A' c' w',(Builtin.append_ #[t,t] ty #[v, .slice A m c]).run P w = .ok (.slice A' (n + m) c') w' ∧ w'.ownsRow B e size (.slice A' (n + m) c') (n + m) (xs ++ news) ∧ w.grownBy w' v.ownBlock := by
 have hform : ∀ {w' : World} {v' : Value} {k : Nat} {ys : List Value},w'.ownsRow B e size v' k ys → ∃ A' c',v' = .slice A' k c' := by
  intro w' v' k ys h
  rcases h.2 with ⟨h1,h2⟩ | ⟨g,cap,cur,h1,_⟩
  ·subst h2;exact ⟨_,_,h1⟩
  ·exact ⟨_,_,h1⟩
 cases A with
 | none =>
  have hm0 : news = [] := by
   cases news with
   | nil => rfl
   | cons a l => obtain ⟨g,o,hA,_⟩ := hL (by simp);cases hA
  subst hm0
  have hm : m = 0 := by
   rcases Nat.eq_zero_or_pos m with h | h
   ·exact h
   ·have := Nat.mul_pos h hsz;simp at hl;omega
  subst hm
  obtain ⟨A',c',rfl⟩ := hform hown
  refine ⟨A',c',w, ?_,by simpa using hown,World.grownBy.refl w _⟩
  rcases hown.2 with ⟨hv,h2⟩ | ⟨g,cap,cur,hv,_,_,hnc,_⟩
  ·injection hv with e1 e2 e3
   subst e1;subst e3;subst h2
   simp [Builtin.append_,run_underlying ht,sizeOf,typeInfo,hi,Builtin.lenOf,Builtin.firstCells]
  ·injection hv with e1 e2 e3
   subst e1;subst e3
   simp [Builtin.append_,run_underlying ht,sizeOf,typeInfo,hi,Builtin.lenOf,Builtin.firstCells,hnc,storeCells]
 | some ad =>
  have hcells : ∀ j u,news[j]? = some u → w.cell? (ad.add j) = some u := by
   intro j u hu
   obtain ⟨g,o,hA,_,hc⟩ := hL (by have := (List.getElem?_eq_some_iff.1 hu).1;omega)
   injection hA with hA
   subst hA
   rw [add_lit']
   exact hc j u hu
  obtain ⟨v',w',hrun,h2,h3,_⟩ := run_append_own_at (P := P) w B t ty e i z size bytes ht hi hz hs hby hzs hsz v n xs hown ad m c news hl hcells h1 h63 hb2 hB
  obtain ⟨A',c',rfl⟩ := hform h2
  exact ⟨A',c',w',hrun,h2,h3⟩
theorem wpList_appL {w : World} {ops : Array Oper} {rest : List Oper} {o : Oper} {a : Act} {Q : Exit → Act → World → Prop} (hgd : o.guard = none) (s x : Operand) (t e : TypeId)
  (ho : o.op = .call { callee := .builtin .append,args := #[s,x],argTypes := #[t,t] }) (i : TypeInfo) (z : Value) (size bytes : Nat) (ht : Tryz.prog.underlying t = some (.slice e)) (hi : Tryz.prog.info? e = some i) (hz : i.zero = some z) (hs : i.size = size) (hby : i.bytes = bytes) (hzs : z.cells.size = size) (hsz : 0 < size)
  (B : Nat) (v : Value) (hsv : a.eval s = v) (n : Nat) (xs : List Value) (hown : w.ownsRow B e size v n xs) (A : Option Addr) (m c : Nat) (hx : a.eval x = .slice A m c) (news : List Value) (hl : news.length = m * size) (hL : Lies w A news) (h1 : ∀ u ∈ news,u.oneCell' = true) (h63 : n + m ≤ maxLen) (hb2 : (n + m) * bytes ≤ 140737488355328) (hB : B ≤ w.heap.size)
  (hK : ∀ A' c' w',w'.ownsRow B e size (.slice A' (n + m) c') (n + m) (xs ++ news) → w.grownBy w' v.ownBlock → wpList Tryz.prog ops Q rest (a.put o.dst (.slice A' (n + m) c')) w') : wpList Tryz.prog ops Q (o :: rest) a w :=
 wpList_plain hgd fun K hK2 => by
  obtain ⟨A',c',w',hrun,h2,h3⟩ := run_appL (P := Tryz.prog) o.type t e i z size bytes ht hi hz hs hby hzs hsz B v n xs hown A m c news hl hL h1 h63 hb2 hB
  unfold Oper.wp execOp
  simp only [ho,resolve,invoke,builtin,Sem.run_bind,Sem.run_pure,Result.andThen_ok,List.map_toArray,List.map_cons,List.map_nil,hsv,hx,hrun]
  exact hK2 _ _ (hK A' c' w' h2 h3)
theorem icells_one (l : List Int) : ∀ v ∈ icells l,v.oneCell' = true := by
 intro v hv
 unfold icells at hv
 obtain ⟨r,_,rfl⟩ := List.mem_map.1 hv
 rfl
theorem icells_length (l : List Int) : (icells l).length = l.length := by simp [icells]
set_option maxRecDepth 100000 in
set_option maxHeartbeats 1600000 in
theorem clone_ints (A : Option Addr) (l : List Int) (cap : Nat) (w : World) (hn : l.length ≤ 17592186044416) (hL : Lies w A (icells l)) :
  Calls Tryz.prog 60 #[.slice A l.length cap] w fun e w' => ∃ A' c',e = .returned (.slice A' l.length c') ∧ w'.ownsRow w.heap.size 3 1 (.slice A' l.length c') l.length (icells l) ∧ Below w.heap.size w w' := by
 obtain ⟨i0,hi,hz0,hz1,hz2⟩ := info_parts info3
 have hq : ∀ (w : World) (a : Option Addr) (n c n' c' : Nat),(binOp .eql 58 (.slice a n c) (.slice none n' c')).run Tryz.prog w = .ok (.bool a.isNone) w := fun w a n c n' c' => Lib.run_eql_slice_nil w _ _ a n c n' c' Tryz.underlying58
 have hx := icells_length l
 have h1 := icells_one l
 obtain ⟨xs,hxs⟩ : ∃ q,icells l = q := ⟨_,rfl⟩
 obtain ⟨n,hnn⟩ : ∃ q,l.length = q := ⟨_,rfl⟩
 rw [hxs,hnn] at hx
 rw [hxs] at h1 hL ⊢
 rw [hnn] at hn ⊢
 clear hxs hnn
 cases A with
 | none =>
  obtain rfl : n = 0 := by
   rcases Nat.eq_zero_or_pos n with h | h
   ·exact h
   ·obtain ⟨g,o,e,_⟩ := hL (by omega);cases e
  obtain rfl : xs = [] := List.eq_nil_of_length_eq_zero (by omega)
  clear hL h1 hx
  go_enter Tryz.func60,Tryz.ntmps60
  go_wp2
  go_ret
  exact ⟨none,0,rfl,World.ownsRow_nil _ _ _ _,Below.refl _ _⟩
 | some a =>
  have HL := Lib.hid (show ∀ j u,xs[j]? = some u → (w.alloc (.cells #[] 3)).cell? (a.add j) = some u from fun j u hu => by
   obtain ⟨g,o,e,hl,hc⟩ := hL (by have := (List.getElem?_eq_some_iff.1 hu).1;omega)
   injection e with e
   rw [e,add_lit']
   exact ((below_alloc w _).cell (p := ⟨g,o + j,none⟩) hl).trans (hc j u hu))
  have H1 := Lib.hid h1
  have HX := Lib.hid hx
  clear hL h1 hx
  go_enter Tryz.func60,Tryz.ntmps60
  go_wp2_with (at_builtin;refine wpList_append_own _ rfl _ _ 58 rfl w.heap.size 3 i0 _ 1 8 Tryz.underlying58 hi hz0 hz1 hz2 rfl (by decide) _ _ _ rfl (World.ownsRow_made w #[] 0 (Nat.le_refl _) (Nat.zero_le _) rfl) a n cap xs rfl ?c3 HL.out H1.out ?c4 ?c5 ?c6 ?_)
  case c3 => have := HX.out;omega
  case c4 => simp only [maxLen];omega
  case c5 => omega
  case c6 => simp
  intro v' w1 hown hgrow hnil
  obtain ⟨A',c',rfl⟩ := own_form' hown
  go_wp2
  go_ret
  exact ⟨A',c',by simp,by simpa using hown,((Below.refl _ w).alloc (Nat.le_refl _) _).grown hgrow (by simp) (by intro k hk;simp [Value.ownBlock] at hk;omega)⟩
set_option maxRecDepth 100000 in
set_option maxHeartbeats 2000000 in
theorem cut_gen (X : List Nat) (D : Nat) (d : DS) (n : Nat) (A : Option Addr) (cap : Nat) (keep : List Int) (w : World) (h : Dsk w X D d) (hl : Lies w A (icells keep)) (hk : keep.length ≤ 17592186044416) (h1 : 1 ≤ n) (hn : n ≤ 1000) :
  Calls Tryz.prog 25 #[.pointer (some ⟨D,0,none⟩), .int .i64 n, .slice A keep.length cap] w fun e w' => e = .returned (.tuple #[]) ∧ ∃ X',Dsk w' X' D ⟨d.L,d.S,some (n,keep),d.off⟩ ∧ Mv X X' w w' := by
 have KC := clone_ints A keep cap w hk hl
 obtain ⟨gL,cL,vS,vC,cnt,hB,hL,hSr,hC,hgX,hvX⟩ := h.blk
 have HB := Lib.hid hB
 have HL := Lib.hid (And.intro hL hSr)
 have HX := Lib.hid (And.intro hgX hvX)
 have HD := Lib.hid (And.intro h.good (And.intro h.mem h.lt))
 have hm : max (n : Int) 1 = (n : Int) := by omega
 clear h hB hL hSr hC hgX hvX hl
 go_enter Tryz.func25,Tryz.ntmps25
 go_wp2_with (first
  | (go_at_call 60;refine KC.mono ?_;rintro e w1 ⟨A1,c1,rfl,ho,hb⟩;have hB1 := HB.out.below hb;have x2 := hB1.cell 2;have f2 := hB1.frozen 2;simp at x2;have hl := hB1.lt;have HB1 := Lib.hid (And.intro hb ho);clear hb ho hB1 KC))
 go_end0
 have hb := HB1.out.1
 have hB1 := HB.out.below hb
 have ho := HB1.out.2
 have hlt := hb.size
 have hC := Blk.new (w1.setCell ⟨D,2,none⟩ (.pointer (some ⟨w1.heap.size,0,none⟩))) #[.int .i64 n, .slice A1 keep.length c1] 115
 rw [World.size_setCell] at hC
 have hr := World.ownsRow.alloc (own_set ho hB1 (by decide) 2 (.pointer (some ⟨w1.heap.size,0,none⟩))) (.cells #[.int .i64 n, .slice A1 keep.length c1] 115)
 have hA1 : ∀ a,A1 = some a → w.heap.size ≤ a.block ∧ a.block < w1.heap.size := fun a ha => by
  obtain ⟨cs,fr,hc⟩ := Typed.of_row ho a ha
  refine ⟨?_,(Array.getElem?_eq_some_iff.1 hc).1⟩
  rcases ho.2 with ⟨hv,_⟩ | ⟨g,cap,cur,hv,hg,_⟩
  ·simp [ha] at hv
  ·simp only [Value.slice.injEq] at hv
   rw [ha] at hv
   rw [Option.some.inj hv.1]
   exact hg
 refine ⟨rfl,w1.heap.size :: ((A1.map (·.block)).toList ++ X),⟨⟨gL,cL,vS, .pointer (some ⟨w1.heap.size,0,none⟩),cnt,(hB1.set 2 _).alloc _,World.ownsRow.alloc (own_set (own_below HL.out.1 hb) hB1 (by decide) 2 _) _,World.ownsRow.alloc (own_set (own_below HL.out.2 hb) hB1 (by decide) 2 _) _, ?_,List.mem_cons_of_mem _ (List.mem_append_right _ HX.out.1),fun g hg => List.mem_cons_of_mem _ (List.mem_append_right _ (HX.out.2 g hg))⟩,⟨HD.out.1.lasts,HD.out.1.wrote,HD.out.1.small⟩,List.mem_cons_of_mem _ (List.mem_append_right _ HD.out.2.1),fun x hx => ?_⟩, ?_⟩
 ·exact ⟨h1,by omega,by omega,w1.heap.size,A1,c1,rfl,List.mem_cons_self ..,hC,Lies.of_row hr,Typed.of_row hr,fun a ha => List.mem_cons_of_mem _ (List.mem_append_left _ (by simp [ha]))⟩
 ·rcases List.mem_cons.1 hx with rfl | hx
  ·simp
  ·have hx2 : x < w1.heap.size := by
    rcases List.mem_append.1 hx with hx | hx
    ·obtain ⟨a,ha,rfl⟩ : ∃ a,A1 = some a ∧ a.block = x := by simpa using hx
     exact (hA1 a ha).2
    ·have := HD.out.2.2 x hx
     omega
   simp
   omega
 ·have m := ((Mv.of_below X hb).trans (Mv.of_grown (grown_set w1 D 2 (.pointer (some ⟨w1.heap.size,0,none⟩))) HD.out.2.1)).alloc (.cells #[.int .i64 n, .slice A1 keep.length c1] 115)
  exact ⟨m.frm,fun x hx => by
   rcases List.mem_cons.1 hx with rfl | hx
   ·exact .inr hlt
   ·rcases List.mem_append.1 hx with hx | hx
    ·obtain ⟨a,ha,rfl⟩ : ∃ a,A1 = some a ∧ a.block = x := by simpa using hx
     exact .inr (hA1 a ha).1
    ·exact .inl hx⟩
open Go.RowKit
structure St (w0 w : World) (X1 : List Nat) (S1 D1 L1 M1 : Nat) (m1 : StoM) (X2 : List Nat) (S2 D2 L2 M2 : Nat) (m2 : StoM) (Y : List Nat) (R : Nat) (F : List PF) (T : List Bool) : Prop where
 duo : Duo w X1 S1 D1 L1 M1 m1 X2 S2 D2 L2 M2 m2 Y R F T 4
 nw : Nw w0 (((S1 :: M1 :: X1) ++ (R :: Y)) ++ (S2 :: M2 :: X2)) w
 inv : Inv (refM F T 4)
section
variable {w0 w w' : World} {X1 : List Nat} {S1 D1 L1 M1 : Nat} {m1 : StoM} {X2 : List Nat} {S2 D2 L2 M2 : Nat} {m2 : StoM} {Y : List Nat} {R : Nat} {F : List PF} {T : List Bool}
theorem St.swap (h : St w0 w X1 S1 D1 L1 M1 m1 X2 S2 D2 L2 M2 m2 Y R F T) : St w0 w X2 S2 D2 L2 M2 m2 X1 S1 D1 L1 M1 m1 Y R F T :=
 ⟨h.duo.swap,nw_sub h.nw fun z hz => by
  simp only [List.mem_append] at hz ⊢
  rcases hz with (hz | hz) | hz
  ·exact .inr hz
  ·exact .inl (.inr hz)
  ·exact .inl (.inl hz),h.inv⟩
theorem St.below (h : St w0 w X1 S1 D1 L1 M1 m1 X2 S2 D2 L2 M2 m2 Y R F T) (hb : Below w.heap.size w w') : St w0 w' X1 S1 D1 L1 M1 m1 X2 S2 D2 L2 M2 m2 Y R F T := ⟨h.duo.below hb,h.nw.step hb,h.inv⟩
theorem st_do (h : St w0 w X1 S1 D1 L1 M1 m1 X2 S2 D2 L2 M2 m2 Y R F T) (hr : Rdy m1) (a : ActM) (i : Nat) (hok : ActOk a) (hii : i ≤ 1000) :
  Calls Tryz.prog 29 #[.pointer (some ⟨S1,0,none⟩), .pointer (some ⟨R,0,none⟩), .agg (actV a).toArray, .int .i64 i] w fun e w' => ∃ (r : Nat) (F' : List PF) (T' : List Bool) (Z Y' : List Nat),e = .returned (.tuple #[.int .i64 (((actO m1 a i).1 : Nat) : Int), .int .i64 ((r : Nat) : Int)]) ∧ St w0 w' Z S1 D1 L1 M1 (actO m1 a i).2 X2 S2 D2 L2 M2 m2 Y' R F' T' := by
 obtain ⟨r,F',T',hp,hi⟩ := actS_inv h.inv a i
 refine (do_any X1 S1 D1 L1 M1 m1 Y R F F' T T' 4 r i a w h.duo.two hr h.inv hok hii hp).mono ?_
 rintro e w' ⟨rfl,X',Y',ht,hm⟩
 obtain ⟨Z,hd,hm2⟩ := h.duo.step ht hm
 exact ⟨r,F',T',Z,Y',rfl,hd,h.nw.mv hm2.wideR,hi⟩
structure Dk1 (w0 w : World) (X : List Nat) (D : Nat) (ds : DS) : Prop where
 dsk : Dsk w X D ds
 nw : Nw w0 X w
 tb : TB w
 pos : 0 < w.heap.size
 no0 : 0 ∉ X
theorem Dk1.move {X X' : List Nat} {D : Nat} {ds ds' : DS} (h : Dk1 w0 w X D ds) (hd : Dsk w' X' D ds') (hm : Mv X X' w w') : Dk1 w0 w' X' D ds' := by
 obtain ⟨t1,t2,t3⟩ := h.tb.mv hm h.pos h.no0
 exact ⟨hd,h.nw.mv hm,t1,t2,t3⟩
theorem Dk1.below {X : List Nat} {D : Nat} {ds : DS} (h : Dk1 w0 w X D ds) (hb : Below w.heap.size w w') : Dk1 w0 w' X D ds := h.move (h.dsk.below hb) (Mv.of_below X hb)
theorem dk_crash {X : List Nat} {D : Nat} {ds : DS} (h : Dk1 w0 w X D ds) (hs : ds.S = []) (A : Option Addr) (cap : Nat) (keep : List Int) (hl : Lies w A (icells keep)) (ht : Typed w A 3) (hk : keep.length ≤ 9223372036854775807) :
  Calls Tryz.prog 28 #[.pointer (some ⟨D,0,none⟩), .slice A keep.length cap] w fun e w' => e = .returned (.tuple #[]) ∧ Dk1 w0 w' X D ⟨ds.L,[],none,false⟩ := by
 refine (crash_any X D ds A cap keep w h.dsk hl ht hk).mono ?_
 rintro e w' ⟨rfl,hd,hf⟩
 refine ⟨rfl, ?_⟩
 have e1 : (ds.fail keep).L = ds.L := by unfold DS.fail;rw [hs];rfl
 rw [e1] at hd
 exact h.move hd (Mv.of_frm hf)
theorem dk_on {X : List Nat} {D : Nat} {ds : DS} (h : Dk1 w0 w X D ds) (hs : ds.S = []) : Calls Tryz.prog 32 #[.pointer (some ⟨D,0,none⟩)] w fun e w' => e = .returned (.tuple #[]) ∧ Dk1 w0 w' X D ⟨ds.L,[],none,false⟩ := by
 refine (on_any X D ds w h.dsk).mono ?_
 rintro e w' ⟨rfl,hd,hf⟩
 rw [hs] at hd
 exact ⟨rfl,h.move hd (Mv.of_frm hf)⟩
theorem dk_cut {X : List Nat} {D : Nat} {L : List Bs} (h : Dk1 w0 w X D ⟨L,[],none,false⟩) (n : Nat) (A : Option Addr) (cap : Nat) (keep : List Int) (hl : Lies w A (icells keep)) (hk : keep.length ≤ 17592186044416) (h1 : 1 ≤ n) (hn : n ≤ 1000) :
  Calls Tryz.prog 25 #[.pointer (some ⟨D,0,none⟩), .int .i64 n, .slice A keep.length cap] w fun e w' => e = .returned (.tuple #[]) ∧ ∃ X',Dk1 w0 w' X' D ⟨L,[],some (n,keep),false⟩ := by
 refine (cut_gen X D _ n A cap keep w h.dsk hl hk h1 hn).mono ?_
 rintro e w' ⟨rfl,X',hd,hm⟩
 exact ⟨rfl,X',h.move hd hm⟩
theorem dk_mount1 {X : List Nat} {D : Nat} {L : List Bs} {a b : StoM} {n : Nat} {keep : List Int} (h : Dk1 w0 w X D ⟨L,[],some (n,keep),false⟩) (ha : Inv a) (oa : Od a) (hb : Inv b) (ob : Od b) (he : Ends a b L) (hn : 1 ≤ n) (hL : 1 ≤ L.length) :
  Calls Tryz.prog 24 #[.pointer (some ⟨D,0,none⟩)] w fun e w' => ∃ (u v : Value) (X' : List Nat) (L' : List Bs) (ct : Option (Nat × List Int)) (o : Bool),e = .returned (.tuple #[u,v]) ∧ Dk1 w0 w' X' D ⟨L',[],ct,o⟩ ∧ Ends a b L' := by
 obtain ⟨L',ct,o,h1,h2⟩ := ends_again ha oa hb ob he n hn keep
 refine (mount_any X D _ w h.dsk rfl hL (by simp) h.tb h.pos h.no0).mono ?_
 rintro e w' ⟨X',hd,hm,hv⟩
 rw [h1] at hd
 have hk := h.move hd hm
 revert hv
 cases (mountM ⟨L,[],some (n,keep),false⟩).2.2 with
 | none =>
  rintro rfl
  exact ⟨_,_,X',L',ct,o,rfl,hk,h2⟩
 | some p =>
  obtain ⟨F',T'⟩ := p
  rintro ⟨S,Lg,M,rfl,_⟩
  exact ⟨_,_,X',L',ct,o,rfl,hk,h2⟩
theorem dk_mount2 {X : List Nat} {D : Nat} {L : List Bs} {a b : StoM} (h : Dk1 w0 w X D ⟨L,[],none,false⟩) (ha : Inv a) (oa : Od a) (hb : Inv b) (ob : Od b) (hm : a.most = b.most) (he : Ends a b L) (hL : 1 ≤ L.length) :
  Calls Tryz.prog 24 #[.pointer (some ⟨D,0,none⟩)] w fun e w' => ∃ (X' : List Nat) (S Lg M : Nat) (m : StoM),e = .returned (.tuple #[.pointer (some ⟨S,0,none⟩), .int .i64 0]) ∧ Sto w' X' S D Lg M m ∧ Rdy m ∧ (sightB m = sightB a ∨ sightB m = sightB b) ∧ Below w0.heap.size w0 w' := by
 obtain ⟨L',F',T',h1,h2,h3,h4⟩ := ends_mount ha oa hb ob hm he
 refine (mount_any X D _ w h.dsk rfl hL (by simp) h.tb h.pos h.no0).mono ?_
 rintro e w' ⟨X',hd,hmv,hv⟩
 have hk := h.move hd hmv
 rw [h1] at hv hk
 have hvis : (⟨L,[],none,false⟩ : DS).vis = L := rfl
 rw [hvis,h3] at hv
 obtain ⟨S,Lg,M,rfl,hs,_⟩ := hv
 refine ⟨X',S,Lg,M,_,rfl,hs,h2.rdy, ?_,hk.nw.below⟩
 rcases h4 with h4 | h4
 ·exact .inl (same_sight ha.names h4)
 ·exact .inr (same_sight hb.names h4)
theorem ends_len {a b : StoM} {L : List Bs} (ha : Inv a) (hb : Inv b) (h : Ends a b L) : 1 ≤ L.length := by
 have h1 := ha.b.ll
 have h2 := hb.b.ll
 rcases h with h | h | h
 ·have := h.len;omega
 ·have := h.bd;omega
 ·rw [h];omega
theorem st_cut (h : St w0 w X1 S1 D1 L1 M1 m1 X2 S2 D2 L2 M2 m2 Y R F T) (hi : Inv m1) (n : Nat) (A : Option Addr) (cap : Nat) (keep : List Int) (hl : Lies w A (icells keep)) (hk : keep.length ≤ 17592186044416) (h1 : 1 ≤ n) (hn : n ≤ 1000) :
  Calls Tryz.prog 25 #[.pointer (some ⟨D1,0,none⟩), .int .i64 n, .slice A keep.length cap] w fun e w' => e = .returned (.tuple #[]) ∧ ∃ Z,St w0 w' Z S1 D1 L1 M1 (atC m1 (some (n,keep))) X2 S2 D2 L2 M2 m2 Y R F T := by
 refine (cut_gen X1 D1 m1.ds n A cap keep w h.duo.two.sto.dsk hl hk h1 hn).mono ?_
 rintro e w' ⟨rfl,X',hd,hm⟩
 refine ⟨rfl, ?_⟩
 have hs := h.duo.two.sto.disk hd hm
 have e1 : (⟨⟨m1.ds.L,m1.ds.S,some (n,keep),m1.ds.off⟩,m1.F,m1.T,m1.most,m1.off⟩ : StoM) = atC m1 (some (n,keep)) := by
  unfold atC
  rw [hi.syn,hi.on,hi.up]
 rw [e1] at hs
 have hm2 : Mv (S1 :: M1 :: X1) (S1 :: M1 :: X') w w' := (hm.cons M1).cons S1
 obtain ⟨Z,z1,z2⟩ := h.duo.step (h.duo.two.real hm2 hs) hm2.wideR
 exact ⟨Z,z1,h.nw.mv z2.wideR,h.inv⟩
theorem at_rdy (h : Inv m1) (ct : Option (Nat × List Int)) : Rdy (atC m1 ct) :=
 ⟨⟨h.b.ent,h.b.nam,h.b.siz,h.b.exl,h.b.exb,h.b.len,h.b.mo,h.b.tl,h.b.ll,by show (0 : Nat) ≤ 500000;omega⟩,rfl,rfl,h.sum,h.entries⟩
theorem St.disk (h : St w0 w X1 S1 D1 L1 M1 m1 X2 S2 D2 L2 M2 m2 Y R F T) : Dk1 w0 w X1 D1 m1.ds :=
 ⟨h.duo.two.sto.dsk,nw_sub h.nw fun _ hz => List.mem_append_left _ (List.mem_append_left _ (List.mem_cons_of_mem _ (List.mem_cons_of_mem _ hz))),h.duo.two.sto.tb,h.duo.two.sto.pos,h.duo.two.sto.apart.2.2.2⟩
structure Fit (m : StoM) : Prop where
 inv : Inv m
 od : Od m
 most : m.most = 4
theorem Fit.act {m : StoM} (h : Fit m) (a : ActM) (i : Nat) : Fit (actO m a i).2 := by
 obtain ⟨h1,h2,_⟩ := actO_inv h.inv a i
 exact ⟨h1,actO_od h.inv h.od a i,h2.trans h.most⟩
end
open Go.RowKit Go.Maps
theorem World.le_alloc (w : World) (o : Obj) : w.heap.size ≤ (w.alloc o).heap.size := by simp
theorem info26 : (Tryz.prog.info? 26).map (fun i => i.size) = some 5 := by kernel_rfl
theorem size24 (w : World) : (sizeOf (Tryz.prog.elem 24)).run Tryz.prog w = .ok 5 w := by
 obtain ⟨i0,hi,h1⟩ : ∃ i0,Tryz.prog.info? 26 = some i0 ∧ i0.size = 5 := by
  have h := info26
  cases hx : Tryz.prog.info? 26 with
  | none => rw [hx] at h;cases h
  | some i => rw [hx] at h;exact ⟨i,rfl,Option.some.inj h⟩
 rw [show Tryz.prog.elem 24 = 26 by kernel_rfl]
 simp [sizeOf,typeInfo,hi,h1]
theorem cut24h (A : Option Addr) (n cap hi : Nat) (w : World) (h0 : 0 < hi) (hc : hi ≤ cap) : (Instr.slice 24 (.slice A n cap) none (some (.int .i64 (hi : Int))) none).run Tryz.prog w = .ok (.slice A hi cap) w := by
 rw [run_slice_h (P := Tryz.prog) w 24 A n cap (by kernel_rfl) .i64 hi (by omega) (by omega),size24]
 cases A <;> simp [Result.andThen,sliced]
 all_goals (try (intro _;rfl))
set_option maxRecDepth 100000 in
set_option maxHeartbeats 16000000 in
theorem fileCrash_any (A : Option Addr) (ac : List ActM) (cap : Nat) (Ak : Option Addr) (kp : List Int) (cK : Nat) (Am : Option Addr) (mo : List Int) (cM : Nat) (w : World) (hA : Lies w A (acells ac)) (hok : ∀ a ∈ ac,ActOk a) (hl : ac.length ≤ maxLen) (hcap : ac.length ≤ cap) (hK : Lies w Ak (icells kp)) (hkl : kp.length ≤ 17592186044416) (hM : Lies w Am (icells mo)) (hml : mo.length ≤ 17592186044416) (hT : TB w) (hw : 0 < w.heap.size) :
  Calls Tryz.prog 8 #[.slice A ac.length cap, .slice Ak kp.length cK, .slice Am mo.length cM] w fun e w' => e = .returned (.bool true) ∧ Below w.heap.size w w' := by
 have K0 := speaks_any w hT hw
 have hlb : ac.length ≤ 9223372036854775807 := by unfold maxLen at hl;omega
 obtain ⟨al,hal⟩ : ∃ q,ac.length = q := ⟨_,rfl⟩
 rw [hal] at hlb hcap ⊢
 by_cases hz : al = 0
 ·subst hz
  clear hA hok hl hK hkl hM hml hT hw hal
  go_enter Tryz.func8,Tryz.ntmps8
  go_wp2_with (first
   | (go_at_call 10;refine K0.mono ?_;rintro e w1 ⟨rfl,hb1⟩;have HB1 := Lib.hid hb1;clear hb1 K0))
  go_ret
  exact ⟨rfl,HB1.out⟩
 ·obtain ⟨n,hn⟩ : ∃ q,min al 8 = q := ⟨_,rfl⟩
  have hmin : min (al : Int) 8 = (n : Int) := by omega
  have hn1 : 1 ≤ n := by omega
  have hn0 : ((n : Int) == 0) = false := by simp;omega
  have hn8 : n ≤ 8 := by omega
  have hna : n ≤ al := by omega
  obtain ⟨g,o,rfl,hgl,hcs⟩ := hA (by rw [acells_length];omega)
  have hsl := fun (w : World) => cut24h (some ⟨g,o,none⟩) al cap n w (by omega) (by omega)
  have hwn : IntKind.i64.wrap ((n : Int) - 1) = (n : Int) - 1 := wrI (by omega) (by omega)
  have HC := Lib.hid (And.intro hgl hcs)
  have HAL := Lib.hid (And.intro hal hn)
  have HOK := Lib.hid hok
  have HA := Lib.hid (And.intro hK hM)
  have HKL := Lib.hid (And.intro hkl hml)
  have HTB := Lib.hid (And.intro hT hw)
  have mixed := mixedT
  clear hal hok hA hK hM hkl hml hl hT hw hn hgl hcs
  go_enter Tryz.func8,Tryz.ntmps8
  go_upto_block 0 with (first
   | (go_at_call 10;refine K0.mono ?_;rintro e w1 ⟨rfl,hb1⟩;have HB1 := Lib.hid hb1;clear hb1 K0))
  have HT1 := Lib.hid (And.intro (HTB.out.1.below HTB.out.2 HB1.out) (Nat.lt_of_lt_of_le HTB.out.2 HB1.out.size))
  go_wp2_with (fail)
  go_loopw [7] (fun cv wr => ∃ c : Nat,1 ≤ c ∧ c ≤ 40 ∧ cv = .int .i64 c ∧ Below w1.heap.size w1 wr) (fun cv _ => 40 - (intOf cv).toNat)
  case atStart => exact ⟨1,Nat.le_refl _,by decide,rfl,Below.refl _ _⟩
  case round =>
   rename World => WA
   obtain ⟨c,hc1,hc40,rfl,hbc⟩ := hrel
   by_cases hcl : c < 40
   ·have c1 : (c : Int) < 40 := by omega
    have KM1 := made_any 40 4 WA (by decide) (by decide) (by decide) (by decide) (HT1.out.1.below HT1.out.2 hbc) (Nat.lt_of_lt_of_le HT1.out.2 hbc.size)
    have KM2 := fun (w2 : World) (hb : Below WA.heap.size WA w2) => made_any 40 4 w2 (by decide) (by decide) (by decide) (by decide) ((HT1.out.1.below HT1.out.2 hbc).below (Nat.lt_of_lt_of_le HT1.out.2 hbc.size) hb) (Nat.lt_of_lt_of_le (Nat.lt_of_lt_of_le HT1.out.2 hbc.size) hb.size)
    have HKM := Lib.hid KM2
    have KN := fun (w1 : World) => rnew_some 40 4 w1 (by decide) (by decide) (by decide) (by decide)
    have hwr : 0 < WA.heap.size := Nat.lt_of_lt_of_le HT1.out.2 hbc.size
    have HBC := Lib.hid (And.intro hbc hwr)
    clear hbc KM2 hwr
    go_upto_block 2 with (first
     | (go_at_call 27;refine KN2.mono ?_;rintro e w4 ⟨R,Y3,rfl,hrs,hb3,hR3,hY3⟩;have H4 := Lib.hid (duo_start HBC.out.2 H2.out.1 H2.out.2 H3.out.1 H3.out.2 hrs hb3 hR3 hY3);clear hrs hb3 hR3 hY3 KN2)
     | (go_at_call 13;refine KM1.mono ?_;rintro e w2 ⟨X1,D1,S1,Lg1,M1,rfl,hst,hnw⟩;have KM2 := HKM.out w2 hnw.below;have H2 := Lib.hid (And.intro hst hnw);clear hst hnw KM1)
     | (go_at_call 13;refine KM2.mono ?_;rintro e w3 ⟨X2,D2,S2,Lg2,M2,rfl,hst,hnw⟩;have KN2 := KN w3;have H3 := Lib.hid (And.intro hst hnw);clear hst hnw KM2))
    go_cut [15] from 55 to 78 (fun _ wx => ∃ X1 X2 m Y F T,St WA wx X1 S1 D1 Lg1 M1 m X2 S2 D2 Lg2 M2 m Y R F T ∧ Fit m)
    case first =>
     go_wp2_with (fail)
     go_loopw [15] (fun iv wx => ∃ (k : Nat) (X1 X2 : List Nat) (m : StoM) (Y : List Nat) (F : List PF) (T : List Bool),k ≤ n - 1 ∧ iv = .int .i64 k ∧ St WA wx X1 S1 D1 Lg1 M1 m X2 S2 D2 Lg2 M2 m Y R F T ∧ Fit m) (fun iv _ => n - (intOf iv).toNat)
     case atStart =>
      obtain ⟨Z1,Z2,hd,hn⟩ := H4.out
      exact ⟨0,Z1,Z2,_,Y3,_,_,Nat.zero_le _,rfl,⟨hd,hn,inv_new 40 4 (by decide) (by decide) (by decide) (by decide)⟩,inv_fresh 40 4 (by decide) (by decide) (by decide) (by decide),od_fresh 40 4 (by decide) (by decide) (by decide),rfl⟩
     case round =>
      obtain ⟨k,X1',X2',m,Y',F,T,hk,rfl,hst,hf⟩ := hrel
      have k0 : (0 : Int) ≤ (k : Int) := by omega
      by_cases hk1 : k < n - 1
      ·have k1 : (k : Int) < (n : Int) - 1 := by omega
       have k2 : (k : Int) < (n : Int) := by omega
       have kc : k < ac.length := by rw [HAL.out.1];omega
       have hbw : Below w.heap.size w wr := HB1.out.trans ((HBC.out.1.trans (hst.nw.below.mono HBC.out.1.size)).mono HB1.out.size)
       obtain ⟨d0,d1,d2,d3,d4⟩ := acells_at ac k kc
       have e0 := HC.out.2 _ _ d0
       have e1 := HC.out.2 _ _ d1
       have e2 := HC.out.2 _ _ d2
       have e3 := HC.out.2 _ _ d3
       have e4 := HC.out.2 _ _ d4
       rw [← Nat.add_assoc] at e1 e2 e3 e4
       have c0 := (hbw.cell (p := ⟨g,o + k * 5,none⟩) HC.out.1).trans e0
       have c1 := (hbw.cell (p := ⟨g,o + k * 5 + 1,none⟩) HC.out.1).trans e1
       have c2 := (hbw.cell (p := ⟨g,o + k * 5 + 2,none⟩) HC.out.1).trans e2
       have c3 := (hbw.cell (p := ⟨g,o + k * 5 + 3,none⟩) HC.out.1).trans e3
       have c4 := (hbw.cell (p := ⟨g,o + k * 5 + 4,none⟩) HC.out.1).trans e4
       have hgl := Nat.lt_of_lt_of_le HC.out.1 hbw.size
       have hok := HOK.out _ (List.getElem_mem kc)
       obtain ⟨a,ha⟩ : ∃ q,ac[k] = q := ⟨_,rfl⟩
       rw [ha] at c0 c1 c2 c3 c4 e0 e1 e2 e3 e4 hok
       have KD1 := st_do hst hf.inv.rdy a k hok (by omega)
       have KD2 := fun (w5 : World) (Z Y5 : List Nat) (F5 : List PF) (T5 : List Bool) (h5 : St WA w5 Z S1 D1 Lg1 M1 (actO m a k).2 X2' S2 D2 Lg2 M2 m Y5 R F5 T5) => st_do h5.swap hf.inv.rdy a k hok (by omega)
       have hf2 := hf.act a k
       obtain ⟨O,hO⟩ : ∃ q,actO m a k = q := ⟨_,rfl⟩
       simp only [hO] at KD1 KD2 hf2
       obtain ⟨wh,hwh⟩ : ∃ q,a.what = q := ⟨_,rfl⟩
       obtain ⟨NM,hNM⟩ : ∃ q,mk a.name = q := ⟨_,rfl⟩
       obtain ⟨DM,hDM⟩ : ∃ q,mk a.dest = q := ⟨_,rfl⟩
       obtain ⟨nn,hnn⟩ : ∃ q,a.n = q := ⟨_,rfl⟩
       obtain ⟨bb,hbb⟩ : ∃ q,a.b = q := ⟨_,rfl⟩
       simp only [actV,hwh,hNM,hDM,hnn,hbb] at KD1 KD2 c0 c1 c2 c3 c4 e0 e1 e2 e3 e4
       have HE := Lib.hid (And.intro e0 (And.intro e1 (And.intro e2 (And.intro e3 e4))))
       have HKD := Lib.hid KD2
       have HF := Lib.hid hf2
       have hB1 := Lib.hid hbw
       clear e0 e1 e2 e3 e4 KD2 hf2 hbw hst hf d0 d1 d2 d3 d4 hok ha hO hwh hNM hDM hnn hbb kc
       go_wp2_with (first
        | (go_at_call 29;refine KD1.mono ?_;rintro e w5 ⟨r5,F5,T5,Z5,Y5,rfl,hst5⟩;have KD2 := HKD.out w5 Z5 Y5 F5 T5 hst5;have hbw5 := HB1.out.trans ((HBC.out.1.trans (hst5.nw.below.mono HBC.out.1.size)).mono HB1.out.size);have c0 := (hbw5.cell (p := ⟨g,o + k * 5,none⟩) HC.out.1).trans HE.out.1;have c1 := (hbw5.cell (p := ⟨g,o + k * 5 + 1,none⟩) HC.out.1).trans HE.out.2.1;have c2 := (hbw5.cell (p := ⟨g,o + k * 5 + 2,none⟩) HC.out.1).trans HE.out.2.2.1;have c3 := (hbw5.cell (p := ⟨g,o + k * 5 + 3,none⟩) HC.out.1).trans HE.out.2.2.2.1;have c4 := (hbw5.cell (p := ⟨g,o + k * 5 + 4,none⟩) HC.out.1).trans HE.out.2.2.2.2;have hgl := Nat.lt_of_lt_of_le HC.out.1 hbw5.size;clear hst5 hbw5 KD1)
        | (go_at_call 29;refine KD2.mono ?_;rintro e w6 ⟨r6,F6,T6,Z6,Y6,rfl,hst6⟩;have H6 := Lib.hid hst6;clear hst6 KD2))
       go_roundw
       case rel => exact ⟨k + 1,Z5,Z6,_,Y6,F6,T6,by omega,by go_num,H6.out.swap,HF.out⟩
       case measure => simp [intOf];omega
      ·have k1 : ¬ ((k : Int) < (n : Int) - 1) := by omega
       have HST := Lib.hid (And.intro hst hf)
       clear hst hf
       go_wp2_with (fail)
       go_meet
       exact ⟨X1',X2',m,Y',F,T,HST.out⟩
    case rest =>
     obtain ⟨X1',X2',m,Y',F,T,hst,hf⟩ := hcut
     obtain ⟨i3,hi0,hi1,hi2,hi3⟩ := info_parts info3
     obtain ⟨j,hj⟩ : ∃ j,n = j + 1 := ⟨n - 1,by omega⟩
     have hwj : IntKind.i64.wrap ((n : Int) - 1) = (j : Int) := by rw [hwn];omega
     have j0 : (0 : Int) ≤ (j : Int) := by omega
     have j1 : (j : Int) < (n : Int) := by omega
     have kc : j < ac.length := by rw [HAL.out.1];omega
     have KS1 := sight_any X1' S1 D1 Lg1 M1 m wc hst.duo.two.sto hf.inv.rdy
     obtain ⟨d0,d1,d2,d3,d4⟩ := acells_at ac j kc
     have e0 := HC.out.2 _ _ d0
     have e1 := HC.out.2 _ _ d1
     have e2 := HC.out.2 _ _ d2
     have e3 := HC.out.2 _ _ d3
     have e4 := HC.out.2 _ _ d4
     rw [← Nat.add_assoc] at e1 e2 e3 e4
     have hok := HOK.out _ (List.getElem_mem kc)
     obtain ⟨a,ha⟩ : ∃ q,ac[j] = q := ⟨_,rfl⟩
     rw [ha] at e0 e1 e2 e3 e4 hok
     have hf2 := hf.act a j
     have KD2 := fun (w5 : World) (h5 : St WA w5 X1' S1 D1 Lg1 M1 m X2' S2 D2 Lg2 M2 m Y' R F T) => st_do h5.swap hf.inv.rdy a j hok (by omega)
     have KD3 := fun (w9 : World) (Z9 X9 Y9 : List Nat) (F9 : List PF) (T9 : List Bool) (m9 : StoM) (h9 : St WA w9 Z9 S1 D1 Lg1 M1 (atC m (some (c,kp))) X9 S2 D2 Lg2 M2 m9 Y9 R F9 T9) => st_do h9 (at_rdy hf.inv _) a j hok (by omega)
     have hcr := act_crash hf.inv hf.od hst.duo.two.sto.dsk.good a j c hc1 kp
     obtain ⟨O,hO⟩ : ∃ q,actO m a j = q := ⟨_,rfl⟩
     simp only [hO] at KD2 hf2 hcr
     obtain ⟨P,hP⟩ : ∃ q,actO (atC m (some (c,kp))) a j = q := ⟨_,rfl⟩
     simp only [hP] at KD3 hcr
     obtain ⟨wh,hwh⟩ : ∃ q,a.what = q := ⟨_,rfl⟩
     obtain ⟨NM,hNM⟩ : ∃ q,mk a.name = q := ⟨_,rfl⟩
     obtain ⟨DM,hDM⟩ : ∃ q,mk a.dest = q := ⟨_,rfl⟩
     obtain ⟨nn,hnn⟩ : ∃ q,a.n = q := ⟨_,rfl⟩
     obtain ⟨bb,hbb⟩ : ∃ q,a.b = q := ⟨_,rfl⟩
     simp only [actV,hwh,hNM,hDM,hnn,hbb] at KD2 KD3 e0 e1 e2 e3 e4
     obtain ⟨PT,hPT⟩ : ∃ q,P.1 = q := ⟨_,rfl⟩
     simp only [hPT] at KD3 hcr
     obtain ⟨WAS,hWAS⟩ : ∃ q,mk (sightB m) = q := ⟨_,rfl⟩
     obtain ⟨THEN,hTHEN⟩ : ∃ q,mk (sightB O.2) = q := ⟨_,rfl⟩
     rw [hWAS] at KS1
     have KS2 := fun (w6 : World) (X6 X9 Y6 : List Nat) (F6 : List PF) (T6 : List Bool) (h6 : St WA w6 X6 S2 D2 Lg2 M2 O.2 X9 S1 D1 Lg1 M1 m Y6 R F6 T6) => sight_any X6 S2 D2 Lg2 M2 O.2 w6 h6.duo.two.sto hf2.inv.rdy
     rw [hTHEN] at KS2
     have KC := fun (w8 : World) (X8 X9 Y8 : List Nat) (F8 : List PF) (T8 : List Bool) (A8 : Option Addr) (c8 : Nat) (h8 : St WA w8 X8 S1 D1 Lg1 M1 m X9 S2 D2 Lg2 M2 O.2 Y8 R F8 T8) (hl8 : Lies w8 A8 (icells kp)) => st_cut h8 hf.inv c A8 c8 kp hl8 HKL.out.1 hc1 (by omega)
     have HE := Lib.hid (And.intro e0 (And.intro e1 (And.intro e2 (And.intro e3 e4))))
     have HKD2 := Lib.hid KD2
     have HKD3 := Lib.hid KD3
     have HKS2 := Lib.hid KS2
     have HKC := Lib.hid KC
     have HCR := Lib.hid hcr
     have HF := Lib.hid (And.intro hf hf2)
     have HST := Lib.hid hst
     have HSG := Lib.hid (And.intro hWAS hTHEN)
     have HIC := Lib.hid (show (icells kp).length = kp.length * 1 ∧ (∀ v ∈ icells kp,v.oneCell' = true) ∧ 0 + kp.length ≤ maxLen ∧ (0 + kp.length) * 8 ≤ 140737488355328 from ⟨by rw [icells_length];omega,icells_one kp,by have := HKL.out.1;unfold maxLen;omega,by have := HKL.out.1;omega⟩)
     have HW : ∀ v,Below WA.heap.size WA v → Below w.heap.size w v := fun v hv => HB1.out.trans ((HBC.out.1.trans (hv.mono HBC.out.1.size)).mono HB1.out.size)
     have HHW := Lib.hid HW
     clear HW hwn KD2 KD3 KS2 KC e0 e1 e2 e3 e4 d0 d1 d2 d3 d4 hcr hf hf2 hst hok kc ha hO hP hPT hwh hNM hDM hnn hbb hWAS hTHEN hj
     go_upto_region 24 with (first
      | (go_at_call 31;refine KS1.mono ?_;rintro e w5 ⟨rfl,hb5⟩;have hst5 := HST.out.below hb5;have KD2 := HKD2.out w5 hst5;have hbw5 := HHW.out w5 hst5.nw.below;have c0 := (hbw5.cell (p := ⟨g,o + j * 5,none⟩) HC.out.1).trans HE.out.1;have c1 := (hbw5.cell (p := ⟨g,o + j * 5 + 1,none⟩) HC.out.1).trans HE.out.2.1;have c2 := (hbw5.cell (p := ⟨g,o + j * 5 + 2,none⟩) HC.out.1).trans HE.out.2.2.1;have c3 := (hbw5.cell (p := ⟨g,o + j * 5 + 3,none⟩) HC.out.1).trans HE.out.2.2.2.1;have c4 := (hbw5.cell (p := ⟨g,o + j * 5 + 4,none⟩) HC.out.1).trans HE.out.2.2.2.2;have hgl := Nat.lt_of_lt_of_le HC.out.1 hbw5.size;clear hst5 hbw5 KS1 hb5)
      | (go_at_call 29;refine KD2.mono ?_;rintro e w6 ⟨r6,F6,T6,Z6,Y6,rfl,hst6⟩;have KS2 := HKS2.out w6 Z6 X1' Y6 F6 T6 hst6;have H6 := Lib.hid hst6;clear hst6 KD2 c0 c1 c2 c3 c4 hgl)
      | (go_at_call 31;refine KS2.mono ?_;rintro e w7 ⟨rfl,hb7⟩;have H7 := Lib.hid (H6.out.below hb7);clear hb7 KS2;have HX8 := Lib.hid (World.ownsRow_made (e := 3) (size := 1) w7 #[] 0 (Nat.le_refl _) (Nat.zero_le _) rfl);have HX8b := Lib.hid (HA.out.1.below (Nat.le_refl _) ((HHW.out w7 H7.out.nw.below).alloc (HHW.out w7 H7.out.nw.below).size (.cells #[] 3)));have HCO := Lib.hid (fun (A8 : Option Addr) (c8 : Nat) (w8 : World) (hr8 : w8.ownsRow w7.heap.size 3 1 (.slice A8 (0 + kp.length) c8) (0 + kp.length) ([] ++ icells kp)) (hg8 : (w7.alloc (.cells #[] 3)).grownBy w8 (some w7.heap.size)) => HKC.out w8 _ _ _ _ _ A8 c8 (H7.out.below (((Below.refl _ w7).alloc (Nat.le_refl _) (.cells #[] 3)).grown hg8 (by simp) (by intro k hk;simp at hk;omega))).swap (Lies.of_row hr8)))
      | (at_builtin;refine wpList_appL rfl (.tmp 96) (.tmp 97) 58 3 rfl i3 _ 1 8 Tryz.underlying58 hi0 hi1 hi2 hi3 rfl (by decide) w7.heap.size _ rfl 0 [] HX8.out Ak kp.length cK rfl (icells kp) HIC.out.1 HX8b.out HIC.out.2.1 HIC.out.2.2.1 HIC.out.2.2.2 (World.le_alloc w7 _) ?_;intro A8 c8 w8 hr8 hg8;have KC := HCO.out A8 c8 w8 hr8 hg8;clear hr8 hg8;rw [Nat.zero_add])
      | (go_at_call 25;refine KC.mono ?_;rintro e w9 ⟨rfl,Z9,hst9⟩;have KD3 := HKD3.out w9 _ _ _ _ _ _ hst9;have hbw9 := HHW.out w9 hst9.nw.below;have c0 := (hbw9.cell (p := ⟨g,o + j * 5,none⟩) HC.out.1).trans HE.out.1;have c1 := (hbw9.cell (p := ⟨g,o + j * 5 + 1,none⟩) HC.out.1).trans HE.out.2.1;have c2 := (hbw9.cell (p := ⟨g,o + j * 5 + 2,none⟩) HC.out.1).trans HE.out.2.2.1;have c3 := (hbw9.cell (p := ⟨g,o + j * 5 + 3,none⟩) HC.out.1).trans HE.out.2.2.2.1;have c4 := (hbw9.cell (p := ⟨g,o + j * 5 + 4,none⟩) HC.out.1).trans HE.out.2.2.2.2;have hgl := Nat.lt_of_lt_of_le HC.out.1 hbw9.size;clear hst9 hbw9 KC)
      | (go_at_call 29;refine KD3.mono ?_;rintro e wA ⟨rA,FA,TA,ZA,YA,rfl,hstA⟩;have HD := Lib.hid hstA.disk;clear hstA KD3 c0 c1 c2 c3 c4 hgl))
     obtain ⟨dsP,hdsP⟩ : ∃ q,P.2.ds = q := ⟨_,rfl⟩
     have hcr := HCR.out
     have hdk := HD.out
     have hff := HF.out
     have hsg := HSG.out
     rw [hdsP] at hcr hdk
     obtain ⟨fa,fo⟩ := hff
     obtain ⟨O2,hO2⟩ : ∃ q,O.2 = q := ⟨_,rfl⟩
     rw [hO2] at fo hcr hsg
     obtain ⟨hS,hcase⟩ := hcr
     have HSG2 := Lib.hid hsg
     clear HD HCR HF HSG HKC HKS2 HKD3 HKD2 HST HE hsg hO2 hdsP HKM H2 H3 H4 H6 H7 HX8 HX8b HCO KN
     obtain ⟨q3,hq3,hand⟩ := and_small (c : Int) 3 (by omega)
     rw [show ((3 : Nat) : Int) = 3 from rfl] at hand
     have hadd : IntKind.i64.wrap (1 + (q3 : Int)) = ((q3 + 1 : Nat) : Int) := by rw [wrI (by omega) (by omega)];omega
     obtain ⟨n3,hn3⟩ : ∃ q,q3 + 1 = q := ⟨_,rfl⟩
     rw [hn3] at hadd
     have hn31 : 1 ≤ n3 ∧ n3 ≤ 4 := by omega
     have HN3 := Lib.hid hn31
     have HIM := Lib.hid (show (icells mo).length = mo.length * 1 ∧ (∀ v ∈ icells mo,v.oneCell' = true) ∧ 0 + mo.length ≤ maxLen ∧ (0 + mo.length) * 8 ≤ 140737488355328 from ⟨by rw [icells_length];omega,icells_one mo,by have := HKL.out.2;unfold maxLen;omega,by have := HKL.out.2;omega⟩)
     obtain ⟨LL,hLL⟩ : ∃ q,dsP.L = q := ⟨_,rfl⟩
     rw [hLL] at hcase
     rcases hcase with ⟨hne,hL⟩ | ⟨h7,hE⟩
     ·have hn7 : ¬ ((PT : Int) = 7) := by omega
      have HEN := Lib.hid (show Fit O2 ∧ Fit O2 ∧ Ends O2 O2 LL from ⟨fo,fo, .inr (.inr hL)⟩)
      have HDP := Lib.hid (And.intro hdk hS)
      have KCR := fun (w8 : World) (A8 : Option Addr) (c8 : Nat) (h8 : Dk1 WA w8 ZA D1 dsP) (hl8 : Lies w8 A8 (icells kp)) (ht8 : Typed w8 A8 3) => dk_crash h8 hS A8 c8 kp hl8 ht8 (by have := HKL.out.1;omega)
      rw [hLL] at KCR
      have KON1 := fun (w8 : World) (h8 : Dk1 WA w8 ZA D1 ⟨LL,[],none,false⟩) => dk_on h8 rfl
      have HX8 := Lib.hid (World.ownsRow_made (e := 3) (size := 1) wA #[] 0 (Nat.le_refl _) (Nat.zero_le _) rfl)
      have HX8b := Lib.hid (HA.out.1.below (Nat.le_refl _) ((HHW.out wA hdk.nw.below).alloc (HHW.out wA hdk.nw.below).size (.cells #[] 3)))
      have HCO := Lib.hid (fun (A8 : Option Addr) (c8 : Nat) (w8 : World) (hr8 : w8.ownsRow wA.heap.size 3 1 (.slice A8 (0 + kp.length) c8) (0 + kp.length) ([] ++ icells kp)) (hg8 : (wA.alloc (.cells #[] 3)).grownBy w8 (some wA.heap.size)) => KCR w8 A8 c8 (hdk.below (((Below.refl _ wA).alloc (Nat.le_refl _) (.cells #[] 3)).grown hg8 (by simp) (by intro k hk;simp at hk;omega))) (Lies.of_row hr8) (Typed.of_row hr8))
      have HKON1 := Lib.hid KON1
      clear hL hne fa fo hdk hS KCR KON1 hLL
      go_upto_region 27 with (first
       | (at_builtin;refine wpList_appL rfl (.tmp 119) (.tmp 120) 58 3 rfl i3 _ 1 8 Tryz.underlying58 hi0 hi1 hi2 hi3 rfl (by decide) wA.heap.size _ rfl 0 [] HX8.out Ak kp.length cK rfl (icells kp) HIC.out.1 HX8b.out HIC.out.2.1 HIC.out.2.2.1 HIC.out.2.2.2 (World.le_alloc wA _) ?_;intro A8 c8 w8 hr8 hg8;have KC := HCO.out A8 c8 w8 hr8 hg8;clear hr8 hg8;rw [Nat.zero_add])
       | (go_at_call 28;refine KC.mono ?_;rintro e wB ⟨rfl,hdB⟩;have KON1 := HKON1.out wB hdB;clear hdB KC))
      obtain ⟨AA,hAA⟩ : ∃ q,q = O2 := ⟨_,rfl⟩
      have HEN := Lib.hid (show Fit AA ∧ Fit O2 ∧ Ends AA O2 LL from hAA ▸ HEN.out)
      have hma : AA.most = O2.most := by rw [HEN.out.1.most,HEN.out.2.1.most]
      have hLn := ends_len HEN.out.1.inv HEN.out.2.1.inv HEN.out.2.2
      have HK2 := Lib.hid (fun (w8 : World) (X8 : List Nat) (A8 : Option Addr) (c8 : Nat) (h8 : Dk1 WA w8 X8 D1 ⟨LL,[],none,false⟩) (hl8 : Lies w8 A8 (icells mo)) => dk_cut h8 n3 A8 c8 mo hl8 HKL.out.2 HN3.out.1 (by have := HN3.out.2;omega))
      have HK3 := Lib.hid (fun (w9 : World) (X9 : List Nat) (h9 : Dk1 WA w9 X9 D1 ⟨LL,[],some (n3,mo),false⟩) => dk_mount1 h9 HEN.out.1.inv HEN.out.1.od HEN.out.2.1.inv HEN.out.2.1.od HEN.out.2.2 HN3.out.1 hLn)
      have HK4 := Lib.hid (fun (w9 : World) (X9 : List Nat) (L : List Bs) (ct : Option (Nat × List Int)) (o : Bool) (h : Dk1 WA w9 X9 D1 ⟨L,[],ct,o⟩) => dk_on h rfl)
      have HK5 := Lib.hid (fun (w9 : World) (X9 : List Nat) (L : List Bs) (h : Dk1 WA w9 X9 D1 ⟨L,[],none,false⟩) (he : Ends AA O2 L) => dk_mount2 h HEN.out.1.inv HEN.out.1.od HEN.out.2.1.inv HEN.out.2.1.od hma he (ends_len HEN.out.1.inv HEN.out.2.1.inv he))
      go_upto_region 35 with (first
       | (go_at_call 32;refine KON1.mono ?_;rintro e wC ⟨rfl,hdC⟩;have HX8 := Lib.hid (World.ownsRow_made (e := 3) (size := 1) wC #[] 0 (Nat.le_refl _) (Nat.zero_le _) rfl);have HX8b := Lib.hid (HA.out.2.below (Nat.le_refl _) ((HHW.out wC hdC.nw.below).alloc (HHW.out wC hdC.nw.below).size (.cells #[] 3)));have HCO := Lib.hid (fun (A8 : Option Addr) (c8 : Nat) (w8 : World) (hr8 : w8.ownsRow wC.heap.size 3 1 (.slice A8 (0 + mo.length) c8) (0 + mo.length) ([] ++ icells mo)) (hg8 : (wC.alloc (.cells #[] 3)).grownBy w8 (some wC.heap.size)) => HK2.out w8 ZA A8 c8 (hdC.below (((Below.refl _ wC).alloc (Nat.le_refl _) (.cells #[] 3)).grown hg8 (by simp) (by intro k hk;simp at hk;omega))) (Lies.of_row hr8));clear hdC KON1)
       | (at_builtin;refine wpList_appL rfl (.tmp 129) (.tmp 130) 58 3 rfl i3 _ 1 8 Tryz.underlying58 hi0 hi1 hi2 hi3 rfl (by decide) wC.heap.size _ rfl 0 [] HX8.out Am mo.length cM rfl (icells mo) HIM.out.1 HX8b.out HIM.out.2.1 HIM.out.2.2.1 HIM.out.2.2.2 (World.le_alloc wC _) ?_;intro A8 c8 w8 hr8 hg8;have KC2 := HCO.out A8 c8 w8 hr8 hg8;clear hr8 hg8 HX8 HX8b HCO;rw [Nat.zero_add])
       | (go_at_call 25;refine KC2.mono ?_;rintro e wD ⟨rfl,XD,hdD⟩;have KM1 := HK3.out wD XD hdD;clear hdD KC2)
       | (go_at_call 24;refine KM1.mono ?_;rintro e wE ⟨vu,vv,XE,LE,ctE,oE,rfl,hdE,heE⟩;have KON2 := HK4.out wE XE LE ctE oE hdE;have HEE := Lib.hid heE;clear hdE heE KM1)
       | (go_at_call 32;refine KON2.mono ?_;rintro e wF ⟨rfl,hdF⟩;have KM2 := HK5.out wF XE LE hdF HEE.out;clear hdF KON2)
       | (go_at_call 24;refine KM2.mono ?_;rintro e wG ⟨XG,SG,LgG,MG,mG,rfl,hsG,hrG,hsight,hbG⟩;have KS9 := sight_any XG SG D1 LgG MG mG wG hsG hrG;have HSI := Lib.hid hsight;have HBG := Lib.hid hbG;clear hsG hrG hsight hbG KM2)
       | (go_at_call 31;refine KS9.mono ?_;rintro e wH ⟨rfl,hbH⟩;have HBH := Lib.hid hbH;clear hbH KS9))
      have hsi := HSI.out
      obtain ⟨hsW,hsT⟩ := HSG2.out
      clear HK2 HK3 HK4 HK5 HEE HSI hma hLn HEN
      have hnt : mk (sightB mG) = THEN := by
       rw [← hsT]
       rcases hsi with h | h <;> rw [h]
       rw [hAA]
      rw [hnt]
      clear hsi hsW hsT hAA hnt
      go_wp2
      go_ret
      exact ⟨rfl,(HHW.out wG HBG.out).trans (HBH.out.mono (HHW.out wG HBG.out).size)⟩
     ·subst h7
      have HEN := Lib.hid (show Fit m ∧ Fit O2 ∧ Ends m O2 LL from ⟨fa,fo,hE⟩)
      have KON1 := dk_on hdk hS
      rw [hLL] at KON1
      clear hE fa fo hdk hS hLL
      go_upto_region 27 with (fail)
      obtain ⟨AA,hAA⟩ : ∃ q,q = m := ⟨_,rfl⟩
      have HEN := Lib.hid (show Fit AA ∧ Fit O2 ∧ Ends AA O2 LL from hAA ▸ HEN.out)
      have hma : AA.most = O2.most := by rw [HEN.out.1.most,HEN.out.2.1.most]
      have hLn := ends_len HEN.out.1.inv HEN.out.2.1.inv HEN.out.2.2
      have HK2 := Lib.hid (fun (w8 : World) (X8 : List Nat) (A8 : Option Addr) (c8 : Nat) (h8 : Dk1 WA w8 X8 D1 ⟨LL,[],none,false⟩) (hl8 : Lies w8 A8 (icells mo)) => dk_cut h8 n3 A8 c8 mo hl8 HKL.out.2 HN3.out.1 (by have := HN3.out.2;omega))
      have HK3 := Lib.hid (fun (w9 : World) (X9 : List Nat) (h9 : Dk1 WA w9 X9 D1 ⟨LL,[],some (n3,mo),false⟩) => dk_mount1 h9 HEN.out.1.inv HEN.out.1.od HEN.out.2.1.inv HEN.out.2.1.od HEN.out.2.2 HN3.out.1 hLn)
      have HK4 := Lib.hid (fun (w9 : World) (X9 : List Nat) (L : List Bs) (ct : Option (Nat × List Int)) (o : Bool) (h : Dk1 WA w9 X9 D1 ⟨L,[],ct,o⟩) => dk_on h rfl)
      have HK5 := Lib.hid (fun (w9 : World) (X9 : List Nat) (L : List Bs) (h : Dk1 WA w9 X9 D1 ⟨L,[],none,false⟩) (he : Ends AA O2 L) => dk_mount2 h HEN.out.1.inv HEN.out.1.od HEN.out.2.1.inv HEN.out.2.1.od hma he (ends_len HEN.out.1.inv HEN.out.2.1.inv he))
      go_upto_region 35 with (first
       | (go_at_call 32;refine KON1.mono ?_;rintro e wC ⟨rfl,hdC⟩;have HX8 := Lib.hid (World.ownsRow_made (e := 3) (size := 1) wC #[] 0 (Nat.le_refl _) (Nat.zero_le _) rfl);have HX8b := Lib.hid (HA.out.2.below (Nat.le_refl _) ((HHW.out wC hdC.nw.below).alloc (HHW.out wC hdC.nw.below).size (.cells #[] 3)));have HCO := Lib.hid (fun (A8 : Option Addr) (c8 : Nat) (w8 : World) (hr8 : w8.ownsRow wC.heap.size 3 1 (.slice A8 (0 + mo.length) c8) (0 + mo.length) ([] ++ icells mo)) (hg8 : (wC.alloc (.cells #[] 3)).grownBy w8 (some wC.heap.size)) => HK2.out w8 ZA A8 c8 (hdC.below (((Below.refl _ wC).alloc (Nat.le_refl _) (.cells #[] 3)).grown hg8 (by simp) (by intro k hk;simp at hk;omega))) (Lies.of_row hr8));clear hdC KON1)
       | (at_builtin;refine wpList_appL rfl (.tmp 129) (.tmp 130) 58 3 rfl i3 _ 1 8 Tryz.underlying58 hi0 hi1 hi2 hi3 rfl (by decide) wC.heap.size _ rfl 0 [] HX8.out Am mo.length cM rfl (icells mo) HIM.out.1 HX8b.out HIM.out.2.1 HIM.out.2.2.1 HIM.out.2.2.2 (World.le_alloc wC _) ?_;intro A8 c8 w8 hr8 hg8;have KC2 := HCO.out A8 c8 w8 hr8 hg8;clear hr8 hg8 HX8 HX8b HCO;rw [Nat.zero_add])
       | (go_at_call 25;refine KC2.mono ?_;rintro e wD ⟨rfl,XD,hdD⟩;have KM1 := HK3.out wD XD hdD;clear hdD KC2)
       | (go_at_call 24;refine KM1.mono ?_;rintro e wE ⟨vu,vv,XE,LE,ctE,oE,rfl,hdE,heE⟩;have KON2 := HK4.out wE XE LE ctE oE hdE;have HEE := Lib.hid heE;clear hdE heE KM1)
       | (go_at_call 32;refine KON2.mono ?_;rintro e wF ⟨rfl,hdF⟩;have KM2 := HK5.out wF XE LE hdF HEE.out;clear hdF KON2)
       | (go_at_call 24;refine KM2.mono ?_;rintro e wG ⟨XG,SG,LgG,MG,mG,rfl,hsG,hrG,hsight,hbG⟩;have KS9 := sight_any XG SG D1 LgG MG mG wG hsG hrG;have HSI := Lib.hid hsight;have HBG := Lib.hid hbG;clear hsG hrG hsight hbG KM2)
       | (go_at_call 31;refine KS9.mono ?_;rintro e wH ⟨rfl,hbH⟩;have HBH := Lib.hid hbH;clear hbH KS9))
      have hsi := HSI.out
      obtain ⟨hsW,hsT⟩ := HSG2.out
      clear HK2 HK3 HK4 HK5 HEE HSI hma hLn HEN
      rcases hsi with h | h
      ·rw [h,hAA,hsW]
       clear h hAA hsW hsT
       by_cases hwt : WAS = THEN
       ·subst hwt
        go_wp2
        go_roundw
        case rel => exact ⟨c + 1,by omega,by omega,by go_num,HBC.out.1.trans ((HBG.out.trans (HBH.out.mono HBG.out.size)).mono HBC.out.1.size)⟩
        case measure => simp [intOf];omega
       ·go_wp2
        ·skip
         go_roundw
         case rel => exact ⟨c + 1,by omega,by omega,by go_num,HBC.out.1.trans ((HBG.out.trans (HBH.out.mono HBG.out.size)).mono HBC.out.1.size)⟩
         case measure => simp [intOf];omega
        ·skip
         go_roundw
         case rel => exact ⟨c + 1,by omega,by omega,by go_num,HBC.out.1.trans ((HBG.out.trans (HBH.out.mono HBG.out.size)).mono HBC.out.1.size)⟩
         case measure => simp [intOf];omega
      ·rw [h,hsT]
       clear h hAA hsW hsT
       go_wp2
       go_roundw
       case rel => exact ⟨c + 1,by omega,by omega,by go_num,HBC.out.1.trans ((HBG.out.trans (HBH.out.mono HBG.out.size)).mono HBC.out.1.size)⟩
       case measure => simp [intOf];omega
   ·obtain rfl : c = 40 := by omega
    have HBC := Lib.hid hbc
    clear hbc
    go_wp2
    go_ret
    exact ⟨rfl,HB1.out.trans (HBC.out.mono HB1.out.size)⟩
open Go.ChangeShapes Go.WideShapes Go.ChangeAt Go.RowKit
theorem own : ownKnob Tryz.prog.godebug = none := by kernel_rfl
theorem laidOut : laidOutB Tryz.prog = true := by kernel_rfl
theorem tb_of {W : World} {laid : List (String × DataW Unit)} (hlist : laid = Rows.fileNamesRow.laid) (hmet : laidMetH Tryz.prog laid W) : TB W := by
 subst hlist
 rw [Go.MakeChecks.laidMetH_plain _ _ _ (by kernel_rfl)] at hmet
 rw [show Rows.fileNamesRow.laid = [("stemma/crc.table", (Lib.tabData .u32 tblL : DataW Unit))] by kernel_rfl] at hmet
 have htab : Lib.TabIs Tryz.prog W "stemma/crc.table" .u32 tblL :=
  Lib.tabIs_of_head (g := 0) (t := 186) (e := 153) (n := 16) (by kernel_rfl) (by kernel_rfl) (by kernel_rfl) (by kernel_rfl) (by kernel_rfl) (by kernel_rfl) hmet
 intro k hk
 exact htab.cell (by kernel_rfl) k hk
theorem tb_pos {W : World} (h : TB W) : 0 < W.heap.size := by
 have := h 0 (by decide)
 rcases Nat.eq_zero_or_pos W.heap.size with h0 | h0
 ·rw [World.cell?,Array.getElem?_eq_none (by simp [h0])] at this;cases this
 ·exact h0
noncomputable def laidW (os : Os) : World := World.doorLaid Tryz.prog 400 os
theorem laid_met (os : Os) (args : Array Value) : laidMet Tryz.prog Rows.fileNamesRow.laid ((laidW os).forCall (fun _ _ => 0) ⟨#[],args,[]⟩).memory :=
 laidMet_of_run' 8 (by kernel_rfl) (by kernel_rfl)
open Go.ChangeShapes Go.WideShapes Go.ChangeAt Go.RowKit
theorem cells26 : Tryz.prog.cellsOf 26 = 5 := by kernel_rfl
theorem cells9 : Tryz.prog.cellsOf 9 = 1 := by kernel_rfl
theorem cells3 : Tryz.prog.cellsOf 3 = 1 := by kernel_rfl
theorem cells5 : Tryz.prog.cellsOf 5 = 1 := by kernel_rfl
theorem addr_block {W : World} {b : Addr} {i : Nat} {v : Value} (g : W.cell? (b.add i) = some v) (hi : i = 0) : ∃ bb off,b = ⟨bb,off,none⟩ ∧ bb < W.heap.size := by
 subst hi
 obtain ⟨bb,off,spot⟩ := b
 have hspot : spot = none := by simpa [Addr.add] using World.cell?_spot g
 subst hspot
 refine ⟨bb,off,rfl, ?_⟩
 rcases Nat.lt_or_ge bb W.heap.size with h | h
 ·exact h
 ·simp [World.cell?,Addr.add,Array.getElem?_eq_none h] at g
instance : Inhabited ActM := ⟨⟨0,[],[],0,0⟩⟩
theorem len_five {α : Type} {l : List α} (h : l.length = 5) : ∃ a b c d e,l = [a,b,c,d,e] := by
 match l,h with
 | [a,b,c,d,e],_ => exact ⟨a,b,c,d,e,rfl⟩
theorem act_cells {H : Type} {enc : TypeId × Value → H} {W : World} {cs : List Value} {fuel : Nat} {sp : Nat → Bool} {held : Bool} {x : DataW H × List MemPlace} (h : DataW.trod enc Tryz.prog W 0 sp held fuel 26 cs = some x) (hl2 : cs.length = 5) :
  ∃ a : ActM,cs = actV a ∧ ActOk a := by
 obtain ⟨xs,k,_,hD,_,hxl,hel⟩ := DataW.trod_struct Tryz.underlying26 h
 have t0 := hel 0 _ rfl
 have t1 := hel 1 _ rfl
 have t2 := hel 2 _ rfl
 have t3 := hel 3 _ rfl
 have t4 := hel 4 _ rfl
 obtain ⟨c0,c1,c2,c3,c4,rfl⟩ := len_five hl2
 obtain ⟨y0,y1,y2,y3,y4,rfl⟩ := len_five (show xs.length = 5 from hxl)
 simp [cells9,cells3,cells5] at t0 t1 t2 t3 t4
 obtain ⟨n0,e0,rfl,w0⟩ := DataW.trod_int Tryz.underlying3 t0
 obtain ⟨s1,e1,rfl,w1⟩ := DataW.trod_string Tryz.underlying9 t1
 obtain ⟨s2,e2,rfl,w2⟩ := DataW.trod_string Tryz.underlying9 t2
 obtain ⟨n3,e3,rfl,_⟩ := DataW.trod_int Tryz.underlying3 t3
 obtain ⟨n4,e4,rfl,w4⟩ := DataW.trod_int Tryz.underlying5 t4
 simp only [List.cons.injEq,and_true] at e0 e1 e2 e3 e4
 subst e0 e1 e2 e3 e4
 simp [Lit.wf] at w0 w4
 have q1 : IntKind.i64.min = -9223372036854775808 := by decide
 have q2 : IntKind.i64.max = 9223372036854775807 := by decide
 have q3 : IntKind.u8.min = 0 := by decide
 have q4 : IntKind.u8.max = 255 := by decide
 have z1 : s1.data.toList.length = s1.size := by rw [Array.length_toList];rfl
 have z2 : s2.data.toList.length = s2.size := by rw [Array.length_toList];rfl
 refine ⟨⟨n0,s1.data.toList,s2.data.toList,n3,n4.toNat⟩, ?_,⟨by show s1.data.toList.length ≤ _;omega,by show s2.data.toList.length ≤ _;omega,by show _ ≤ n0 ∧ n0 ≤ _;omega⟩⟩
 unfold actV
 rw [mk_list,mk_list,show ((n4.toNat : Nat) : Int) = n4 by omega]
theorem acts_arg {H : Type} {enc : TypeId × Value → H} {W : World} {a : Option Addr} {len cap fuel : Nat} {sp : Nat → Bool} {held : Bool} {x : DataW H × List MemPlace} (h : DataW.trod enc Tryz.prog W 0 sp held fuel 24 (Value.slice a len cap).cells.toList = some x) :
  ∃ l : List ActM,l.length = len ∧ len ≤ maxLen ∧ Lies W a (acells l) ∧ ∀ u ∈ l,ActOk u := by
 rcases Deep.open_slice Tryz.underlying24 h with ⟨hcs,_⟩ | ⟨b,len',cap',m,n,D,Pl,hcs,_,hl,hm,hmm,rfl,hx⟩
 ·simp [Value.cells] at hcs
  obtain ⟨rfl,rfl,rfl⟩ := hcs
  exact ⟨[],rfl,Nat.zero_le _,fun h => absurd h (by simp [acells]),fun p hp => by cases hp⟩
 ·simp [Value.cells] at hcs
  obtain ⟨rfl,rfl,rfl⟩ := hcs
  have hle : len ≤ m := by rw [hmm];split <;> omega
  have each : ∀ i,i < len → ∃ p : ActM,(∀ k (hk : k < 5), ∀ v,(actV p)[k]? = some v → W.cell? (b.add (i * 5 + k)) = some v) ∧ ActOk p := by
   intro i hi
   obtain ⟨cs',hc,ht⟩ := hx i (by omega)
   rw [cells26] at hc
   obtain ⟨_,hl2,hcell⟩ := World.cells?_some hc
   obtain ⟨p,rfl,hok⟩ := act_cells ht hl2
   refine ⟨p,fun k hk v hv => ?_,hok⟩
   have g := hcell k hk
   rw [Deep.add_add] at g
   rw [g]
   exact hv
  obtain ⟨f,hf⟩ := Deep.choose_lt (α := ActM) (p := fun i p => (∀ k (hk : k < 5), ∀ v,(actV p)[k]? = some v → W.cell? (b.add (i * 5 + k)) = some v) ∧ ActOk p) each
  have hfl : ((List.range len).map f).length = len := by simp
  refine ⟨(List.range len).map f,hfl,by omega,fun hp => ?_,fun u hu => ?_⟩
  ·rw [acells_length,hfl] at hp
   obtain ⟨bb,off,rfl,hbb⟩ := addr_block ((hf 0 (by omega)).1 0 (by omega) _ rfl) rfl
   refine ⟨bb,off,rfl,hbb,fun j u hu => ?_⟩
   have hj := (List.getElem?_eq_some_iff.1 hu).1
   rw [acells_length,hfl] at hj
   have hjl : j / 5 < ((List.range len).map f).length := by rw [hfl];omega
   have h5 := (hf (j / 5) (by omega)).1 (j % 5) (by omega) u (by
    obtain ⟨a0,a1,a2,a3,a4⟩ := acells_at ((List.range len).map f) (j / 5) hjl
    have e : ((List.range len).map f)[j / 5] = f (j / 5) := by simp
    rw [e] at a0 a1 a2 a3 a4
    have hm : j % 5 = 0 ∨ j % 5 = 1 ∨ j % 5 = 2 ∨ j % 5 = 3 ∨ j % 5 = 4 := by omega
    rcases hm with hm | hm | hm | hm | hm
    ·rw [show j / 5 * 5 = j by omega] at a0;rw [hm, ← hu,a0];rfl
    ·rw [show j / 5 * 5 + 1 = j by omega] at a1;rw [hm, ← hu,a1];rfl
    ·rw [show j / 5 * 5 + 2 = j by omega] at a2;rw [hm, ← hu,a2];rfl
    ·rw [show j / 5 * 5 + 3 = j by omega] at a3;rw [hm, ← hu,a3];rfl
    ·rw [show j / 5 * 5 + 4 = j by omega] at a4;rw [hm, ← hu,a4];rfl)
   rw [add_lit'] at h5
   rw [show j / 5 * 5 + j % 5 = j by omega] at h5
   exact h5
  ·obtain ⟨i,hi,rfl⟩ := List.mem_map.1 hu
   exact (hf i (List.mem_range.1 hi)).2
open Go.ChangeShapes Go.WideShapes Go.ChangeAt Go.RowKit
theorem ints_arg {H : Type} {enc : TypeId × Value → H} {W : World} {a : Option Addr} {len cap fuel : Nat} {sp : Nat → Bool} {held : Bool} {x : DataW H × List MemPlace} (h : DataW.trod enc Tryz.prog W 0 sp held fuel 58 (Value.slice a len cap).cells.toList = some x) :
  ∃ l : List Int,l.length = len ∧ len ≤ maxLen ∧ Lies W a (icells l) := by
 rcases open_ints Tryz.underlying58 Tryz.underlying3 cells3 h with ⟨hcs,_⟩ | ⟨b,len',cap',zs,hcs,_,hl,hm,hz,_,hcell,_⟩
 ·simp [Value.cells] at hcs
  obtain ⟨rfl,rfl,rfl⟩ := hcs
  exact ⟨[],rfl,Nat.zero_le _,fun h => absurd h (by simp [icells])⟩
 ·simp [Value.cells] at hcs
  obtain ⟨rfl,rfl,rfl⟩ := hcs
  have hle : len ≤ zs.length := by rw [hz];split <;> omega
  refine ⟨zs.take len,by rw [List.length_take];omega,by omega,fun hp => ?_⟩
  have h0 : 0 < zs.length := by
   rw [icells,List.length_map,List.length_take] at hp;omega
  obtain ⟨bb,off,rfl,hbb⟩ := addr_block (hcell 0 h0) rfl
  refine ⟨bb,off,rfl,hbb,fun j u hu => ?_⟩
  rw [icells,List.getElem?_map] at hu
  obtain ⟨z,hz2,rfl⟩ := Option.map_eq_some_iff.1 hu
  obtain ⟨hj,hz3⟩ := List.getElem?_eq_some_iff.1 hz2
  rw [List.length_take] at hj
  have := hcell j (by omega)
  rw [add_lit'] at this
  rw [this, ← hz3,List.getElem_take]
  simp only [List.getD_eq_getElem?_getD,List.getElem?_eq_getElem (show j < zs.length by omega),Option.getD_some]
open Go.ChangeShapes Go.WideShapes Go.ChangeAt Go.RowKit
open Go.ChangeMaps (open_string shut_string)
theorem ints_small {H : Type} {enc : TypeId × Value → H} {W : World} {a : Option Addr} {len cap fuel : Nat} {held : Bool} {x : DataW H × List MemPlace} (h : DataW.trod enc Tryz.prog W 0 (fun _ => true) held fuel 58 (Value.slice a len cap).cells.toList = some x) (hw : ∀ k ∈ x.1.weights Tryz.prog 58,k ≤ reachBytes) : len ≤ 17592186044416 := by
 rcases open_ints Tryz.underlying58 Tryz.underlying3 cells3 h with ⟨hcs,_⟩ | ⟨b,len',cap',zs,hcs,_,hl,_,hz,rfl,_,_⟩
 ·simp [Value.cells] at hcs
  omega
 ·simp [Value.cells] at hcs
  obtain ⟨rfl,rfl,rfl⟩ := hcs
  simp only [if_true] at hz
  have hb : Tryz.prog.bytesOf 3 = 8 := by kernel_rfl
  have := hw (((lits .i64 (zs.take len) : List (DataW H)).length + (lits .i64 (zs.drop len) : List (DataW H)).length) * Tryz.prog.bytesOf 3) (by simp only [DataW.weights,Tryz.underlying58,List.mem_cons,true_or])
  rw [hb] at this
  simp [lits,reachBytes] at this
  omega
theorem acts_cap {H : Type} {enc : TypeId × Value → H} {W : World} {a : Option Addr} {len cap fuel : Nat} {sp : Nat → Bool} {held : Bool} {x : DataW H × List MemPlace} (h : DataW.trod enc Tryz.prog W 0 sp held fuel 24 (Value.slice a len cap).cells.toList = some x) : len ≤ cap := by
 rcases DataW.trod_slice Tryz.underlying24 h with ⟨hcs,_⟩ | ⟨b,len',cap',elems,rest,n,_,hcs,_,_,hl,_⟩
 ·simp [Value.cells] at hcs
  omega
 ·simp [Value.cells] at hcs
  omega
theorem fileCrash_reads (os : Os) {H : Type} (enc : TypeId × Value → H) : ∃ places,DataW.whole enc Tryz.prog ((laidW os).forCall (fun _ _ => 0) ⟨#[], #[.slice none 0 0, .slice none 0 0, .slice none 0 0],[]⟩).memory Tryz.f8.params.toList Rows.fileCrashSpec.vars false #[Value.slice none 0 0,Value.slice none 0 0,Value.slice none 0 0].toList 8 = some ([.nil, .nil, .nil],[],places) :=
 ⟨[],by kernel_rfl⟩
set_option maxRecDepth 100000 in
theorem fileCrash_lifted (os : Os) (started : os.Started) (H : Type) (enc : TypeId × Value → H) (F : Stop.Interp) :
  ReturnsInHanded {} Tryz.checked os 8 .any ((OpenSpec.ofChange Rows.fileCrashSpec).preRow enc Tryz.prog Tryz.f8 Rows.fileCrashRow.domain false Rows.fileCrashRow.laid) (((OpenSpec.ofChange Rows.fileCrashSpec).at F).post enc Tryz.prog Tryz.f8 false true false false) := by
 obtain ⟨places,hx⟩ := fileCrash_reads os enc
 refine returnsInHanded_of_row (C := Tryz.checked) (s := OpenSpec.ofChange Rows.fileCrashSpec) own started (by kernel_rfl) Tryz.func8
  (witness_row_at (enc := enc) (C := Tryz.checked) false (laidW os) #[.slice none 0 0, .slice none 0 0, .slice none 0 0] rfl (by kernel_rfl) (by kernel_rfl) (by kernel_rfl)
   (OpenSpec.preRow_of_cond 8 hx (by kernel_rfl) (fun k hk => by cases hk) (by kernel_rfl) (laid_met os _))) ?_
 intro W base args ds gs before hval0 hW _ _ hz hmet hsh _
 have hval : ∀ (j : Nat) t v,Tryz.f8.params[j]? = some t → args[j]? = some v → Value.okWide Tryz.prog W .any base t v := hval0
 have hW' := hW
 obtain ⟨p,q,hA0,hV,rfl,_,_⟩ := hW
 have hA : DataW.TrodAll enc Tryz.prog W 0 (fun _ => true) true Tryz.f8.params.toList args.toList ds p := hA0
 have hz' : (DataW.weightsEach Tryz.prog (Tryz.f8.params.toList ++ []) (ds ++ gs)).all (· ≤ reachBytes) = true := hz
 rw [Tryz.params8] at hA hval hz'
 obtain ⟨v0,v1,v2,d0,d1,d2,p0,p1,p2,rfl,rfl,rfl,h0,h1,h2⟩ := trodAll_three hA
 obtain ⟨rfl,rfl⟩ := trodVars_none hV
 obtain ⟨a0,l0,c0,rfl⟩ := okWide_slice Tryz.underlying24 (hval 0 24 v0 rfl rfl)
 obtain ⟨a1,l1,c1,rfl⟩ := okWide_slice Tryz.underlying58 (hval 1 58 v1 rfl rfl)
 obtain ⟨a2,l2,c2,rfl⟩ := okWide_slice Tryz.underlying58 (hval 2 58 v2 rfl rfl)
 have h0k := h0
 obtain ⟨fuel0,hf0⟩ := h0
 have h1k := h1
 obtain ⟨fuel1,hf1⟩ := h1
 have h2k := h2
 obtain ⟨fuel2,hf2⟩ := h2
 have hw1 : ∀ k ∈ d1.weights Tryz.prog 58,k ≤ reachBytes := fun k hk => by simpa using List.all_eq_true.1 hz' k (DataW.weights_mem_each (j := 1) rfl rfl k hk)
 have hw2 : ∀ k ∈ d2.weights Tryz.prog 58,k ≤ reachBytes := fun k hk => by simpa using List.all_eq_true.1 hz' k (DataW.weights_mem_each (j := 2) rfl rfl k hk)
 have hs1 := ints_small hf1 hw1
 have hs2 := ints_small hf2 hw2
 have hc0 := acts_cap hf0
 clear hA0 hval0 hz hz' hw1 hw2
 simp only [List.append_nil] at hW'
 have hlt := hW'.lt
 obtain ⟨as0,rfl,AL0,AC0,AO0⟩ := acts_arg hf0
 obtain ⟨li1,rfl,BL1,BC1⟩ := ints_arg hf1
 obtain ⟨li2,rfl,CL2,CC2⟩ := ints_arg hf2
 refine (fileCrash_any a0 as0 c0 a1 li1 c1 a2 li2 c2 W AC0 AO0 AL0 hc0 BC1 hs1 CC2 hs2 (tb_of rfl hmet) (tb_pos (tb_of rfl hmet))).mono fun e W' ⟨he,hb⟩ => ?_
 subst he
 refine ⟨_,rfl,_,_,_,[],_,[],hW',trodAll_mk1 (shut_bool Tryz.underlying4 true),trodAll_mk3 (Below.trod laidOut (by kernel_rfl) (of_decide_eq_true (by kernel_rfl)) h0k hb (fun x hx => hlt x (by simp [hx]))) (Below.trod laidOut (by kernel_rfl) (of_decide_eq_true (by kernel_rfl)) h1k hb (fun x hx => hlt x (by simp [hx]))) (Below.trod laidOut (by kernel_rfl) (of_decide_eq_true (by kernel_rfl)) h2k hb (fun x hx => hlt x (by simp [hx]))),rfl,hb.frame _,fun h => by cases h⟩
theorem fileCrash_said : Rows.FileCrashSaid :=
 OpenClaim.holds_of_cond 8 Tryz.f8 rfl rfl rfl rfl rfl rfl rfl ⟨rfl,rfl,rfl,rfl,rfl⟩ rfl rfl rfl rfl rfl (by kernel_rfl) Tryz.func8 (by kernel_rfl)
  (of_decide_eq_true (by kernel_rfl)) (by unfold Func.isWrapper;first | (rw [if_pos (by decide +kernel)];kernel_rfl) | (rw [if_neg (by decide +kernel)];exact ⟨rfl,rfl⟩))
  (fun os started H enc _ F => by rw [OpenClaim.pre_eq_preRow];exact fileCrash_lifted os started H enc F)
theorem fileCrash_plain (f : FuncId) (fn : Func) (hf : Tryz.pinned.checked.prog.funcNamed "stemma/stemmalaw07.FileCrash" = some f) (hfn : Tryz.pinned.checked.prog.funcs[f]? = some fn) :
  false = Tryz.pinned.checked.prog.looks [] ∧ ∀ (j : Nat) t,fn.params[j]? = some t → Tryz.pinned.checked.prog.wantsStandIn t = false := by
 obtain rfl : f = 8 := Option.some.inj ((show Tryz.prog.funcNamed "stemma/stemmalaw07.FileCrash" = some 8 by kernel_rfl).symm.trans hf) |>.symm
 obtain rfl : fn = Tryz.f8 := (Option.some.inj (Tryz.func8.symm.trans hfn)).symm
 refine ⟨by kernel_rfl,fun j t ht => ?_⟩
 rw [Tryz.params8] at ht
 have hm : t ∈ [24,58,58] := by simpa using Array.mem_of_getElem? ht
 have hall : ([24,58,58].all fun u => !Tryz.prog.wantsStandIn u) = true := by kernel_rfl
 exact (show Tryz.prog.wantsStandIn t = false by simpa using List.all_eq_true.1 hall t hm)
theorem fileCrash_card : Rows.FileCrashCardSaid :=
 Claim7.holds_tied_plain_at .later [] _ _ _ _ fileCrash_said (fun _ h => by cases h) (by kernel_rfl) (fun _ h => by cases h) fileCrash_row_tie rfl ⟨rfl,rfl⟩ (by kernel_rfl) rfl fileCrash_plain (by kernel_rfl)
#print axioms fileCrash_card
end Go.Proofs.YtcmcdddnckcpcaaGreatDoor
