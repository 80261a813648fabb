/- LooseRots: the row and its tied card. -/
import Derived.Test.YtmjdmijloanfnaaGreatDoorPD1
import Derived.Test.YtmjdmijloanfnaaGreatDoorPD6
import Derived.Test.YtmjdmijloanfnaaGreatDoorPD2
import Derived.Test.YtmjdmijloanfnaaGreatDoorPD5
import Derived.Laws.Cover1
import Derived.Deep.CutBlock
import Derived.Test.YtmjdmijloanfnaaGreatDoorRows
import Derived.ProofKit
import Derived.LaidMore
import Derived.OpenShut
import Derived.ShutString
import Derived.Deep.DeepHandedRow
import Derived.Shelf.Vars
import Derived.MakeChecks
import Derived.Lib.LaidTab
import Derived.Deep.Slices
import Derived.SizedLaws
import Derived.SliceStrings
import Derived.Test.YtmjdmijloanfnaaGreatDoorCards
import Derived.Test.YtmjdmijloanfnaaGreatDoorTie
namespace Go.Proofs.YtmjdmijloanfnaaGreatDoor
def Has (m : StoM) (A : List (Bs × Bs)) : Prop := (m.F.map fun f => (f.name,readF m f)).Perm A
theorem Has.perm {m : StoM} {A B : List (Bs × Bs)} (h : Has m A) (p : A.Perm B) : Has m B := List.Perm.trans h p
theorem Has.names {m : StoM} {A : List (Bs × Bs)} (h : Has m A) : (m.F.map (·.name)).Perm (A.map (·.1)) := by
 have := List.Perm.map (·.1) h
 rwa [List.map_map] at this
theorem Has.len {m : StoM} {A : List (Bs × Bs)} (h : Has m A) : m.F.length = A.length := by simpa using List.Perm.length_eq h
theorem fileOf_in {F : List FileM} (hn : (F.map (·.name)).Nodup) {f : FileM} (hf : f ∈ F) : fileOf F f.name = some f := by
 cases hx : fileOf F f.name with
 | none => exact absurd rfl (fileOf_none.1 hx f hf)
 | some g =>
  have hg := fileOf_mem hx
  have hgn := fileOf_name hx
  have : g = f := by
   have h2 := perm_del F g f.name hn hx
   rcases List.mem_cons.1 (h2.mem_iff.1 hf) with e | e
   ·exact e.symm
   ·exact absurd rfl (mem_delF.1 e).2
  rw [this]
theorem Has.file {m : StoM} {A : List (Bs × Bs)} (h : Has m A) (hi : Inv m) {n d : Bs} (ha : (n,d) ∈ A) : ∃ f ∈ m.F,f.name = n ∧ readF m f = d ∧ fileOf m.F n = some f := by
 obtain ⟨f,hf,e⟩ := List.mem_map.1 ((List.Perm.mem_iff h).2 ha)
 simp only [Prod.mk.injEq] at e
 exact ⟨f,hf,e.1,e.2,by rw [← e.1];exact fileOf_in hi.names hf⟩
theorem Has.none {m : StoM} {A : List (Bs × Bs)} (h : Has m A) {n : Bs} (ha : n ∉ A.map (·.1)) : fileOf m.F n = Option.none := by
 rw [fileOf_none]
 intro f hf e
 exact ha (h.names.mem_iff.1 (List.mem_map.2 ⟨f,hf,e⟩))
theorem Has.find {m : StoM} {A : List (Bs × Bs)} (h : Has m A) (hi : Inv m) {n d : Bs} (ha : (n,d) ∈ A) : goodF n = true ∧ readW m n = d ∧ findE m.F n = 0 := by
 obtain ⟨f,h1,h2,h3,h4⟩ := h.file hi ha
 have hg : goodF n = true := by rw [← h2];exact hi.good f h1
 refine ⟨hg, ?_, ?_⟩
 ·unfold readW
  rw [if_pos hg,h4,Option.map_some,Option.getD_some,h3]
 ·unfold findE
  rw [if_pos hg,h4]
  rfl
theorem Has.gone {m : StoM} {A : List (Bs × Bs)} (h : Has m A) {n : Bs} (hg : goodF n = true) (ha : n ∉ A.map (·.1)) : readW m n = [] ∧ findE m.F n = 9 := by
 have h4 := h.none ha
 refine ⟨?_, ?_⟩
 ·unfold readW
  rw [if_pos hg,h4]
  rfl
 ·unfold findE
  rw [if_pos hg,h4]
  rfl
def usedA (A : List (Bs × Bs)) : Nat := (A.map fun x => needsN x.2.length).sum
theorem count_used {m : StoM} (h : Inv m) : m.T.count false + (unitsF m.F).length = m.T.length := by
 have h1 : ∀ (T : List Bool),T.count true = ((List.range T.length).filter fun j => T.getD j false).length := by
  intro T
  induction T with
  | nil => rfl
  | cons b T ih =>
   rw [List.count_cons,ih,List.length_cons,List.range_succ_eq_map,List.filter_cons,List.filter_map,List.getD_cons_zero]
   have : ((fun j => (b :: T).getD j false) ∘ Nat.succ) = fun j => T.getD j false := funext fun j => by simp
   rw [this]
   cases b <;> simp
 have h2 : ((List.range m.T.length).filter fun j => m.T.getD j false).Perm (unitsF m.F) := by
  refine (List.perm_ext_iff_of_nodup (List.Nodup.sublist List.filter_sublist List.nodup_range) h.once).2 fun j => ?_
  rw [List.mem_filter,List.mem_range]
  refine ⟨fun hj => (h.taken j).1 hj.2,fun hj => ⟨?_,(h.taken j).2 hj⟩⟩
  have := (h.taken j).2 hj
  rw [List.getD_eq_getElem?_getD] at this
  rcases Nat.lt_or_ge j m.T.length with hl | hl
  ·exact hl
  ·rw [List.getElem?_eq_none hl] at this
   cases this
 have h3 := h1 m.T
 rw [h2.length_eq] at h3
 have h4 : ∀ T : List Bool,T.count false + T.count true = T.length := by
  intro T
  induction T with
  | nil => rfl
  | cons b T ih => cases b <;> simp <;> omega
 rw [← h3]
 exact h4 m.T
theorem Has.used {m : StoM} {A : List (Bs × Bs)} (h : Has m A) (hi : Inv m) (hd : DGood m.ds) : m.T.count false + usedA A = m.T.length := by
 have e1 : (unitsF m.F).length = (m.F.map fun f => needsN f.size).sum := by
  have : ∀ F : List FileM,(∀ f ∈ F,sumN f.ext = needsN f.size) → (unitsF F).length = (F.map fun f => needsN f.size).sum := by
   intro F
   induction F with
   | nil => intro _;rfl
   | cons f F ih =>
    intro hs
    rw [unitsF_cons,List.length_append,unitsL_length,hs f List.mem_cons_self,ih fun g hg => hs g (List.mem_cons_of_mem _ hg)]
    rfl
  exact this m.F hi.sum
 have e2 : usedA A = (m.F.map fun f => needsN f.size).sum := by
  have h1 := (List.Perm.map (fun x : Bs × Bs => needsN x.2.length) h).sum_nat
  rw [List.map_map] at h1
  unfold usedA
  rw [← h1]
  congr 1
  refine List.map_congr_left fun f hf => ?_
  show needsN (readF m f).length = _
  rw [readF_len hi hd hf]
 have := count_used hi
 omega
theorem runs_sum : ∀ (T : List Bool) (i c : Nat),sumN (runs T i c) = T.count false + c
 | [],i,c => by
  rw [runs]
  split
  ·rename_i h;subst h;rfl
  ·simp [sumN]
 | true :: T,i,c => by
  have ih := runs_sum T (i + 1) 0
  rw [runs,sumN_app,ih]
  split
  ·rename_i h;subst h;simp [sumN]
  ·simp [sumN];omega
 | false :: T,i,c => by
  rw [runs,runs_sum T (i + 1) (c + 1)]
  simp;omega
theorem trimR_snd : ∀ (l : List (Nat × Nat)) (k : Nat),(trimR l k).2 = k - sumN l
 | [],k => by simp [trimR,sumN]
 | x :: l,k => by
  rw [trimR,sumN_cons]
  split
  ·rename_i h;subst h;simp
  ·show (trimR l (k - min x.2 k)).2 = _
   rw [trimR_snd l]
   omega
theorem len_sum : ∀ (l : List (Nat × Nat)),(∀ x ∈ l,1 ≤ x.2) → l.length ≤ sumN l
 | [],_ => Nat.zero_le _
 | x :: l,h => by
  have h1 := len_sum l fun y hy => h y (List.mem_cons_of_mem _ hy)
  have h2 := h x List.mem_cons_self
  rw [sumN_cons,List.length_cons]
  omega
theorem take_ok {T : List Bool} {k most : Nat} (h : k ≤ T.count false) (hm : k ≤ most) : ∃ l T',takeS T k most = some (l,T') := by
 obtain ⟨h1,h2⟩ := runs_all T
 obtain ⟨_,h4⟩ := trimR_good (fun j => T.getD j true = false) T.length _ _ k h1 h2
 have e1 := trimR_snd (runs T 0 0) k
 rw [runs_sum] at e1
 have e2 := trimR_sum (runs T 0 0) k
 have e3 := len_sum (trimR (runs T 0 0) k).1 fun x hx => (h4 x hx).1
 obtain ⟨T',h5,_⟩ := take_claims T k
 unfold takeS
 rw [if_neg (by omega),h5]
 exact ⟨_,_,rfl⟩
theorem Has.wrote {m : StoM} {A : List (Bs × Bs)} (h : Has m A) (hi : Inv m) (n d : Bs) (h0 : (opW m n d).1 = 0) : Has (opW m n d).2 ((n,d) :: A.filter fun x => !(x.1 == n)) := by
 revert h0
 unfold opW
 cases hq : (preW m n d).2 with
 | none =>
  dsimp only
  intro h0
  exfalso
  unfold preW at h0 hq
  split at h0
  ·cases h0
  ·split at h0
   ·cases h0
   ·split at h0
    ·cases h0
    ·split at h0
     ·cases h0
     ·split at h0
      ·cases h0
      ·rename_i g1 g2 _ i hs _ l T1 ht _ T2 ht2
       rw [if_neg g1,if_neg g2] at hq
       simp only [hs,ht,ht2] at hq
       cases hq
 | some q =>
  obtain ⟨T2,f⟩ := q
  have hz := preW_zero hq
  dsimp only
  rw [fin_on hi.cut hi.on]
  intro _
  obtain ⟨c1,c2,c3⟩ := write_read hi hz
  have hp := perm_put m.F f hi.names
  have h1 := List.Perm.map (fun g => (g.name,readF ⟨(DS.run (putC m.most T2 (secL (m.most + 7) f.ext) d f) m.ds).2,putF m.F f,T2,m.most,m.off⟩ g)) hp
  refine List.Perm.trans h1 ?_
  rw [List.map_cons,c1,c2]
  refine List.Perm.cons _ ?_
  have h2 := List.Perm.filter (fun x : Bs × Bs => !(x.1 == n)) h
  rw [List.filter_map] at h2
  refine List.Perm.trans (List.Perm.of_eq ?_) h2
  show List.map _ (m.F.filter fun g => !(g.name == n)) = _
  refine List.map_congr_left fun g hg => ?_
  have hg2 : g ∈ delF m.F n := hg
  rw [c3 g hg2]
theorem pige : ∀ (E : List Nat) (k : Nat),(∀ e,e < k → e ∈ E) → k ≤ E.length := fun E k h => range_le k E h
theorem opW_ok {m : StoM} {A : List (Bs × Bs)} (h : Has m A) (hi : Inv m) (hd : DGood m.ds) {n d : Bs} (hg : goodF n = true) (hl : d.length ≤ 1048576) (hk : needsN d.length ≤ 64) (hf : needsN d.length + usedA A ≤ m.T.length) (hs : n ∈ A.map (·.1) ∨ A.length < m.most) : (opW m n d).1 = 0 := by
 have hu := h.used hi hd
 obtain ⟨l,T1,ht⟩ := take_ok (T := m.T) (k := needsN d.length) (most := 64) (by omega) hk
 obtain ⟨a1,a2,a3,a4,a5,a6⟩ := takeS_facts ht
 obtain ⟨o1,o2,o3⟩ := old_facts hi n
 obtain ⟨_,_,_,u4⟩ := take_units hi ht
 obtain ⟨T2,ht2,_⟩ := turnS_give (oldX m.F n) T1 (fun x hx => by rw [a4];exact o1 x hx) o2 (fun j hj => by
  have h1 := o3 j hj
  exact (u4 j).2 (.inr ((hi.taken j).1 h1)))
 have hslot : ∃ i,slotW m n = some i := by
  unfold slotW
  cases hx : fileOf m.F n with
  | some f => exact ⟨_,rfl⟩
  | none =>
   cases hv : vacN m.F m.most with
   | some i => exact ⟨i,rfl⟩
   | none =>
    exfalso
    have h1 := vacN_none hv
    have h2 := pige (m.F.map (·.entry)) m.most fun e he => by
     obtain ⟨f,hf,rfl⟩ := h1 e he
     exact List.mem_map.2 ⟨f,hf,rfl⟩
    rw [List.length_map,h.len] at h2
    rcases hs with hs | hs
    ·obtain ⟨f,hf,e⟩ := List.mem_map.1 (h.names.mem_iff.2 hs)
     exact fileOf_none.1 hx f hf e
    ·omega
 obtain ⟨i,hsl⟩ := hslot
 have hp : preW m n d = (0,some (T2,⟨n,i,d.length,l⟩)) := by
  unfold preW
  rw [if_neg (by rw [hg];simp),if_neg (by omega),hsl]
  simp only [ht,ht2]
 unfold opW
 rw [hp]
 dsimp only
 rw [fin_on hi.cut hi.on]
theorem Has.renamed {m : StoM} {A : List (Bs × Bs)} (h : Has m A) (hi : Inv m) {a b d : Bs} (hg : goodF b = true) (hab : a ≠ b) (ha : (a,d) ∈ A) : (opN m a b).1 = 0 ∧ Has (opN m a b).2 ((b,d) :: A.filter fun x => !(x.1 == a) && !(x.1 == b)) := by
 obtain ⟨f,hfm,hfn,hfd,hff⟩ := h.file hi ha
 have hga : goodF a = true := by rw [← hfn];exact hi.good f hfm
 obtain ⟨T2,C,hp,hC,hl⟩ : ∃ T2 C,preN m a b = (0,some (T2,C,putF (delF m.F a) (renF f b))) ∧ (∀ c ∈ C,c.1 < m.most) ∧ C.length ≤ 2 := by
  have hn : ¬ (goodF a = false ∨ goodF b = false) := by rw [hga,hg];simp
  cases hx : fileOf m.F b with
  | none =>
   refine ⟨m.T,[(f.entry,entryB b f.size f.ext)], ?_,fun c hc => ?_,by simp⟩
   ·unfold preN
    rw [if_neg hn,hff]
    simp only [if_neg hab,hx]
   ·obtain rfl := List.mem_singleton.1 hc
    exact hi.b.ent f hfm
  | some g =>
   obtain ⟨o1,o2,o3⟩ := old_facts hi b
   obtain ⟨T2,ht2,_⟩ := turnS_give (oldX m.F b) m.T o1 o2 o3
   have e : oldX m.F b = g.ext := by unfold oldX;rw [hx];rfl
   rw [e] at ht2
   refine ⟨T2,two2 f.entry (entryB b f.size f.ext) g.entry [], ?_,fun c hc => ?_, ?_⟩
   ·unfold preN
    rw [if_neg hn,hff]
    simp only [if_neg hab,hx,ht2]
   ·rcases two2_mem.1 hc with rfl | rfl
    ·exact hi.b.ent f hfm
    ·exact hi.b.ent g (fileOf_mem hx)
   ·unfold two2;split <;> simp
 unfold opN
 rw [hp]
 dsimp only
 rw [fin_on hi.cut hi.on]
 refine ⟨rfl, ?_⟩
 have hr : ∀ g,readF ⟨(DS.run (settleC m.most T2 C) m.ds).2,putF (delF m.F a) (renF f b),T2,m.most,m.off⟩ g = readF m g := fun g => settle_read hi hC hl g
 have hp2 := perm_put (delF m.F a) (renF f b) (delF_nodup hi.names)
 have h1 := List.Perm.map (fun g => (g.name,readF ⟨(DS.run (settleC m.most T2 C) m.ds).2,putF (delF m.F a) (renF f b),T2,m.most,m.off⟩ g)) hp2
 refine List.Perm.trans h1 ?_
 rw [List.map_cons,hr]
 have e1 : readF m (renF f b) = d := hfd
 rw [e1]
 refine List.Perm.cons _ ?_
 have h2 := List.Perm.filter (fun x : Bs × Bs => !(x.1 == a) && !(x.1 == b)) h
 rw [List.filter_map] at h2
 refine List.Perm.trans (List.Perm.of_eq ?_) h2
 have e2 : delF (delF m.F a) (renF f b).name = m.F.filter ((fun x : Bs × Bs => !(x.1 == a) && !(x.1 == b)) ∘ fun f => (f.name,readF m f)) := by
  unfold delF
  rw [List.filter_filter]
  refine List.filter_congr fun g _ => ?_
  show (!(g.name == b) && !(g.name == a)) = (!(g.name == a) && !(g.name == b))
  exact Bool.and_comm _ _
 rw [e2]
 exact List.map_congr_left fun g _ => by rw [hr g]
theorem tmp_good : goodF tmpL = true := by decide
theorem lfilter_all {A : List (Bs × Bs)} {n : Bs} (h : n ∉ A.map (·.1)) : A.filter (fun x => !(x.1 == n)) = A := by
 rw [List.filter_eq_self]
 intro x hx
 have : x.1 ≠ n := fun e => h (List.mem_map.2 ⟨x,hx,e⟩)
 simpa using this
theorem lput_new {m : StoM} {A : List (Bs × Bs)} (h : Has m A) (hi : Inv m) (hd : DGood m.ds) {p q : Nat} {d : Bs} (hl : d.length ≤ 16384) (hf : needsN d.length + usedA A ≤ m.T.length) (hs : A.length < m.most) (ht : tmpL ∉ A.map (·.1)) (hn : nameL (shaS d) ∉ A.map (·.1)) :
  ∃ m',putL m p q d = ((shaS d,0),m',p + 1,q) ∧ Inv m' ∧ m'.most = m.most ∧ m'.T.length = m.T.length ∧ Has m' ((nameL (shaS d),d) :: A) := by
 have hg : goodF (nameL (shaS d)) = true := nameL_good (by rw [shaS_length];decide)
 have h0 := opW_ok h hi hd tmp_good (d := d) (by omega) (by unfold needsN;omega) hf (.inr (by omega))
 have h1 := h.wrote hi tmpL d h0
 obtain ⟨i1,i2,i3⟩ := opW_inv hi tmpL d
 rw [lfilter_all ht] at h1
 obtain ⟨r1,r2⟩ := h1.renamed i1 hg (fun e => nameL_tmp _ e.symm) (List.mem_cons_self ..)
 obtain ⟨j1,j2,j3⟩ := opN_inv i1 tmpL (nameL (shaS d))
 refine ⟨(opN (opW m tmpL d).2 tmpL (nameL (shaS d))).2, ?_,j1,j2.trans i2,j3.trans i3, ?_⟩
 ·unfold putL
  rw [if_neg (by omega),if_neg (by rw [(h.gone hg hn).2];decide),if_pos h0,if_pos r1]
 ·rw [List.filter_cons,if_neg (by simp)] at r2
  have e : A.filter (fun x => !(x.1 == tmpL) && !(x.1 == nameL (shaS d))) = A := by
   rw [List.filter_eq_self]
   intro x hx
   have e1 : x.1 ≠ tmpL := fun e => ht (List.mem_map.2 ⟨x,hx,e⟩)
   have e2 : x.1 ≠ nameL (shaS d) := fun e => hn (List.mem_map.2 ⟨x,hx,e⟩)
   simp [e1,e2]
  rwa [e] at r2
theorem lget_in {m : StoM} {A : List (Bs × Bs)} (h : Has m A) (hi : Inv m) {r : Nat} {id d : Bs} (ha : (nameL id,d) ∈ A) (hs : shaS d = id) : getL m r id = ((d,0),r + 1) := by
 obtain ⟨_,h2,h3⟩ := h.find hi ha
 unfold getL
 rw [if_pos h3,h2,if_pos hs]
theorem llist_perm {m : StoM} {A : List (Bs × Bs)} (h : Has m A) : (listL (namesS m.F)).Perm (listL (A.map (·.1))) := by
 unfold listL namesS
 exact List.Perm.filterMap _ ((List.mergeSort_perm _ _).trans h.names)
theorem lread_len {m : StoM} (hi : Rdy m) (hd : DGood m.ds) (n : Bs) : (readW m n).length ≤ 1048576 := by
 unfold readW
 split
 ·cases hx : fileOf m.F n with
  | none => simp
  | some f =>
   rw [Option.map_some,Option.getD_some,readF_len2 hi hd (fileOf_mem hx)]
   exact hi.b.siz f (fileOf_mem hx)
 ·simp
theorem lhas_fresh (n f : Nat) : Has (freshM n f) [] := List.Perm.refl _
open Go.RowKit
theorem Sto.all_lt {w : World} {X : List Nat} {S D Lg M : Nat} {m : StoM} (h : Sto w X S D Lg M m) : ∀ y ∈ S :: M :: X,y < w.heap.size := by
 intro y hy
 obtain ⟨ad,hm,_⟩ := h.map
 rcases List.mem_cons.1 hy with rfl | hy
 ·exact h.blk.lt
 ·rcases List.mem_cons.1 hy with rfl | hy
  ·exact hm.lt
  ·exact h.dsk.lt y hy
set_option maxRecDepth 100000 in
set_option maxHeartbeats 2000000 in
theorem open_ok {X : List Nat} {S D Lg M : Nat} {m : StoM} (w : World) (h : Sto w X S D Lg M m) (hi : Rdy m) (hR : RT w) (h0 : 0 ∉ S :: M :: X) (ho : (opR m tmpL).1 = 0 ∨ (opR m tmpL).1 = 9) :
  Calls Tryz.prog 11 #[.pointer (some ⟨S,0,none⟩)] w fun e w' => ∃ X' L,e = .returned (.tuple #[.pointer (some ⟨L,0,none⟩), .int .i64 0]) ∧ Loo w' X' S D Lg M (opR m tmpL).2 L 0 0 0 ∧ Mv (S :: M :: X) (S :: M :: X') w w' ∧ w.heap.size ≤ L := by
 have hw := h.pos
 obtain ⟨o,hoo⟩ : ∃ t,opR m tmpL = t := ⟨_,rfl⟩
 rw [hoo] at ho ⊢
 obtain ⟨E,hE⟩ : ∃ t,o.1 = t := ⟨_,rfl⟩
 rw [hE] at ho
 have KR : Calls Tryz.prog 39 #[.pointer (some ⟨S,0,none⟩), .string ⟨#[116,109,112]⟩] w fun e w' => e = .returned (.int .i64 (E : Nat)) ∧ ∃ X',Mv (S :: M :: X) (S :: M :: X') w w' ∧ Sto w' X' S D Lg M o.2 := by
  rw [← hE, ← hoo];exact opR_any X S D Lg M m tmpL w h hi (by decide)
 have HKR := Lib.hid KR
 have HR := Lib.hid (And.intro hR (And.intro h0 hw))
 clear hoo hE KR h hi hR h0 hw
 have key : ∀ X' w4,Mv (S :: M :: X) (S :: M :: X') w w4 → Sto w4 X' S D Lg M o.2 → Loo (w4.alloc (.cells #[.pointer (some ⟨S,0,none⟩), .int .i64 0, .int .i64 0, .int .i64 0] 75)) X' S D Lg M o.2 w4.heap.size 0 0 0 ∧ Mv (S :: M :: X) (S :: M :: X') w (w4.alloc (.cells #[.pointer (some ⟨S,0,none⟩), .int .i64 0, .int .i64 0, .int .i64 0] 75)) ∧ w.heap.size ≤ w4.heap.size := fun X' w4 hm hs =>
  ⟨⟨hs.below (below_alloc _ _),Blk.new w4 _ 75,⟨fun hx => Nat.lt_irrefl _ (hs.all_lt _ hx),hs.pos⟩,fun k hk => ((below_alloc w4 _).cell (p := ⟨0,k,none⟩) (by have := hs.pos;show 0 < _;omega)).trans ((hm.frm.cell (p := ⟨0,k,none⟩) (by have := HR.out.2.2;show 0 < _;omega) HR.out.2.1).trans (HR.out.1 k hk)),hm.apart HR.out.2.1 (by have := HR.out.2.2;omega)⟩,hm.alloc _,hm.size⟩
 have HK := Lib.hid key
 clear key
 rcases ho with rfl | rfl
 ·go_enter Tryz.func11,Tryz.ntmps11
  go_wp2_with (go_at_call 39;refine HKR.out.mono ?_;rintro e w4 ⟨rfl,X4,hm4,hs4⟩;have HL4 := Lib.hid (HK.out X4 w4 hm4 hs4);clear hm4 hs4)
  go_ret2
  exact ⟨X4,w4.heap.size,rfl,HL4.out⟩
 ·go_enter Tryz.func11,Tryz.ntmps11
  go_wp2_with (go_at_call 39;refine HKR.out.mono ?_;rintro e w4 ⟨rfl,X4,hm4,hs4⟩;have HL4 := Lib.hid (HK.out X4 w4 hm4 hs4);clear hm4 hs4)
  go_ret2
  exact ⟨X4,w4.heap.size,rfl,HL4.out⟩
set_option maxRecDepth 100000 in
set_option maxHeartbeats 2000000 in
theorem open_bad {X : List Nat} {S D Lg M : Nat} {m : StoM} (w : World) (h : Sto w X S D Lg M m) (hi : Rdy m) (ho : ¬ ((opR m tmpL).1 = 0 ∨ (opR m tmpL).1 = 9)) :
  Calls Tryz.prog 11 #[.pointer (some ⟨S,0,none⟩)] w fun e w' => ∃ X',e = .returned (.tuple #[.pointer none, .int .i64 ((opR m tmpL).1 : Nat)]) ∧ Sto w' X' S D Lg M (opR m tmpL).2 ∧ Mv (S :: M :: X) (S :: M :: X') w w' := by
 obtain ⟨o,hoo⟩ : ∃ t,opR m tmpL = t := ⟨_,rfl⟩
 rw [hoo] at ho ⊢
 obtain ⟨E,hE⟩ : ∃ t,o.1 = t := ⟨_,rfl⟩
 rw [hE] at ho ⊢
 have KR : Calls Tryz.prog 39 #[.pointer (some ⟨S,0,none⟩), .string ⟨#[116,109,112]⟩] w fun e w' => e = .returned (.int .i64 (E : Nat)) ∧ ∃ X',Mv (S :: M :: X) (S :: M :: X') w w' ∧ Sto w' X' S D Lg M o.2 := by
  rw [← hE, ← hoo];exact opR_any X S D Lg M m tmpL w h hi (by decide)
 have HKR := Lib.hid KR
 have a1 : ((E : Int) != 0) = true := by simpa using (by omega : ¬ E = 0)
 have a2 : ((E : Int) != 9) = true := by simpa using (by omega : ¬ (E : Int) = 9)
 have a3 : ((E : Int) == 0) = false := by simpa using (by omega : ¬ E = 0)
 have a4 : ((E : Int) == 9) = false := by simpa using (by omega : ¬ (E : Int) = 9)
 have a5 : ¬ (E : Int) = 0 := by omega
 have a6 : ¬ (E : Int) = 9 := by omega
 clear hoo hE KR h hi ho
 go_enter Tryz.func11,Tryz.ntmps11
 go_wp2_with (go_at_call 39;refine HKR.out.mono ?_;rintro e w4 ⟨rfl,X4,hm4,hs4⟩;have HL4 := Lib.hid (And.intro hs4 hm4);clear hm4 hs4)
 go_ret2
 exact ⟨X4,rfl,HL4.out⟩
theorem fresh_open (n f : Nat) : opR (freshM n f) tmpL = (9,freshM n f) := rfl
set_option maxRecDepth 100000 in
set_option maxHeartbeats 4000000 in
theorem lmade_any (n f : Nat) (w : World) (h1 : 1 ≤ f) (h2 : f ≤ 256) (h3 : f + 8 ≤ n) (h4 : n ≤ 4000) (hT : TB w) (hR : RT w) (hw : 1 < w.heap.size) :
  Calls Tryz.prog 15 #[.int .i64 n, .int .i64 f] w fun e w' => ∃ X D S Lg M L,e = .returned (.tuple #[.pointer (some ⟨D,0,none⟩), .pointer (some ⟨S,0,none⟩), .pointer (some ⟨L,0,none⟩), .bool true]) ∧ Loo w' X S D Lg M (freshM n f) L 0 0 0 ∧ Nw w (L :: S :: M :: X) w' := by
 have KN := new_any n w (by omega) (by omega)
 have KF := fun (X : List Nat) (D : Nat) (w1 : World) (hd : Dsk w1 X D ⟨List.replicate n zeroS,[],none,false⟩) => format_ok X D (List.replicate n zeroS) f w1 hd h1 h2 (by rw [List.length_replicate];exact h3)
 simp only [List.length_replicate,fmt_fresh] at KF
 have KM := fun (X : List Nat) (D : Nat) (w1 : World) (hd : Dsk w1 X D ⟨freshL n f,[],none,false⟩) (hT1 : TB w1) (hw1 : 1 < w1.heap.size) (hX : 1 ∉ X) =>
  mount0_any X D ⟨freshL n f,[],none,false⟩ f (n - f - 7) w1 hd rfl ⟨h1,h2⟩ (by rw [fresh_len];omega) (by omega) (by omega) (by rw [fresh_len];exact fresh_head n f (by omega)) (by rw [pack_zero _ (by omega)];exact fresh_zero n f 1 (by omega) (by omega)) (fun i hi => fresh_zero n f (2 + i) (by omega) (by omega)) (fresh_log n f h3) (by simp) hT1 hw1 hX
 have HKF := Lib.hid KF
 have HKM := Lib.hid KM
 have HT := Lib.hid (And.intro hT (And.intro hw hR))
 have HM0 := Lib.hid (show freshM n f = ⟨⟨freshL n f,[],none,false⟩,[],List.replicate (n - f - 7) false,f,false⟩ from rfl)
 have HO := Lib.hid (And.intro (fresh_open n f) (inv_fresh n f h1 h2 h3 h4).rdy)
 obtain ⟨FM0,hFM0⟩ : ∃ q,freshM n f = q := ⟨_,rfl⟩
 rw [hFM0] at HM0 HO ⊢
 clear KF KM h1 h2 h3 h4 hT hw hR hFM0
 go_enter Tryz.func15,Tryz.ntmps15
 go_wp2_with (first
  | (go_at_call 43;refine KN.mono ?_;rintro e w1 ⟨X1,D,rfl,hd1,hm1⟩;have KF1 := HKF.out X1 D w1 hd1;have HM1 := Lib.hid hm1;clear hd1 hm1 KN)
  | (go_at_call 44;refine KF1.mono ?_;rintro e w2 ⟨rfl,X2,hd2,hm2⟩;have hm12 := HM1.out.trans hm2;have ht2 := HT.out.1.mv hm12 HT.out.2.1 (by simp);have KM2 := HKM.out X2 D w2 hd2 ht2.1 ht2.2.1 ht2.2.2;have HM2 := Lib.hid hm12;clear hd2 hm2 hm12 ht2 KF1)
  | (go_at_call 23;refine KM2.mono ?_;rintro e w3 ⟨X3,S,Lg,M,rfl,hst,hm3,hS,hM⟩;rw [← HM0.out] at hst;have hn3 : Nw w (S :: M :: X3) w3 := ⟨(((Nw.start w).mv HM2.out).mv hm3).below,fun y hy => (List.mem_cons.1 hy).elim (fun e => by rw [e];exact Nat.le_trans HM2.out.size hS) (fun hy => (List.mem_cons.1 hy).elim (fun e => by rw [e];exact Nat.le_trans HM2.out.size hM) (fun hy => (((Nw.start w).mv HM2.out).mv hm3).new y hy))⟩;have KO := open_ok w3 hst HO.out.2 (HT.out.2.2.below (by have := HT.out.2.1;omega) hn3.below) (fun hx => by have h1 := hn3.new 0 hx;have h2 := HT.out.2.1;omega) (by rw [HO.out.1];exact .inr rfl);rw [HO.out.1] at KO;have HKO := Lib.hid KO;have HN3 := Lib.hid hn3;clear hst hm3 hS hM KM2 KO hn3)
  | (go_at_call 11;refine HKO.out.mono ?_;rintro e w4 ⟨X4,L,rfl,hl4,hm4,hL⟩;have H4 := Lib.hid (And.intro hl4 (And.intro (HN3.out.mv hm4) (Nat.le_trans HN3.out.below.size hL)));clear hl4 hm4 hL))
 refine bodyPost_ret (v := .tuple #[.pointer (some ⟨D,0,none⟩), .pointer (some ⟨S,0,none⟩), .pointer (some ⟨L,0,none⟩), .bool true]) ?_ rfl ?_
 ·simp [results,Tryz.f15,go_sem]
 ·exact ⟨X4,D,S,Lg,M,L,rfl,H4.out.1,H4.out.2.1.below,fun y hy => (List.mem_cons.1 hy).elim (fun e => by rw [e];exact H4.out.2.2) (fun hy => H4.out.2.1.new y hy)⟩
open Go.RowKit
def abc : Bs := [97,98,99]
theorem listL_names : ∀ (l : List Bs),(∀ i ∈ l,i.length = 32) → listL (l.map nameL) = l := by
 intro l
 induction l with
 | nil => intro _;rfl
 | cons i l ih =>
  intro h
  have h1 := ih fun j hj => h j (List.mem_cons_of_mem _ hj)
  unfold listL at h1 ⊢
  rw [List.map_cons,List.filterMap_cons,idOf_name (h i (List.mem_cons_self ..)),h1]
set_option maxRecDepth 100000 in
set_option maxHeartbeats 4000000 in
theorem lspeaks_any (w : World) (hT : TB w) (hR : RT w) (hw : 1 < w.heap.size) : Calls Tryz.prog 7 #[] w fun e w' => e = .returned (.bool true) ∧ Below w.heap.size w w' := by
 have KM := lmade_any 20 4 w (by decide) (by decide) (by decide) (by decide) hT hR hw
 have hi0 := inv_fresh 20 4 (by decide) (by decide) (by decide) (by decide)
 have hs32 := shaS_length abc
 have KP := fun (X : List Nat) (S D Lg M L : Nat) (w1 : World) (h : Loo w1 X S D Lg M (freshM 20 4) L 0 0 0) => put_loose abc w1 h hi0 (by decide) (by decide) (by decide)
 have hput : ∀ (ds : DGood (freshM 20 4).ds), ∃ m',putL (freshM 20 4) 0 0 abc = ((shaS abc,0),m',1,0) ∧ Inv m' ∧ Has m' [(nameL (shaS abc),abc)] ∧ m'.most = 4 := fun ds => by
  obtain ⟨m',h1,h2,h3,_,h5⟩ := lput_new (lhas_fresh 20 4) hi0 ds (p := 0) (q := 0) (d := abc) (by decide) (by decide) (by decide) (by simp) (by simp)
  exact ⟨m',h1,h2,h5,h3⟩
 have HKP := Lib.hid KP
 have HPUT := Lib.hid hput
 obtain ⟨ID,hID⟩ : ∃ t,shaS abc = t := ⟨_,rfl⟩
 obtain ⟨I,hI⟩ : ∃ t,mk ID = t := ⟨_,rfl⟩
 have HS := Lib.hid (And.intro hID (And.intro hI hs32))
 clear KP hput hs32 hi0 hID
 go_enter Tryz.func7,Tryz.ntmps7
 go_wp2_with (first
  | (go_at_call 15;refine KM.mono ?_;rintro e w1 ⟨X1,D,S,Lg,M,L,rfl,hl1,hn1⟩;obtain ⟨m1,hp1,hi1,hA1,hm1⟩ := HPUT.out hl1.sto.dsk.good;have KP1 := HKP.out X1 S D Lg M L w1 hl1;unfold PutLP at KP1;rw [hp1,HS.out.1,HS.out.2.1] at KP1;have HP1 := Lib.hid (And.intro hi1 hA1);have HKP1 := Lib.hid KP1;have HN1 := Lib.hid hn1;clear KM hl1 hn1 hp1 hi1 hA1 hm1 KP1)
  | (
   go_at_call 8;refine HKP1.out.mono ?_;rintro e w2 ⟨rfl,X2,hm2,hl2⟩
   have hi1 := HP1.out.1
   have hA1 := HP1.out.2
   have hidl : ID.length = 32 := by rw [← HS.out.1];exact HS.out.2.2
   have hmem : (nameL ID,abc) ∈ [(nameL (shaS abc),abc)] := by rw [HS.out.1];exact List.mem_cons_self ..
   have KG := get_loose ID w2 hl2 hi1.rdy hidl (by decide) (by have := lread_len hi1.rdy hl2.sto.dsk.good (nameL ID);omega)
   unfold GetLP at KG
   rw [lget_in hA1 hi1 hmem HS.out.1,HS.out.2.1,show mk abc = ⟨#[97,98,99]⟩ from rfl] at KG
   have HF := Lib.hid (show findE m1.F (nameL ID) = 0 from (hA1.find hi1 hmem).2.2)
   have HLL := Lib.hid (show (listL (namesS m1.F)).length = 1 by
    rw [(llist_perm hA1).length_eq]
    show (listL ([shaS abc].map nameL)).length = 1
    rw [listL_names _ (by intro i hi;rw [List.mem_singleton.1 hi];exact HS.out.2.2)]
    rfl)
   have HKG := Lib.hid KG
   have H2 := Lib.hid (And.intro hl2 (And.intro (HN1.out.mv hm2) hidl))
   clear hi1 hA1 hidl hmem KG hm2 hl2)
  | (
   go_at_call 9;refine HKG.out.mono ?_;rintro e w3 ⟨rfl,hm3,hl3⟩
   have KH := lhas_any ID w3 hl3 HP1.out.1.rdy H2.out.2.2
   rw [HF.out,HS.out.2.1,show ((0 : Nat) == 0) = true from rfl] at KH
   have HKH := Lib.hid KH
   have H3 := Lib.hid (And.intro hl3 (H2.out.2.1.mv hm3))
   clear KH hm3 hl3)
  | (
   go_at_call 12;refine HKH.out.mono ?_;rintro e w4 ⟨rfl,hb4⟩
   have KL := list_loose w4 (H3.out.1.below hb4) HP1.out.1.b.len
   rw [HLL.out] at KL
   have HKL := Lib.hid KL
   have H4 := Lib.hid (And.intro (H3.out.2.below.trans (hb4.mono H3.out.2.below.size)) H3.out.2)
   clear KL hb4)
  | (go_at_call 14;refine HKL.out.mono ?_;rintro e w5 ⟨A5,c5,rfl,_,hb5⟩;have H5 := Lib.hid (H4.out.1.trans (hb5.mono H4.out.1.size));clear hb5))
 go_ret
 exact ⟨rfl,H5.out⟩
open Go.RowKit
def DS.spoil (d : DS) (i : Nat) (b : Bs) : DS := ⟨d.L.set i (fullB b),[],d.cut,d.off⟩
theorem index_nil (A : Option Addr) (c : Nat) (f : Value) (w : World) : Calls Tryz.prog 109 #[.slice A 0 c,f] w fun e w' => e = .returned (.int .i64 (-1)) ∧ w' = w := by
 go_enter Tryz.func109,Tryz.ntmps109
 go_wp2
 go_loopw [8] (fun iv wr => iv = .int .i64 0 ∧ wr = w) (fun _ _ => 0)
 case atStart => exact ⟨rfl,rfl⟩
 case round =>
  obtain ⟨rfl,rfl⟩ := hrel
  go_wp2
  go_ret
  exact ⟨rfl,rfl⟩
theorem delete_nil (A : Option Addr) (c : Nat) (f : Value) (w : World) : Calls Tryz.prog 72 #[.slice A 0 c,f] w fun e w' => e = .returned (.slice A 0 c) ∧ w' = w := by
 have KI := index_nil A c f w
 go_enter Tryz.func72,Tryz.ntmps72
 go_wp2_with (go_at_call 109;refine KI.mono ?_;rintro e w' ⟨rfl,hw⟩;obtain rfl := hw.symm;clear KI)
 go_ret
 exact ⟨rfl,rfl⟩
set_option maxRecDepth 100000 in
set_option maxHeartbeats 2000000 in
theorem spoil_any (X : List Nat) (D : Nat) (d : DS) (i : Nat) (b : Bs) (w : World) (h : Dsk w X D d) (hS : d.S = []) (hb : b.length ≤ 512) (hi : i < d.L.length) :
  Calls Tryz.prog 30 #[.pointer (some ⟨D,0,none⟩), .int .i64 i, .string (mk b)] w fun e w' => e = .returned (.int .i64 0) ∧ Dsk w' X D (d.spoil i b) ∧ Frm X w w' := by
 have hb0 := below_alloc w (.cells #[.int .i64 i] 3)
 have h0 := h.below hb0
 have K := has_any X D d i (w.alloc (.cells #[.int .i64 i] 3)) h0
 rw [show decide (0 ≤ (i : Int) ∧ (i : Int) < d.L.length) = true by simp;omega] at K
 have KF := fun w1 => full_any b w1 hb
 have KD := delete_nil
 obtain ⟨gL,cL,vS,vC,cnt,hB,hL,hSr,hC,hgX,hvX⟩ := h0.blk
 have hgd := h0.good
 have hmem := h0.mem
 have hlt : ∀ x ∈ X,x < w.heap.size := h.lt
 have hBi := Blk.new w #[.int .i64 (i : Int)] 3
 have hbl := mk_size b
 obtain ⟨L,S,ct,off⟩ := d
 dsimp only at hS hi hB hL hSr hC hgd K
 subst hS
 unfold DS.spoil
 dsimp only
 obtain ⟨n,hn⟩ : ∃ n,L.length = n := ⟨_,rfl⟩
 rw [hn] at hB hL hi
 obtain ⟨A,c,hvS⟩ : ∃ A c,vS = .slice A 0 c := row_form hSr
 subst hvS
 obtain ⟨DT,hDT⟩ : ∃ q,mk b = q := ⟨_,rfl⟩
 obtain ⟨FD,hFD⟩ : ∃ q,mk (fullB b) = q := ⟨_,rfl⟩
 simp only [hDT,hFD] at KF
 rw [hDT] at hbl ⊢
 have hd0 : ¬ ((DT.size : Int) > 512) := by omega
 have hd1 : ¬ ((512 : Int) < (DT.size : Int)) := by omega
 have i0 : (0 : Int) ≤ (i : Int) := by omega
 have i1 : (i : Int) < (n : Int) := by omega
 obtain ⟨Bi,hBie⟩ : ∃ q,w.heap.size = q := ⟨_,rfl⟩
 obtain ⟨W0,hW0⟩ : ∃ q,w.alloc (.cells #[.int .i64 i] 3) = q := ⟨_,rfl⟩
 have hfr0 : Frm X w W0 := by rw [← hW0];exact Frm.of_below X hb0
 rw [hBie] at hBi
 rw [hW0] at K hB hL hSr hC hBi
 have hDi : D ≠ Bi := fun e => by have := hlt D hmem;omega
 have hgi : gL ≠ Bi := fun e => by have := hlt gL hgX;omega
 have HW := Lib.hid (And.intro hW0 hBie)
 have HG := Lib.hid (And.intro hgd (And.intro hmem (And.intro hlt (And.intro hgX hvX))))
 have HN := Lib.hid (And.intro hn (And.intro hFD hb))
 have HB := Lib.hid (show Blk W0 D #[.slice (some ⟨gL,0,none⟩) n cL, .slice A 0 c,vC, .bool off, .int .i64 cnt] 124 ∧ W0.ownsRow 0 9 1 (.slice (some ⟨gL,0,none⟩) n cL) n (txc L) ∧ W0.ownsRow 0 134 2 (.slice A 0 c) 0 [] ∧ CutAt W0 X vC ct ∧ Blk W0 Bi #[.int .i64 (i : Int)] 3 ∧ Frm X w W0 from ⟨hB,hL,hSr,hC,hBi,hfr0⟩)
 have HE := Lib.hid (And.intro hDi hgi)
 have b0 := hBi.cell 0
 have bl := hBi.lt
 simp at b0
 have mixed := mixedT
 clear h h0 hb0 hB hL hSr hC hgX hvX hgd hmem hlt hBi hW0 hBie hfr0 hDi hgi hn hDT hFD hb
 go_enter Tryz.func30,Tryz.ntmps30
 go_upto_region 1 with (fail)
 try rw [HW.out.1,HW.out.2]
 try simp only [HW.out.1,HW.out.2]
 go_upto_region 3 with (first
  | (go_at_call 70;refine K.mono ?_;rintro e w' ⟨rfl,hw⟩;obtain rfl := hw.symm;clear K))
 clear b0 bl
 refine wp_region_held (S := fun w' => Blk w' D #[.slice (some ⟨gL,0,none⟩) n cL, .slice A 0 c,vC, .bool off, .int .i64 cnt] 124 ∧ Blk w' Bi #[.int .i64 (i : Int)] 3) mixed ?_
 change wpAnyH _ _ _ _ _ _ _ _ W0.drew
 have hD : Blk W0.drew D #[.slice (some ⟨gL,0,none⟩) n cL, .slice A 0 c,vC, .bool off, .int .i64 cnt] 124 ∧ W0.drew.ownsRow 0 9 1 (.slice (some ⟨gL,0,none⟩) n cL) n (txc L) ∧ W0.drew.ownsRow 0 134 2 (.slice A 0 c) 0 [] ∧ CutAt W0.drew X vC ct ∧ Blk W0.drew Bi #[.int .i64 (i : Int)] 3 ∧ Frm X w W0.drew := ⟨HB.out.1,HB.out.2.1,HB.out.2.2.1,HB.out.2.2.2.1.drew,HB.out.2.2.2.2.1,HB.out.2.2.2.2.2.drew⟩
 obtain ⟨wd,hwd⟩ : ∃ q,W0.drew = q := ⟨_,rfl⟩
 rw [hwd] at hD ⊢
 clear hwd
 have hS0 := And.intro hD.1 hD.2.2.2.2.1
 have HD := Lib.hid hD
 clear hD
 refine tkQ 0 (.pointer (some ⟨D,0,none⟩)) rfl hS0 ?_
 try go_simp
 refine tkQ 1 (.pointer (some ⟨D,0,none⟩)) rfl hS0 ?_
 try go_simp
 refine tkQ 2 (.pointer (some ⟨D,0,none⟩)) rfl hS0 ?_
 try go_simp
 refine tkH 3 (.slice (some ⟨gL,0,none⟩) n cL) rfl hS0 (fun w' hS => ?_) ?_
 ·have q0 := hS.1.cell 0;simp at q0;go_simp
 try go_simp
 refine tkH 4 (.int .i64 (i : Int)) rfl hS0 (fun w' hS => ?_) ?_
 ·have q0 := hS.2.cell 0;simp at q0;go_simp
 try go_simp
 refine tkQ 5 (.string DT) rfl hS0 ?_
 try go_simp
 refine alH 6 ?_
 unfold wpOp
 go_simp
 refine .inl ?_
 go_at_call 71
 refine (KF wd).mono ?_
 rintro e W ⟨rfl,hbW⟩
 have hS1 := And.intro (HD.out.1.below hbW) (HD.out.2.2.2.2.1.below hbW)
 have hL2 := (Frm.of_below [] hbW).row HD.out.2.1 (fun g _ => by simp)
 have hS2 := (Frm.of_below [] hbW).row HD.out.2.2.1 (fun g _ => by simp)
 have hC1 := HD.out.2.2.2.1.frm (Frm.of_below [] hbW) (fun _ _ => by simp)
 have hF1 := HD.out.2.2.2.2.2.trans (Frm.of_below X hbW) (fun x hx => .inl hx)
 refine ⟨hS1, ?_⟩
 try go_simp
 clear hS0 hbW KF
 refine tkQ 7 (.pointer (some ⟨gL,i,none⟩)) rfl hS1 ?_
 try go_simp
 refine alH 8 ?_
 have hi63 : i < n := by omega
 have r0 := hL2.cellAt i (by omega)
 have f0 := hL2.frozenAt i
 rw [txc_at _ i (by rw [HN.out.1];exact hi63)] at r0
 unfold wpOp
 go_simp
 have hne : gL ≠ D := fun e => own_ne_blk hL2 hS1.1 (by decide) (by rw [e];rfl)
 have hgr := grown_set W gL i (.string FD)
 have hB3 := hS1.1.grown hgr (by simpa using hne)
 have hZ3 := hS1.2.grown hgr (by simpa using HE.out.2)
 have hL3 := (World.ownsRow.stored hL2 i (.string FD)).1
 have hS3 := hS2.kept hgr (by
  rcases row_ne_row hS2 hL2 (by decide) with e | e
  ·exact .inl e
  ·exact .inr e)
 have hF3 := hF1.setCell (p := ⟨gL,i,none⟩) (.inl HG.out.2.2.2.1) (.string FD)
 have hC3 := (by
  obtain ⟨cs,fr,hc⟩ := row_blk hL2
  exact hC1.set hc (by decide) (by decide) i (.string FD) : CutAt (W.setCell ⟨gL,i,none⟩ (.string FD)) X vC ct)
 have hL4 : (W.setCell ⟨gL,i,none⟩ (.string FD)).ownsRow 0 9 1 (.slice (some ⟨gL,0,none⟩) n cL) n (txc (L.set i (fullB b))) := by
  rw [txc_set,HN.out.2.1];exact hL3
 obtain ⟨W2,hW2⟩ : ∃ q,W.setCell ⟨gL,i,none⟩ (.string FD) = q := ⟨_,rfl⟩
 rw [hW2] at hB3 hZ3 hL4 hS3 hC3 hF3 ⊢
 have HFN := Lib.hid (And.intro hB3 (And.intro hL4 (And.intro hS3 (And.intro hC3 hF3))))
 first | refine .inl ⟨⟨hB3,hZ3⟩, ?_⟩ | refine ⟨⟨hB3,hZ3⟩, ?_⟩
 refine wpAnyH_done (by kernel_rfl) ?_ _
 have x1 := hB3.cell 1
 have f1 := hB3.frozen 1
 have xl := hB3.lt
 simp at x1
 clear hS1 hL2 hS2 hC1 hF1 r0 f0 hne hgr hB3 hZ3 hL3 hS3 hF3 hC3 hL4 hW2
 go_wp2_with (first
  | (go_at_call 72;refine (KD _ _ _ _).mono ?_;rintro e w' ⟨rfl,hw⟩;obtain rfl := hw.symm))
 go_ret
 have hB4 := HFN.out.1.set 1 (.slice A 0 c)
 simp at hB4
 have hL5 := own_set HFN.out.2.1 HFN.out.1 (by decide) 1 (.slice A 0 c)
 have hS5 := own_set HFN.out.2.2.1 HFN.out.1 (by decide) 1 (.slice A 0 c)
 have hF5 := HFN.out.2.2.2.2.setCell (p := ⟨D,1,none⟩) (.inl HG.out.2.1) (.slice A 0 c)
 have hC5 := HFN.out.2.2.2.1.set HFN.out.1 (by decide) (by decide) 1 (.slice A 0 c)
 have hon : (L.set i (fullB b)).length = n := by rw [List.length_set,HN.out.1]
 have hgd : DGood ⟨L,[],ct,off⟩ := HG.out.1
 refine ⟨rfl,⟨⟨gL,cL, .slice A 0 c,vC,cnt,by simp only [hon];exact hB4,by simp only [hon];exact hL5,hS5,hC5,HG.out.2.2.2.1,HG.out.2.2.2.2⟩,
  ⟨fun x hx => ?_,fun x hx => (by cases hx),by simp only [hon];have := hgd.small;dsimp only at this;rw [HN.out.1] at this;exact this⟩,HG.out.2.1,fun x hx => Nat.lt_of_lt_of_le (HG.out.2.2.1 x hx) hF5.size⟩,hF5⟩
 rcases List.mem_or_eq_of_mem_set hx with hx | rfl
 ·exact hgd.lasts x hx
 ·exact full_length _ HN.out.2.2
open Go.RowKit Go.Maps
theorem Nw.sub {w w' : World} {Y Z : List Nat} (h : Nw w Y w') (hz : ∀ z ∈ Z,z ∈ Y) : Nw w Z w' := ⟨h.below,fun z hh => h.new z (hz z hh)⟩
theorem Nw.add {w w' : World} {Y Z : List Nat} (h : Nw w Y w') (hz : ∀ z ∈ Z,w.heap.size ≤ z) : Nw w (Y ++ Z) w' := ⟨h.below,fun z hh => by
 rcases List.mem_append.1 hh with h1 | h1
 ·exact h.new z h1
 ·exact hz z h1⟩
structure Quiet (ds : DS) : Prop where
 on : ds.off = false
 cut : ds.cut = none
 syn : ds.S = []
 len : ds.L.length = 40
structure Calm (ds : DS) (b : Nat) : Prop where
 on : ds.off = false
 cut : ds.cut = none
 len : ds.L.length = 40
 small : ds.S.length ≤ b
theorem mountM_calm {ds dsn : DS} {c b : Nat} {st : Option (List FileM × List Bool)} (h : Calm ds b) (hb : b ≤ 100000) (hm : mountM ds = (c,dsn,st)) :
  (st = none → c = 2 ∨ c = 14) ∧ ∀ F T,st = some (F,T) → Rdy ⟨dsn,F,T,filesH (secAt ds.vis 0),false⟩ ∧ Calm dsn (b + 10000) := by
 unfold mountM at hm
 split at hm
 ·simp only [Prod.mk.injEq] at hm
  obtain ⟨rfl,rfl,rfl⟩ := hm
  exact ⟨fun _ => .inl rfl,fun F T e => by cases e⟩
 ·rename_i hok
  obtain ⟨r1,r2,r3,_⟩ := run_on (openC (saidB ds.vis (2 + filesH (secAt ds.vis 0)) 5) (2 + filesH (secAt ds.vis 0))) ds h.cut h.on
  obtain ⟨l1,l2⟩ := run_len (openC (saidB ds.vis (2 + filesH (secAt ds.vis 0)) 5) (2 + filesH (secAt ds.vis 0))) ds
  have hoc : (openC (saidB ds.vis (2 + filesH (secAt ds.vis 0)) 5) (2 + filesH (secAt ds.vis 0))).length ≤ 300 := by
   unfold openC
   split
   ·simp
   ·have hsl : (saidB ds.vis (2 + filesH (secAt ds.vis 0)) 5).length ≤ 255 := by
     unfold saidB
     split
     ·rw [saidX_length]
      have := byteAt_lt (secAt ds.vis (2 + filesH (secAt ds.vis 0))) 2
      omega
     ·simp
    simp only [List.length_append,wrs_length,List.length_cons,List.length_nil]
    omega
  have hsm := h.small
  have hlr : logR ds (filesH (secAt ds.vis 0)) = DS.run (openC (saidB ds.vis (2 + filesH (secAt ds.vis 0)) 5) (2 + filesH (secAt ds.vis 0))) ds := rfl
  rw [hlr] at hm
  generalize DS.run (openC (saidB ds.vis (2 + filesH (secAt ds.vis 0)) 5) (2 + filesH (secAt ds.vis 0))) ds = rr at hm r1 r2 r3 l1 l2
  rw [if_neg (by omega)] at hm
  unfold headOk at hok
  simp only [Bool.not_eq_false,Bool.and_eq_true,decide_eq_true_eq,beq_iff_eq] at hok
  obtain ⟨k1,k2,k3,_⟩ := hok
  split at hm
  ·simp only [Prod.mk.injEq] at hm
   obtain ⟨rfl,rfl,rfl⟩ := hm
   exact ⟨fun _ => .inr rfl,fun F T e => by cases e⟩
  ·rename_i st0 hl
   simp only [Prod.mk.injEq] at hm
   obtain ⟨rfl,rfl,rfl⟩ := hm
   refine ⟨(fun e => by cases e),fun F T e => ?_⟩
   cases e
   exact ⟨learn_rdy hl ⟨k1,k2⟩ (by rw [l1];omega) (by rw [h.len];omega) r3 (by omega),r3,r2,l1.trans h.len,by omega⟩
theorem opR_calm {m : StoM} {b : Nat} (h : Rdy m) (hc : Calm m.ds b) (n : Bs) : Rdy (opR m n).2 ∧ Calm (opR m n).2.ds b := by
 unfold opR
 cases hq : (preR m n).2 with
 | none => exact ⟨h,hc⟩
 | some q =>
  obtain ⟨T2,f⟩ := q
  have ht : T2.length = m.T.length := by
   unfold preR at hq
   split at hq
   ·cases hq
   ·split at hq
    ·cases hq
    ·split at hq
     ·cases hq
     ·rename_i h1
      simp only [Option.some.injEq,Prod.mk.injEq] at hq
      rw [← hq.1]
      exact turnS_len _ _ _ _ h1
  obtain ⟨_,s2,s3,s4,s5⟩ := run_settled hc.cut hc.on [] m.most T2 [(f.entry,[])]
  rw [List.nil_append] at s2 s3 s4 s5
  dsimp only
  rw [fin_on hc.cut hc.on]
  have hsub : ∀ g ∈ delF m.F f.name,g ∈ m.F := fun g hg => (mem_delF.1 hg).1
  refine ⟨?_,s3,s2,s5.trans hc.len,by rw [s4];exact Nat.zero_le _⟩
  exact {
   b := { ent := fun g hg => h.b.ent g (hsub g hg)
          nam := fun g hg => h.b.nam g (hsub g hg)
          siz := fun g hg => h.b.siz g (hsub g hg)
          exl := fun g hg => h.b.exl g (hsub g hg)
          exb := fun g hg x hx => by have := h.b.exb g (hsub g hg) x hx; show _ ≤ T2.length; omega
          len := Nat.le_trans (List.length_filter_le _ _) h.b.len
          mo := h.b.mo
          tl := by have := h.b.tl; show T2.length ≤ 4096; omega
          ll := by have := h.b.ll; show T2.length + m.most + 7 = _; rw [s5]; omega
          sl := by rw [s4]; exact Nat.zero_le _ }
   up := h.up
   on := s3
   sum := fun g hg => h.sum g (hsub g hg)
   ent := List.Nodup.sublist (List.Sublist.map _ List.filter_sublist) h.ent }
theorem putL_inv {m : StoM} (h : Inv m) (p q : Nat) (d : Bs) : Inv (putL m p q d).2.1 ∧ (putL m p q d).2.1.T.length = m.T.length ∧ (putL m p q d).2.1.most = m.most ∧ (putL m p q d).2.2.1 ≤ p + 1 ∧ (putL m p q d).2.2.2 ≤ q + 1 ∧ ((putL m p q d).1.2 = 0 → (putL m p q d).1.1 = shaS d) := by
 obtain ⟨i1,i2,i3⟩ := opW_inv h tmpL d
 obtain ⟨j1,j2,j3⟩ := opN_inv i1 tmpL (nameL (shaS d))
 unfold putL
 split
 ·exact ⟨h,rfl,rfl,by simp,by simp,fun e => by cases e⟩
 ·split
  ·exact ⟨h,rfl,rfl,by simp,by simp,fun _ => rfl⟩
  ·split
   ·split
    ·exact ⟨j1,j3.trans i3,j2.trans i2,by simp,by simp,fun _ => rfl⟩
    ·rename_i h4
     exact ⟨j1,j3.trans i3,j2.trans i2,by simp,by simp,fun e => absurd e h4⟩
   ·rename_i h3
    exact ⟨i1,i3,i2,by simp,by simp,fun e => absurd e h3⟩
theorem getL_ok (m : StoM) (r : Nat) (id : Bs) : ((getL m r id).1.2 = 0 → shaS (getL m r id).1.1 = id) ∧ ((getL m r id).1.2 ≠ 0 → (getL m r id).1.1 = []) ∧ (getL m r id).2 ≤ r + 1 := by
 unfold getL
 split
 ·split
  ·rename_i h;exact ⟨fun _ => h,fun e => absurd rfl e,Nat.le_refl _⟩
  ·exact ⟨(fun e => by cases e),(fun _ => rfl),Nat.le_succ _⟩
 ·rename_i h;exact ⟨fun e => absurd e h,fun _ => rfl,Nat.le_succ _⟩
theorem rdy_ds {m : StoM} (h : Rdy m) {ds : DS} (h1 : ds.off = false) (h2 : ds.L.length = m.ds.L.length) (h3 : ds.S.length ≤ 500000) : Rdy ⟨ds,m.F,m.T,m.most,m.off⟩ where
 b := { ent := h.b.ent,nam := h.b.nam,siz := h.b.siz,exl := h.b.exl,exb := h.b.exb,len := h.b.len,mo := h.b.mo,tl := h.b.tl,ll := h.b.ll.trans h2.symm,sl := h3 }
 up := h.up
 on := h1
 sum := h.sum
 ent := h.ent
open Go.RowKit
theorem getL_len (m : StoM) (r : Nat) (id : Bs) : (getL m r id).1.1.length ≤ (readW m (nameL id)).length := by
 unfold getL
 split
 ·split
  ·exact Nat.le_refl _
  ·exact Nat.zero_le _
 ·exact Nat.zero_le _
structure Ids (w : World) (B : Nat) (Z : List Nat) (v : Value) (n : Nat) (ids : List Bs) : Prop where
 row : w.ownsRow B 9 1 v n (txc ids)
 ap : ∀ g,v.ownBlock = some g → g ∉ Z
theorem Ids.move {w w' : World} {B n : Nat} {Z Z' Y Y' : List Nat} {v : Value} {ids : List Bs} (h : Ids w B Z v n ids) (hm : Mv Y Y' w w') (h1 : ∀ y ∈ Y,y ∈ Z) (h2 : ∀ z ∈ Z',z ∈ Y' ∨ w.heap.size ≤ z) : Ids w' B Z' v n ids where
 row := hm.frm.row h.row fun g hg hx => h.ap g hg (h1 g hx)
 ap := fun g hg hz => by
  have hl := (h.row.lt g hg).2
  rcases h2 g hz with h3 | h3
  ·exact hm.apart (fun hx => h.ap g hg (h1 g hx)) hl h3
  ·omega
theorem Ids.mv {w w' : World} {B n : Nat} {Z Z' : List Nat} {v : Value} {ids : List Bs} (h : Ids w B Z v n ids) (hm : Mv Z Z' w w') : Ids w' B Z' v n ids := h.move hm (fun _ h => h) (fun _ h => .inl h)
theorem Ids.below {w w' : World} {B n : Nat} {Z : List Nat} {v : Value} {ids : List Bs} (h : Ids w B Z v n ids) (hb : Below w.heap.size w w') : Ids w' B Z v n ids := h.mv (Mv.of_below Z hb)
theorem Loo.lt {w : World} {X : List Nat} {S D Lg M : Nat} {m : StoM} {L p q r : Nat} (h : Loo w X S D Lg M m L p q r) : ∀ y ∈ L :: S :: M :: X,y < w.heap.size := by
 intro y hy
 rcases List.mem_cons.1 hy with rfl | hy
 ·exact h.blk.lt
 ·exact h.sto.all_lt y hy
theorem Loo.append {w w' : World} {X : List Nat} {S D Lg M : Nat} {m : StoM} {L p q r B n : Nat} {v : Value} {ids : List Bs} (h : Loo w X S D Lg M m L p q r) (hi : Ids w B (L :: S :: M :: X) v n ids) (hB : 1 < B) (hg : w.grownBy w' v.ownBlock) : Loo w' X S D Lg M m L p q r := by
 rcases hi.row.2 with ⟨rfl,_⟩ | ⟨g,cap,cur,rfl,hgB,hc,_⟩
 ·exact h.below ⟨hg.os,hg.tape,hg.output,hg.size,fun k hk => hg.block k hk (fun e => by cases e)⟩
 ·have hap := hi.ap g rfl
  have hfr : Frm [g] w w' := ⟨hg.os,hg.tape,hg.output,hg.size,fun k hk hx => hg.block k hk (fun e => hx (by cases e;exact List.mem_cons_self ..))⟩
  exact {
   sto := h.sto.away2 hg hc (by decide) (by decide) (by decide) (fun hx => hap (List.mem_cons_of_mem _ (List.mem_cons_of_mem _ (List.mem_cons_of_mem _ hx)))) (show 1 < g by omega)
   blk := hfr.blk h.blk (fun hx => hap (by rw [List.mem_singleton.1 hx];exact List.mem_cons_self ..))
   apart := h.apart
   rt := fun k hk => (hfr.cell (p := ⟨0,k,none⟩) h.pos (fun hx => by have h1 : 0 = g := List.mem_singleton.1 hx;omega)).trans (h.rt k hk)
   zero := h.zero }
structure RotA (w1 w : World) (S D Lg M L : Nat) (X : List Nat) (m : StoM) (p q : Nat) (ov : Value) (ids : List Bs) (k : Nat) : Prop where
 loo : Loo w X S D Lg M m L p q 0
 inv : Inv m
 most : m.most = 5
 tl : m.T.length = 28
 pk : p ≤ k
 qk : q ≤ k
 n : ids.length ≤ k
 i32 : ∀ i ∈ ids,i.length = 32
 row : Ids w w1.heap.size (L :: S :: M :: X) ov ids.length ids
 nw : Nw w1 (L :: S :: M :: X) w
 pos : 1 < w1.heap.size
theorem RotA.below {w1 w w' : World} {S D Lg M L : Nat} {X : List Nat} {m : StoM} {p q k : Nat} {ov : Value} {ids : List Bs} (h : RotA w1 w S D Lg M L X m p q ov ids k) (hb : Below w.heap.size w w') : RotA w1 w' S D Lg M L X m p q ov ids k :=
 ⟨h.loo.below hb,h.inv,h.most,h.tl,h.pk,h.qk,h.n,h.i32,h.row.below hb,h.nw.step hb,h.pos⟩
theorem RotA.put {w1 w w' : World} {S D Lg M L : Nat} {X X' : List Nat} {m : StoM} {p q k : Nat} {ov : Value} {ids : List Bs} {d : Bs} (h : RotA w1 w S D Lg M L X m p q ov ids k) (hm : Mv (L :: S :: M :: X) (L :: S :: M :: X') w w') (hl : Loo w' X' S D Lg M (putL m p q d).2.1 L (putL m p q d).2.2.1 (putL m p q d).2.2.2 0) : RotA w1 w' S D Lg M L X' (putL m p q d).2.1 (putL m p q d).2.2.1 (putL m p q d).2.2.2 ov ids (k + 1) := by
 obtain ⟨h1,h2,h3,h4,h5,_⟩ := putL_inv h.inv p q d
 have := h.pk
 have := h.qk
 have := h.n
 exact ⟨hl,h1,h3.trans h.most,h2.trans h.tl,by omega,by omega,by omega,h.i32,h.row.mv hm,h.nw.mv hm,h.pos⟩
theorem rotA_app {w1 w w' : World} {S D Lg M L : Nat} {X : List Nat} {m : StoM} {p q k g cap : Nat} {ov : Value} {ids : List Bs} {nid : Bs} (h : RotA w1 w S D Lg M L X m p q ov ids (k + 1)) (hn : ids.length ≤ k) (hi : nid.length = 32) (hr : w'.ownsRow w1.heap.size 9 1 (.slice (some ⟨g,0,none⟩) (ids.length + 1) cap) (ids.length + 1) (txc ids ++ [Value.string (mk nid)])) (hg : w.grownBy w' ov.ownBlock) (hw : ov.ownBlock = some g ∨ g = w.heap.size) : RotA w1 w' S D Lg M L X m p q (.slice (some ⟨g,0,none⟩) (ids.length + 1) cap) (ids ++ [nid]) (k + 1) where
 loo := h.loo.append h.row h.pos hg
 inv := h.inv
 most := h.most
 tl := h.tl
 pk := h.pk
 qk := h.qk
 n := by rw [List.length_append];simpa using hn
 i32 := fun i hm => by
  rcases List.mem_append.1 hm with h1 | h1
  ·exact h.i32 i h1
  ·rw [List.mem_singleton.1 h1];exact hi
 row := by
  rw [List.length_append]
  refine ⟨by rw [txc_snoc];exact hr,fun g' hg' => ?_⟩
  obtain rfl : g = g' := by simpa [Value.ownBlock] using hg'
  rcases hw with h1 | h1
  ·exact h.row.ap g h1
  ·intro hx
   have := h.loo.lt g hx
   omega
 nw := ⟨h.nw.below.grown hg (Nat.le_trans (Nat.le_refl _) h.nw.below.size) (fun y hy => (h.row.row.lt y hy).1),h.nw.new⟩
 pos := h.pos
structure RotB (w1 w : World) (S D Lg M L : Nat) (X : List Nat) (m : StoM) (p q : Nat) (ov : Value) (ids : List Bs) : Prop where
 loo : Loo w X S D Lg M m L p q 0
 rdy : Rdy m
 quiet : Quiet m.ds
 n : ids.length ≤ 5
 i32 : ∀ i ∈ ids,i.length = 32
 row : Ids w w1.heap.size (L :: S :: M :: X) ov ids.length ids
 nw : Nw w1 (L :: S :: M :: X) w
theorem RotA.toB {w1 w : World} {S D Lg M L : Nat} {X : List Nat} {m : StoM} {p q k : Nat} {ov : Value} {ids : List Bs} (h : RotA w1 w S D Lg M L X m p q ov ids k) (hk : k ≤ 5) : RotB w1 w S D Lg M L X m p q ov ids :=
 ⟨h.loo,h.inv.rdy,⟨h.inv.on,h.inv.cut,h.inv.syn,by have := h.inv.b.ll;have := h.most;have := h.tl;omega⟩,Nat.le_trans h.n hk,h.i32,h.row,h.nw⟩
theorem RotB.below {w1 w w' : World} {S D Lg M L : Nat} {X : List Nat} {m : StoM} {p q : Nat} {ov : Value} {ids : List Bs} (h : RotB w1 w S D Lg M L X m p q ov ids) (hb : Below w.heap.size w w') : RotB w1 w' S D Lg M L X m p q ov ids :=
 ⟨h.loo.below hb,h.rdy,h.quiet,h.n,h.i32,h.row.below hb,h.nw.step hb⟩
theorem RotB.spoil {w1 w w' : World} {S D Lg M L : Nat} {X : List Nat} {m : StoM} {p q z : Nat} {U : Bs} {ov : Value} {ids : List Bs} (h : RotB w1 w S D Lg M L X m p q ov ids) (hd : Dsk w' X D (m.ds.spoil z U)) (hf : Frm X w w') : RotB w1 w' S D Lg M L X ⟨m.ds.spoil z U,m.F,m.T,m.most,m.off⟩ p q ov ids := by
 have hm : Mv (S :: M :: X) (S :: M :: X) w w' := ((Mv.of_frm hf).cons M).cons S
 have hlen : (m.ds.spoil z U).L.length = m.ds.L.length := by unfold DS.spoil;rw [List.length_set]
 exact ⟨h.loo.mv hm (h.loo.sto.disk hd (Mv.of_frm hf)),rdy_ds h.rdy h.quiet.on hlen (Nat.zero_le _),⟨h.quiet.on,h.quiet.cut,rfl,hlen.trans h.quiet.len⟩,h.n,h.i32,h.row.mv (hm.cons L),h.nw.mv (hm.cons L)⟩
structure RotC (w1 w : World) (S D Lg M L : Nat) (X : List Nat) (m : StoM) (p q r b : Nat) (ov : Value) (ids : List Bs) : Prop where
 loo : Loo w X S D Lg M m L p q r
 rdy : Rdy m
 calm : Calm m.ds b
 n : ids.length ≤ 5
 i32 : ∀ i ∈ ids,i.length = 32
 row : Ids w w1.heap.size (L :: S :: M :: X) ov ids.length ids
 nw : Nw w1 (L :: S :: M :: X) w
theorem RotB.toC {w1 w : World} {S D Lg M L : Nat} {X : List Nat} {m : StoM} {p q : Nat} {ov : Value} {ids : List Bs} (h : RotB w1 w S D Lg M L X m p q ov ids) : RotC w1 w S D Lg M L X m p q 0 0 ov ids :=
 ⟨h.loo,h.rdy,⟨h.quiet.on,h.quiet.cut,h.quiet.len,by rw [h.quiet.syn];exact Nat.zero_le _⟩,h.n,h.i32,h.row,h.nw⟩
theorem RotC.below {w1 w w' : World} {S D Lg M L : Nat} {X : List Nat} {m : StoM} {p q r b : Nat} {ov : Value} {ids : List Bs} (h : RotC w1 w S D Lg M L X m p q r b ov ids) (hb : Below w.heap.size w w') : RotC w1 w' S D Lg M L X m p q r b ov ids :=
 ⟨h.loo.below hb,h.rdy,h.calm,h.n,h.i32,h.row.below hb,h.nw.step hb⟩
theorem RotC.get {w1 w w' : World} {S D Lg M L : Nat} {X : List Nat} {m : StoM} {p q r r' b : Nat} {ov : Value} {ids : List Bs} (h : RotC w1 w S D Lg M L X m p q r b ov ids) (hm : Mv (L :: S :: M :: X) (L :: S :: M :: X) w w') (hl : Loo w' X S D Lg M m L p q r') : RotC w1 w' S D Lg M L X m p q r' b ov ids :=
 ⟨hl,h.rdy,h.calm,h.n,h.i32,h.row.mv hm,h.nw.mv hm⟩
structure RotM (w1 w : World) (S D Lg M : Nat) (X : List Nat) (m : StoM) (b : Nat) (ov : Value) (ids : List Bs) : Prop where
 sto : Sto w X S D Lg M m
 rdy : Rdy m
 calm : Calm m.ds b
 n : ids.length ≤ 5
 i32 : ∀ i ∈ ids,i.length = 32
 row : Ids w w1.heap.size (S :: M :: X) ov ids.length ids
 nw : Nw w1 (S :: M :: X) w
 rt : RT w
 zero : 0 ∉ S :: M :: X
theorem RotC.mount {w1 w w' : World} {S D Lg M L : Nat} {X : List Nat} {m : StoM} {p q r b : Nat} {ov : Value} {ids : List Bs} (h : RotC w1 w S D Lg M L X m p q r b ov ids) {X' : List Nat} {S' Lg' M' : Nat} {m' : StoM} {b' : Nat} (hm : Mv X X' w w') (hs : Sto w' X' S' D Lg' M' m') (hS : w.heap.size ≤ S') (hM : w.heap.size ≤ M') (hr : Rdy m') (hc : Calm m'.ds b') : RotM w1 w' S' D Lg' M' X' m' b' ov ids := by
 have hp := h.loo.pos
 have h0 : 0 ∉ X := fun hx => h.loo.zero (List.mem_cons_of_mem _ (List.mem_cons_of_mem _ hx))
 have hsub : ∀ y ∈ X,y ∈ L :: S :: M :: X := fun y hy => List.mem_cons_of_mem _ (List.mem_cons_of_mem _ (List.mem_cons_of_mem _ hy))
 have hnew : ∀ z ∈ S' :: M' :: X',z ∈ X' ∨ w.heap.size ≤ z := fun z hz => by
  rcases List.mem_cons.1 hz with rfl | hz
  ·exact .inr hS
  ·rcases List.mem_cons.1 hz with rfl | hz
   ·exact .inr hM
   ·exact .inl hz
 have hnw := (h.nw.sub hsub).mv hm
 exact { sto := hs, rdy := hr, calm := hc, n := h.n, i32 := h.i32, row := h.row.move hm hsub hnew
         nw := ⟨hnw.below, fun z hz => by
           have := h.nw.below.size
           rcases hnew z hz with h1 | h1
           ·exact hnw.new z h1
           ·omega⟩
         rt := fun k hk => (hm.frm.cell (p := ⟨0, k, none⟩) hp h0).trans (h.loo.rt k hk)
         zero := fun hz => by
           rcases hnew 0 hz with h1 | h1
           ·exact hm.apart h0 hp h1
           ·omega }
theorem RotM.opened {w1 w w' : World} {S D Lg M : Nat} {X : List Nat} {m : StoM} {b : Nat} {ov : Value} {ids : List Bs} (h : RotM w1 w S D Lg M X m b ov ids) {X' : List Nat} {L : Nat} (hl : Loo w' X' S D Lg M (opR m tmpL).2 L 0 0 0) (hm : Mv (S :: M :: X) (S :: M :: X') w w') (hL : w.heap.size ≤ L) : RotC w1 w' S D Lg M L X' (opR m tmpL).2 0 0 0 b ov ids := by
 obtain ⟨hr,hc⟩ := opR_calm h.rdy h.calm tmpL
 have hnw := h.nw.mv hm
 have hsz := h.nw.below.size
 exact ⟨hl,hr,hc,h.n,h.i32,h.row.move hm (fun _ h => h) (fun z hz => by
  rcases List.mem_cons.1 hz with rfl | hz
  ·exact .inr hL
  ·exact .inl hz),⟨hnw.below,fun z hz => by
  rcases List.mem_cons.1 hz with rfl | hz
  ·omega
  ·exact hnw.new z hz⟩⟩
open Go.RowKit
open Go.RowKit
theorem cut_mk (s : ByteArray) (n k : Nat) (h : min s.size n = k) : s.extract 0 k = mk (s.data.toList.take n) := by
 have h1 := ext_mk' s 0 k
 rw [Nat.zero_add,List.drop_zero] at h1
 rw [h1]
 have hs : s.data.toList.length = s.size := by rw [Array.length_toList];rfl
 congr 1
 by_cases h2 : s.size ≤ n
 ·rw [List.take_of_length_le (by omega),List.take_of_length_le (by omega)]
 ·rw [show k = n by omega]
open Go.RowKit Go.Maps
set_option maxRecDepth 100000 in
set_option maxHeartbeats 16000000 in
theorem looseRots_any (Ad : Option Addr) (ld : List Bs) (cD : Nat) (At : Option Addr) (li : List Int) (cA : Nat) (Aj : Option Addr) (lj : List Bs) (cJ : Nat) (w : World) (hAd : Lies w Ad (txc ld)) (hld : ld.length ≤ maxLen) (hdt : ∀ t ∈ ld,t.length ≤ maxLen) (hAt : Lies w At (icells li)) (hlt : li.length ≤ maxLen) (hAj : Lies w Aj (txc lj)) (hlj : lj.length ≤ maxLen) (hjt : ∀ t ∈ lj,t.length ≤ maxLen) (hT : TB w) (hR : RT w) (hw : 1 < w.heap.size) :
  Calls Tryz.prog 6 #[.slice Ad ld.length cD, .slice At li.length cA, .slice Aj lj.length cJ] w fun e w' => e = .returned (.bool true) ∧ Below w.heap.size w w' := by
 have HSP := Lib.hid (lspeaks_any w hT hR hw)
 have HMD := Lib.hid (fun (w1 : World) (hb : Below w.heap.size w w1) => lmade_any 40 5 w1 (by decide) (by decide) (by decide) (by decide) (hT.below hw hb) (hR.below (by omega) hb) (Nat.lt_of_lt_of_le hw hb.size))
 have hlb : ld.length ≤ 9223372036854775807 := by unfold maxLen at hld;omega
 have hlb2 : li.length ≤ 9223372036854775807 := by unfold maxLen at hlt;omega
 have hlb3 : lj.length ≤ 9223372036854775807 := by unfold maxLen at hlj;omega
 obtain ⟨dl,hdl⟩ : ∃ q,ld.length = q := ⟨_,rfl⟩
 obtain ⟨atl,hatl⟩ : ∃ q,li.length = q := ⟨_,rfl⟩
 obtain ⟨jl,hjl⟩ : ∃ q,lj.length = q := ⟨_,rfl⟩
 rw [hdl] at hlb ⊢
 rw [hatl] at hlb2 ⊢
 rw [hjl] at hlb3 ⊢
 have HAL := Lib.hid (And.intro hdl (And.intro hatl hjl))
 have HA := Lib.hid (And.intro hAd (And.intro hAt (And.intro hAj (And.intro hdt hjt))))
 have HTB := Lib.hid (And.intro hT (And.intro hR hw))
 have mixed := mixedT
 clear hdl hatl hjl hAd hAt hAj hdt hjt hld hlt hlj hT hR hw
 go_enter Tryz.func6,Tryz.ntmps6
 go_upto_block 0 with (first
  | (go_at_call 7;refine HSP.out.mono ?_;rintro e w1 ⟨rfl,hb1⟩;have H1 := Lib.hid hb1;clear hb1)
  | (go_at_call 15;refine (HMD.out w1 H1.out).mono ?_;rintro e w2 ⟨X2,D,S,Lg,M,L,rfl,hl2,hn2⟩;have H2 := Lib.hid (show RotA w1 w2 S D Lg M L X2 (freshM 40 5) 0 0 (.slice none 0 0) [] 0 from ⟨hl2,inv_fresh 40 5 (by decide) (by decide) (by decide) (by decide),rfl,by decide,Nat.le_refl _,Nat.le_refl _,Nat.le_refl _,(fun i hi => by cases hi),⟨World.ownsRow_nil _ _ _ _,fun g hg => by cases hg⟩,hn2,Nat.lt_of_lt_of_le HTB.out.2.2 H1.out.size⟩);clear hl2 hn2))
 go_cut [11,12,13,14] from 35 to 66 (fun ov _ _ _ wx => ∃ X' m' p q ids,RotB w1 wx S D Lg M L X' m' p q ov ids)
 case first =>
  go_wp2_with (fail)
  go_loopw [11,12] (fun ov kv wr => ∃ (k : Nat) (X' : List Nat) (m' : StoM) (p q : Nat) (ids : List Bs),k ≤ dl ∧ k ≤ 5 ∧ kv = .int .i64 k ∧ RotA w1 wr S D Lg M L X' m' p q ov ids k) (fun _ kv _ => 5 - (intOf kv).toNat)
  case atStart => exact ⟨0,X2,_,0,0,[],Nat.zero_le _,Nat.zero_le _,rfl,H2.out⟩
  case round =>
   obtain ⟨k,X',m',p,q,ids,hkd,hk5,rfl,hA⟩ := hrel
   have k0 : (0 : Int) ≤ (k : Int) := by omega
   obtain ⟨A3,c3,rfl⟩ := row_form hA.row.row
   by_cases hk1 : k < dl
   ·have k1 : (k : Int) < (dl : Int) := by omega
    by_cases hk2 : k < 5
    ·have k2 : (k : Int) < 5 := by omega
     have hkl : k < ld.length := by rw [HAL.out.1];exact hk1
     have HBW := Lib.hid hA.nw.below
     obtain ⟨gD,oD,rfl,hgD,hcD⟩ := (HA.out.1.below (Nat.le_refl _) H1.out) (by rw [txc,List.length_map];omega)
     have d0 := hcD k (.string (mk ld[k])) (txc_at ld k hkl)
     have htl := HA.out.2.2.2.1 _ (List.getElem_mem hkl)
     obtain ⟨td,htd⟩ : ∃ t,ld[k] = t := ⟨_,rfl⟩
     rw [htd] at d0 htl
     obtain ⟨kk,hkk⟩ : ∃ t,min (mk td).size 1500 = t := ⟨_,rfl⟩
     have cc := cut_mk (mk td) 1500 kk hkk
     rw [mk_data] at cc
     have ldd : (td.take 1500).length ≤ 1500 := List.length_take_le _ _
     obtain ⟨dd,hdd⟩ : ∃ t,td.take 1500 = t := ⟨_,rfl⟩
     rw [hdd] at cc ldd
     have hts : (mk td).size ≤ 9223372036854775807 := by rw [mk_size];unfold maxLen at htl;omega
     obtain ⟨MD,hMD⟩ : ∃ t,mk td = t := ⟨_,rfl⟩
     rw [hMD] at d0 hkk cc hts
     obtain ⟨DD,hDD⟩ : ∃ t,mk dd = t := ⟨_,rfl⟩
     rw [hDD] at cc
     have hm0 : min (MD.size : Int) 1500 = (kk : Int) := by omega
     have hsl0 := fun (w : World) => run_slice_string_h (P := Tryz.prog) (w := w) (t := 9) (s := MD) Tryz.underlying9 .i64 (kk : Int) (by omega) (by omega)
     rw [Int.toNat_natCast,cc] at hsl0
     have n0 : (MD.size : Int) ≤ 9223372036854775807 := by omega
     have hpk := hA.pk
     have hqk := hA.qk
     have KP := fun (w7 : World) (hb : Below wr.heap.size wr w7) => put_loose dd w7 (hA.loo.below hb) hA.inv (by omega) (by omega) (by omega)
     have hinv := (putL_inv hA.inv p q dd).2.2.2.2.2
     have hput : ∀ (w8 : World) (X8 : List Nat),Mv (L :: S :: M :: X') (L :: S :: M :: X8) wr w8 → Loo w8 X8 S D Lg M (putL m' p q dd).2.1 L (putL m' p q dd).2.2.1 (putL m' p q dd).2.2.2 0 → RotA w1 w8 S D Lg M L X8 (putL m' p q dd).2.1 (putL m' p q dd).2.2.1 (putL m' p q dd).2.2.2 (.slice A3 ids.length c3) ids (k + 1) := fun w8 X8 hm hl => hA.put hm hl
     unfold PutLP at KP
     obtain ⟨O,hO⟩ : ∃ t,putL m' p q dd = t := ⟨_,rfl⟩
     simp only [hO] at KP
     rw [hO] at hinv hput
     obtain ⟨⟨nid,ec⟩,m8,p8,q8⟩ := O
     dsimp only at KP hinv hput
     rw [hDD] at KP
     obtain ⟨NID,hNID⟩ : ∃ t,mk nid = t := ⟨_,rfl⟩
     rw [hNID] at KP
     have HNID := Lib.hid hNID
     have HC := Lib.hid (And.intro d0 hgD)
     have hn := hA.n
     obtain ⟨lk,hlk⟩ : ∃ t,ids.length = t := ⟨_,rfl⟩
     have hlk5 : lk ≤ 5 := by omega
     have HLK := Lib.hid (And.intro hlk hn)
     simp only [hlk] at hput ⊢
     have HKP := Lib.hid KP
     have HPUT := Lib.hid hput
     have HB := Lib.hid hinv
     clear d0 hgD hNID hcD htl htd hkk cc hdd hMD hDD KP hinv hput hO hkl hpk hqk hn hlk hA hts
     go_upto_region 10 with (fail)
     refine wp_region_held (S := fun w' => Below w1.heap.size w1 w') mixed ?_
     change wpAnyH _ _ _ _ _ _ _ _ wr.drew
     obtain ⟨wd,hwd⟩ : ∃ t,wr.drew = t := ⟨_,rfl⟩
     have hS0 : Below w1.heap.size w1 wd := by rw [← hwd];exact HBW.out.drew
     have HWD := Lib.hid (show Below wr.heap.size wr wd by rw [← hwd];exact (Below.refl _ _).drew)
     rw [hwd]
     clear hwd
     refine tkQ 0 (.pointer (some ⟨L,0,none⟩)) rfl hS0 ?_
     try go_simp
     refine tkQ 1 (.slice (some ⟨gD,oD,none⟩) dl cD) rfl hS0 ?_
     try go_simp
     refine tkQ 2 (.int .i64 (k : Int)) rfl hS0 ?_
     try go_simp
     refine tkQ 3 (.pointer (some ⟨gD,oD + k,none⟩)) rfl hS0 ?_
     try go_simp
     refine tkH 4 (.string MD) rfl hS0 (fun w' hS => ?_) ?_
     ·have q0 := (hS.cell (p := ⟨gD,oD + k,none⟩) HC.out.2).trans HC.out.1;have ql := Nat.lt_of_lt_of_le HC.out.2 hS.size;go_simp
     try go_simp
     refine tkQ 5 (.slice (some ⟨gD,oD,none⟩) dl cD) rfl hS0 ?_
     try go_simp
     refine tkQ 6 (.int .i64 (k : Int)) rfl hS0 ?_
     try go_simp
     refine tkQ 7 (.pointer (some ⟨gD,oD + k,none⟩)) rfl hS0 ?_
     try go_simp
     refine tkH 8 (.string MD) rfl hS0 (fun w' hS => ?_) ?_
     ·have q0 := (hS.cell (p := ⟨gD,oD + k,none⟩) HC.out.2).trans HC.out.1;have ql := Nat.lt_of_lt_of_le HC.out.2 hS.size;go_simp
     try go_simp
     refine tkQ 9 (.int .i64 (MD.size : Int)) rfl hS0 ?_
     try go_simp
     refine tkQ 10 (.int .i64 (kk : Int)) rfl hS0 ?_
     try go_simp
     refine tkQ 11 (.string DD) rfl hS0 ?_
     try go_simp
     refine alH 12 ?_
     unfold wpOp
     go_simp
     refine .inl ?_
     go_at_call 8
     refine (HKP.out wd HWD.out).mono ?_
     rintro e w5 ⟨rfl,X5,hm5,hl5⟩
     have H5 := Lib.hid (HPUT.out w5 X5 ((Mv.of_below _ HWD.out).trans hm5) hl5)
     clear hm5 hl5 hS0
     have hS5 := H5.out.nw.below
     refine ⟨hS5, ?_⟩
     try go_simp
     refine tkQ 13 (.tuple #[.string NID, .int .i64 (ec : Int)]) rfl hS5 ?_
     try go_simp
     refine tkQ 14 (.string NID) rfl hS5 ?_
     try go_simp
     refine tkQ 16 (.string NID) rfl hS5 ?_
     try go_simp
     refine tkQ 15 (.int .i64 (ec : Int)) rfl hS5 ?_
     try go_simp
     refine tkQ 17 (.int .i64 (ec : Int)) rfl hS5 ?_
     try go_simp
     refine wpAnyH_done (by kernel_rfl) ?_ _
     clear hS5 hsl0 hm0 n0
     rcases Nat.eq_zero_or_pos ec with rfl | hec
     ·have HNI := Lib.hid (show mk nid = NID ∧ nid.length = 32 from ⟨HNID.out,by rw [HB.out rfl];exact shaS_length dd⟩)
      have H5b := Lib.hid (H5.out.below (below_alloc w5 (.cells #[.string NID] 9)))
      obtain ⟨i9,hi0,hi1,hi2,hi3⟩ := info_parts info9
      have HI := Lib.hid (And.intro hi0 (And.intro hi1 (And.intro hi2 hi3)))
      clear hi0 hi1 hi2 hi3
      go_wp2_with (first
       | (at_builtin;refine wpList_append_lies _ rfl (.tmp 63) (.tmp 65) 33 rfl w1.heap.size 9 i9 _ 1 16 Tryz.underlying33 HI.out.1 HI.out.2.1 HI.out.2.2.1 HI.out.2.2.2 rfl (by decide) (.slice A3 lk c3) lk _ rfl (by have := H5b.out.row.row;rw [HLK.out.1] at this;exact this) ⟨_,0,none⟩ 1 1 [.string NID] rfl rfl (World.news_of_block (heap_alloc_new w5 (.cells #[.string NID] 9))) (by simp [Value.oneCell']) (by omega) (by unfold maxLen;omega) (by omega) (Nat.le_trans (Nat.le_refl _) H5b.out.nw.below.size) _ rfl ?_;intro g4 c4 W4 hS4 hg4 ho4 _;have HS4 := Lib.hid (And.intro hS4 (And.intro hg4 ho4));clear hS4 hg4 ho4))
      go_roundw
      case rel =>
       refine ⟨k + 1,X5,m8,p8,q8,ids ++ [nid],by omega,by omega,by go_num, ?_⟩
       have h6 := H5b.out
       obtain ⟨s1,s2,s3⟩ := HS4.out
       rw [← HLK.out.1] at h6 s1 s2 s3 ⊢
       rw [← HNI.out.1] at s1
       exact rotA_app h6 HLK.out.2 HNI.out.2 s1 s2 s3
      case measure => simp [intOf];omega
     ·have hec0 : ((ec : Int) == 0) = false := by simpa using (by omega : ¬ ec = 0)
      have hec1 : ¬ (ec : Int) = 0 := by omega
      go_wp2
      go_roundw
      case rel => exact ⟨k + 1,X5,m8,p8,q8,ids,by omega,by omega,by go_num,H5.out⟩
      case measure => simp [intOf];omega
    ·have k2 : ¬ ((k : Int) < 5) := by omega
     have HQ := Lib.hid hA
     clear hA
     go_wp2_with (fail)
     go_meet
     exact ⟨X',m',p,q,ids,HQ.out.toB hk5⟩
   ·have k1 : ¬ ((k : Int) < (dl : Int)) := by omega
    have HQ := Lib.hid hA
    clear hA
    go_wp2_with (fail)
    go_meet
    exact ⟨X',m',p,q,ids,HQ.out.toB hk5⟩
 case rest =>
  obtain ⟨XS,mS,p,q,ids,hcut⟩ := hcut
  obtain ⟨AI,cI,rfl⟩ := row_form hcut.row.row
  obtain ⟨nI,hnI⟩ : ∃ t,ids.length = t := ⟨_,rfl⟩
  rw [hnI] at hcut ⊢
  have HSB := Lib.hid hcut
  have HNI := Lib.hid hnI
  clear hcut hnI
  go_upto_block 2 with (fail)
  go_cut [15,16,17,18,19] from 67 to 128 (fun _ _ _ _ _ wx => ∃ X' m',RotB w1 wx S D Lg M L X' m' p q (.slice AI nI cI) ids)
  case first =>
   go_wp2_with (fail)
   go_loopw [15] (fun iv wr => ∃ (j : Nat) (X' : List Nat) (m' : StoM),j ≤ 6 ∧ iv = .int .i64 j ∧ RotB w1 wr S D Lg M L X' m' p q (.slice AI nI cI) ids) (fun iv _ => 6 - (intOf iv).toNat)
   case atStart => exact ⟨0,XS,mS,Nat.zero_le _,rfl,HSB.out⟩
   case round =>
    obtain ⟨j,X',m',hj,rfl,hB⟩ := hrel
    have j0 : (0 : Int) ≤ (j : Int) := by omega
    by_cases ja : j < atl
    ·have ja1 : (j : Int) < (atl : Int) := by omega
     by_cases jb : j < jl
     ·have jb1 : (j : Int) < (jl : Int) := by omega
      by_cases jc : j < 6
      ·have jc1 : (j : Int) < 6 := by omega
       have hji : j < li.length := by rw [HAL.out.2.1];exact ja
       have hjj : j < lj.length := by rw [HAL.out.2.2];exact jb
       have hbw := H1.out.trans (hB.nw.below.mono H1.out.size)
       obtain ⟨gA,oA,rfl,hgA,hcA⟩ := (HA.out.2.1.below (Nat.le_refl _) hbw) (by rw [icells,List.length_map];omega)
       have a0 := hcA j (.int .i64 li[j]) (by simp [icells,hji])
       obtain ⟨gJ,oJ,rfl,hgJ,hcJ⟩ := (HA.out.2.2.1.below (Nat.le_refl _) hbw) (by rw [txc,List.length_map];omega)
       have s0 := hcJ j (.string (mk lj[j])) (txc_at lj j hjj)
       have htl := HA.out.2.2.2.2 _ (List.getElem_mem hjj)
       obtain ⟨ia,hia⟩ : ∃ q,li[j] = q := ⟨_,rfl⟩
       obtain ⟨tj,htj⟩ : ∃ q,lj[j] = q := ⟨_,rfl⟩
       rw [hia] at a0
       rw [htj] at s0 htl
       clear hcA hcJ hji hjj hia htj hbw
       by_cases hin : 0 ≤ ia ∧ ia < 40
       ·obtain ⟨z,rfl⟩ : ∃ z : Nat,ia = z := ⟨ia.toNat,by omega⟩
        have hz40 : z < 40 := by omega
        have KR := read_any X' D m'.ds z wr hB.loo.sto.dsk (by rw [hB.quiet.len];exact hz40) hB.quiet.on
        have htlen : (secAt m'.ds.vis z).length = 512 := vis_sec hB.loo.sto.dsk.good z (by rw [hB.quiet.len];exact hz40)
        obtain ⟨t,ht⟩ : ∃ q,secAt m'.ds.vis z = q := ⟨_,rfl⟩
        rw [show m'.ds.vis[z]?.getD [] = t from ht] at KR
        rw [ht] at htlen
        obtain ⟨MT,hMT⟩ : ∃ q,mk t = q := ⟨_,rfl⟩
        obtain ⟨MJ,hMJ⟩ : ∃ q,mk tj = q := ⟨_,rfl⟩
        rw [hMT] at KR
        rw [hMJ] at s0
        have hMJs : MJ.size = tj.length := by rw [← hMJ,mk_size]
        have hMTs : MT.size = 512 := by rw [← hMT,mk_size,htlen]
        have hMTd : MT.data.toList = t := by rw [← hMT,mk_data]
        have hjb := fun (k : Nat) (hk : k < tj.length) => at_mkH tj MJ hMJ k hk
        have htl9 : tj.length ≤ 9223372036854775807 := by unfold maxLen at htl;omega
        obtain ⟨tl,htl2⟩ : ∃ q,tj.length = q := ⟨_,rfl⟩
        rw [htl2] at hMJs htl9
        simp only [htl2] at hjb
        have HJB := Lib.hid hjb
        have HZ := Lib.hid (And.intro hB hz40)
        have HC := Lib.hid (And.intro a0 (And.intro s0 (And.intro hgA hgJ)))
        have HTT := Lib.hid (And.intro hMTd htlen)
        clear hB hin ht hMT hMJ hMTd htlen htl htl2 hjb
        go_upto_region 18 with (first
         | (go_at_call 29;refine KR.mono ?_;rintro e w5 ⟨rfl,hw⟩;obtain rfl := hw.symm;clear KR))
        obtain ⟨WA,hWA⟩ : ∃ q,wr = q := ⟨_,rfl⟩
        rw [hWA] at HZ HC a0 s0 hgA hgJ ⊢
        clear hWA
        go_wp2_with (with_reducible refine wpList_bytes rfl (.tmp 94) 9 64 5 rfl Tryz.underlying9 Tryz.underlying64 Tryz.underlying5 MT rfl ?_;intro cp w5 hbuf hbel hsz)
        rw [HTT.out.1] at hbuf
        obtain ⟨G,hG⟩ : ∃ q,WA.heap.size = q := ⟨_,rfl⟩
        have HG := Lib.hid hG
        simp only [hG] at hbuf hbel ⊢
        try rw [hMTs]
        try simp only [hMTs]
        have HBF := Lib.hid (And.intro hbuf hbel)
        clear hbuf hbel hsz hG a0 s0 hgA hgJ
        go_loopw [19] (fun kv wr2 => ∃ (k : Nat) (U : Bs),k ≤ 500 ∧ kv = .int .i64 k ∧ U.length = 512 ∧ Buf wr2 G 5 (U.map UInt8.toNat) ∧ Below G WA wr2) (fun kv _ => 500 - (intOf kv).toNat)
        case atStart => exact ⟨0,t,Nat.zero_le _,rfl,HTT.out.2,HBF.out.1,HBF.out.2⟩
        case round =>
         obtain ⟨k,U,hk,rfl,hU,hbu,hbb⟩ := hrel
         have k0 : (0 : Int) ≤ (k : Int) := by omega
         have hgs : WA.heap.size ≤ G := by rw [HG.out];exact Nat.le_refl _
         have a0 := (hbb.cell (p := ⟨gA,oA + j,none⟩) (Nat.lt_of_lt_of_le HC.out.2.2.1 hgs)).trans HC.out.1
         have s0 := (hbb.cell (p := ⟨gJ,oJ + j,none⟩) (Nat.lt_of_lt_of_le HC.out.2.2.2 hgs)).trans HC.out.2.1
         have gAl := Nat.lt_of_lt_of_le HC.out.2.2.1 hbb.size
         have gJl := Nat.lt_of_lt_of_le HC.out.2.2.2 hbb.size
         by_cases hk1 : k < tl
         ·have k1 : (k : Int) < (tl : Int) := by omega
          by_cases hk2 : k < 500
          ·have k2 : (k : Int) < 500 := by omega
           have k3 : (k : Int) < 512 := by omega
           obtain ⟨jh,jv⟩ := HJB.out k hk1
           obtain ⟨v,hv⟩ : ∃ q,byteAt tj k = q := ⟨_,rfl⟩
           rw [hv] at jv
           have hv2 : v < 256 := by rw [← hv];exact byteAt_lt _ _
           have hkU : k < U.length := by omega
           have hkM : k < (U.map UInt8.toNat).length := by rw [List.length_map];exact hkU
           have u0 := hbu.cell hkM
           have uf := hbu.frozen hkM
           rw [List.getElem_map] at u0
           obtain ⟨u,hu⟩ : ∃ q,U[k].toNat = q := ⟨_,rfl⟩
           rw [hu] at u0
           have hu2 : u < 256 := by rw [← hu];exact UInt8.toNat_lt _
           have hx := xor_8 u v hu2 hv2
           have hset := hbu.set hkM (u ^^^ v)
           have hxl : u ^^^ v < 256 := Nat.xor_lt_two_pow (n := 8) hu2 hv2
           have hmap : (U.map UInt8.toNat).set k (u ^^^ v) = (U.set k (UInt8.ofNat (u ^^^ v))).map UInt8.toNat := by
            rw [List.map_set,UInt8.toNat_ofNat',Nat.mod_eq_of_lt hxl]
           rw [hmap] at hset
           obtain ⟨xo,hxo⟩ : ∃ q,u ^^^ v = q := ⟨_,rfl⟩
           rw [hxo] at hx hset hxl
           have HU := Lib.hid (show (U.set k (UInt8.ofNat xo)).length = 512 ∧ Buf (wr.setCell ⟨G,k,none⟩ (.int .u8 (xo : Int))) G 5 ((U.set k (UInt8.ofNat xo)).map UInt8.toNat) from ⟨by rw [List.length_set];exact hU,hset⟩)
           have HBB := Lib.hid (And.intro hbb hbu)
           have hGl := hbu.lt
           clear hv hu hset hmap hxo hU hkU hkM hbu hbb
           go_upto_region 22 with (fail)
           have HX := Lib.hid (And.intro u0 (And.intro uf (And.intro s0 (And.intro hGl gJl))))
           clear a0 s0 gAl gJl u0 uf
           refine wp_region_S 12 (fun _ => True) (fun w' => (w'.cell? ⟨G,k,none⟩ = some (.int .u8 (u : Int)) ∧ w'.frozen? ⟨G,k,none⟩ = false ∧ G < w'.heap.size) ∧ w'.cell? ⟨gJ,oJ + j,none⟩ = some (.string MJ) ∧ gJ < w'.heap.size ∧ w' = wr.drew) mixed ?_
           change wpAnyS _ _ _ _ _ _ _ _ _ _ wr.drew
           have hC2 : (wr.drew.cell? ⟨G,k,none⟩ = some (.int .u8 (u : Int)) ∧ wr.drew.frozen? ⟨G,k,none⟩ = false ∧ G < wr.drew.heap.size) ∧ wr.drew.cell? ⟨gJ,oJ + j,none⟩ = some (.string MJ) ∧ gJ < wr.drew.heap.size ∧ wr.drew = wr.drew := ⟨⟨HX.out.1,HX.out.2.1,HX.out.2.2.2.1⟩,HX.out.2.2.1,HX.out.2.2.2.2,rfl⟩
           have hE0 : ∀ L : Array Bool,HeldS 12 (fun _ => True) (fun w' => (w'.cell? ⟨G,k,none⟩ = some (.int .u8 (u : Int)) ∧ w'.frozen? ⟨G,k,none⟩ = false ∧ G < w'.heap.size) ∧ w'.cell? ⟨gJ,oJ + j,none⟩ = some (.string MJ) ∧ gJ < w'.heap.size ∧ w' = wr.drew) L wr.drew := fun L => ⟨trivial,fun _ => hC2⟩
           refine tkS 0 (.slice (some ⟨G,0,none⟩) 512 cp) rfl (hE0 _) (fun w' hS => ?_) ?_
           ·clear hS;go_simp
           try go_simp
           refine tkS 1 (.int .i64 (k : Int)) rfl (hE0 _) (fun w' hS => ?_) ?_
           ·clear hS;go_simp
           try go_simp
           refine tkS 2 (.pointer (some ⟨G,k,none⟩)) rfl (hE0 _) (fun w' hS => ?_) ?_
           ·clear hS;go_simp
           try go_simp
           refine wpAnyS_take2 (i := 3) (v := .int .u8 (u : Int)) rfl (by decide) rfl (by kernel_rfl) (by kernel_rfl) (by kernel_rfl) (by kernel_rfl) (by kernel_rfl) (fun c a w h => h) (.inl ⟨by kernel_rfl,fun w' hS => ?_⟩) (hE0 _) ?_
           ·have x0 := hS.2.1.1;have xl := hS.2.1.2.2;go_simp
           try go_simp
           refine tkS 4 (.slice (some ⟨gJ,oJ,none⟩) jl cJ) rfl (hE0 _) (fun w' hS => ?_) ?_
           ·clear hS;go_simp
           try go_simp
           refine tkS 5 (.int .i64 (j : Int)) rfl (hE0 _) (fun w' hS => ?_) ?_
           ·clear hS;go_simp
           try go_simp
           refine tkS 6 (.pointer (some ⟨gJ,oJ + j,none⟩)) rfl (hE0 _) (fun w' hS => ?_) ?_
           ·clear hS;go_simp
           try go_simp
           refine wpAnyS_take2 (i := 7) (v := .string MJ) rfl (by decide) rfl (by kernel_rfl) (by kernel_rfl) (by kernel_rfl) (by kernel_rfl) (by kernel_rfl) (fun c a w h => h) (.inl ⟨by kernel_rfl,fun w' hS => ?_⟩) (hE0 _) ?_
           ·have x0 := hS.2.2.1;have xl := hS.2.2.2.1;go_simp
           try go_simp
           refine tkS 8 (.int .i64 (k : Int)) rfl (hE0 _) (fun w' hS => ?_) ?_
           ·clear hS;go_simp
           try go_simp
           refine tkS 9 (.int .u8 (v : Int)) rfl (hE0 _) (fun w' hS => ?_) ?_
           ·clear hS;go_simp
           try go_simp
           refine tkS 10 (.int .u8 (xo : Int)) rfl (hE0 _) (fun w' hS => ?_) ?_
           ·clear hS;go_simp
           try go_simp
           refine tkS 11 (.pointer (some ⟨G,k,none⟩)) rfl (hE0 _) (fun w' hS => ?_) ?_
           ·clear hS;go_simp
           try go_simp
           refine alS 12 ?_
           obtain ⟨u0,uf,ul⟩ := hC2.1
           unfold wpOp
           go_simp
           refine .inl ⟨⟨trivial,fun e => by cases e⟩, ?_⟩
           refine wpAnyS_done (by kernel_rfl) ?_ _
           clear u0 uf ul hE0 hC2 jh jv hx
           go_wp2
           go_roundw
           case rel => exact ⟨k + 1,U.set k (UInt8.ofNat xo),by omega,by go_num,HU.out.1,HU.out.2.drew,(below_set HBB.out.1.drew G k _ (Nat.le_refl _))⟩
           case measure => simp [intOf];omega
          ·have k2 : ¬ ((k : Int) < 500) := by omega
           have HBB := Lib.hid (And.intro hbb hbu)
           have hconv := fun (w' : World) (hB : Buf w' G 5 (U.map UInt8.toNat)) => (show (convert 64 9 (.slice (some ⟨G,0,none⟩) 512 cp)).run Tryz.prog w' = .ok (.string (mk U)) w' by
            rw [← hU]
            exact run_convert_bytes_back (P := Tryz.prog) w' 64 9 5 ⟨G,0,none⟩ cp U Tryz.underlying64 Tryz.underlying5 Tryz.underlying9 (fun q hq => by
             rw [add_lit',Nat.zero_add,hB.cell (by rw [List.length_map];exact hq),List.getElem_map]))
           have hB0 := HZ.out.1.below (show Below WA.heap.size WA wr by rw [HG.out];exact hbb)
           have HB0 := Lib.hid hB0
           have KSP := fun (w7 : World) (h7 : RotB w1 w7 S D Lg M L X' m' p q (.slice AI nI cI) ids) => spoil_any X' D m'.ds z U w7 h7.loo.sto.dsk h7.quiet.syn (by omega) (by rw [h7.quiet.len];exact HZ.out.2)
           have HKSP := Lib.hid KSP
           have HCV := Lib.hid hconv
           have HUL := Lib.hid hU
           clear hconv hB0 hU KSP
           go_upto_region 23 with (fail)
           refine wp_region_S 7 (fun _ => True) (fun w' => w'.cell? ⟨gA,oA + j,none⟩ = some (.int .i64 (z : Int)) ∧ gA < w'.heap.size ∧ Buf w' G 5 (U.map UInt8.toNat)) mixed ?_
           change wpAnyS _ _ _ _ _ _ _ _ _ _ wr.drew
           have hC2 : wr.drew.cell? ⟨gA,oA + j,none⟩ = some (.int .i64 (z : Int)) ∧ gA < wr.drew.heap.size ∧ Buf wr.drew G 5 (U.map UInt8.toNat) := ⟨a0,gAl,hbu.drew⟩
           have hB1 := HB0.out.below ((Below.refl _ _).drew)
           obtain ⟨wd,hwd⟩ : ∃ q,wr.drew = q := ⟨_,rfl⟩
           rw [hwd] at hC2 hB1 ⊢
           have HD := Lib.hid (And.intro hC2 hB1)
           clear hwd hC2 hB1 a0 s0 gAl gJl hbu hbb
           have hE0 : ∀ L : Array Bool,HeldS 7 (fun _ => True) (fun w' => w'.cell? ⟨gA,oA + j,none⟩ = some (.int .i64 (z : Int)) ∧ gA < w'.heap.size ∧ Buf w' G 5 (U.map UInt8.toNat)) L wd := fun L => ⟨trivial,fun _ => HD.out.1⟩
           refine tkS 0 (.pointer (some ⟨D,0,none⟩)) rfl (hE0 _) (fun w' hS => ?_) ?_
           ·clear hS;go_simp
           try go_simp
           refine tkS 1 (.slice (some ⟨gA,oA,none⟩) atl cA) rfl (hE0 _) (fun w' hS => ?_) ?_
           ·clear hS;go_simp
           try go_simp
           refine tkS 2 (.int .i64 (j : Int)) rfl (hE0 _) (fun w' hS => ?_) ?_
           ·clear hS;go_simp
           try go_simp
           refine tkS 3 (.pointer (some ⟨gA,oA + j,none⟩)) rfl (hE0 _) (fun w' hS => ?_) ?_
           ·clear hS;go_simp
           try go_simp
           refine wpAnyS_take2 (i := 4) (v := .int .i64 (z : Int)) rfl (by decide) rfl (by kernel_rfl) (by kernel_rfl) (by kernel_rfl) (by kernel_rfl) (by kernel_rfl) (fun c a w h => h) (.inl ⟨by kernel_rfl,fun w' hS => ?_⟩) (hE0 _) ?_
           ·have x0 := hS.2.1;have xl := hS.2.2.1;go_simp
           try go_simp
           refine tkS 5 (.slice (some ⟨G,0,none⟩) 512 cp) rfl (hE0 _) (fun w' hS => ?_) ?_
           ·clear hS;go_simp
           try go_simp
           refine wpAnyS_take2 (i := 6) (v := .string (mk U)) rfl (by decide) rfl (by kernel_rfl) (by kernel_rfl) (by kernel_rfl) (by kernel_rfl) (by kernel_rfl) (fun c a w h => h) (.inl ⟨by kernel_rfl,fun w' hS => ?_⟩) (hE0 _) ?_
           ·have x0 := HCV.out w' hS.2.2.2;go_simp
           try go_simp
           refine alS 7 ?_
           unfold wpOp
           go_simp
           refine .inl ?_
           go_at_call 30
           refine (HKSP.out wd HD.out.2).mono ?_
           rintro e w8 ⟨rfl,hd8,hf8⟩
           have hE8 : ∀ L : Array Bool,L.getD 7 false = true → HeldS 7 (fun _ => True) (fun w' => w'.cell? ⟨gA,oA + j,none⟩ = some (.int .i64 (z : Int)) ∧ gA < w'.heap.size ∧ Buf w' G 5 (U.map UInt8.toNat)) L w8 := fun L hL => ⟨trivial,fun e => by rw [hL] at e;cases e⟩
           have HR8 := Lib.hid (HD.out.2.spoil hd8 hf8)
           refine ⟨hE8 _ (by kernel_rfl), ?_⟩
           try go_simp
           clear hd8 hf8 hE0 hE8
           refine wpAnyS_done (by kernel_rfl) ?_ _
           go_wp2
           go_roundw
           case rel => exact ⟨j + 1,X',_,by omega,by go_num,HR8.out⟩
           case measure => simp [intOf];omega
         ·have k1 : ¬ ((k : Int) < (tl : Int)) := by omega
          have HBB := Lib.hid (And.intro hbb hbu)
          have hconv := fun (w' : World) (hB : Buf w' G 5 (U.map UInt8.toNat)) => (show (convert 64 9 (.slice (some ⟨G,0,none⟩) 512 cp)).run Tryz.prog w' = .ok (.string (mk U)) w' by
           rw [← hU]
           exact run_convert_bytes_back (P := Tryz.prog) w' 64 9 5 ⟨G,0,none⟩ cp U Tryz.underlying64 Tryz.underlying5 Tryz.underlying9 (fun q hq => by
            rw [add_lit',Nat.zero_add,hB.cell (by rw [List.length_map];exact hq),List.getElem_map]))
          have hB0 := HZ.out.1.below (show Below WA.heap.size WA wr by rw [HG.out];exact hbb)
          have HB0 := Lib.hid hB0
          have KSP := fun (w7 : World) (h7 : RotB w1 w7 S D Lg M L X' m' p q (.slice AI nI cI) ids) => spoil_any X' D m'.ds z U w7 h7.loo.sto.dsk h7.quiet.syn (by omega) (by rw [h7.quiet.len];exact HZ.out.2)
          have HKSP := Lib.hid KSP
          have HCV := Lib.hid hconv
          have HUL := Lib.hid hU
          clear hconv hB0 hU KSP
          go_upto_region 23 with (fail)
          refine wp_region_S 7 (fun _ => True) (fun w' => w'.cell? ⟨gA,oA + j,none⟩ = some (.int .i64 (z : Int)) ∧ gA < w'.heap.size ∧ Buf w' G 5 (U.map UInt8.toNat)) mixed ?_
          change wpAnyS _ _ _ _ _ _ _ _ _ _ wr.drew
          have hC2 : wr.drew.cell? ⟨gA,oA + j,none⟩ = some (.int .i64 (z : Int)) ∧ gA < wr.drew.heap.size ∧ Buf wr.drew G 5 (U.map UInt8.toNat) := ⟨a0,gAl,hbu.drew⟩
          have hB1 := HB0.out.below ((Below.refl _ _).drew)
          obtain ⟨wd,hwd⟩ : ∃ q,wr.drew = q := ⟨_,rfl⟩
          rw [hwd] at hC2 hB1 ⊢
          have HD := Lib.hid (And.intro hC2 hB1)
          clear hwd hC2 hB1 a0 s0 gAl gJl hbu hbb
          have hE0 : ∀ L : Array Bool,HeldS 7 (fun _ => True) (fun w' => w'.cell? ⟨gA,oA + j,none⟩ = some (.int .i64 (z : Int)) ∧ gA < w'.heap.size ∧ Buf w' G 5 (U.map UInt8.toNat)) L wd := fun L => ⟨trivial,fun _ => HD.out.1⟩
          refine tkS 0 (.pointer (some ⟨D,0,none⟩)) rfl (hE0 _) (fun w' hS => ?_) ?_
          ·clear hS;go_simp
          try go_simp
          refine tkS 1 (.slice (some ⟨gA,oA,none⟩) atl cA) rfl (hE0 _) (fun w' hS => ?_) ?_
          ·clear hS;go_simp
          try go_simp
          refine tkS 2 (.int .i64 (j : Int)) rfl (hE0 _) (fun w' hS => ?_) ?_
          ·clear hS;go_simp
          try go_simp
          refine tkS 3 (.pointer (some ⟨gA,oA + j,none⟩)) rfl (hE0 _) (fun w' hS => ?_) ?_
          ·clear hS;go_simp
          try go_simp
          refine wpAnyS_take2 (i := 4) (v := .int .i64 (z : Int)) rfl (by decide) rfl (by kernel_rfl) (by kernel_rfl) (by kernel_rfl) (by kernel_rfl) (by kernel_rfl) (fun c a w h => h) (.inl ⟨by kernel_rfl,fun w' hS => ?_⟩) (hE0 _) ?_
          ·have x0 := hS.2.1;have xl := hS.2.2.1;go_simp
          try go_simp
          refine tkS 5 (.slice (some ⟨G,0,none⟩) 512 cp) rfl (hE0 _) (fun w' hS => ?_) ?_
          ·clear hS;go_simp
          try go_simp
          refine wpAnyS_take2 (i := 6) (v := .string (mk U)) rfl (by decide) rfl (by kernel_rfl) (by kernel_rfl) (by kernel_rfl) (by kernel_rfl) (by kernel_rfl) (fun c a w h => h) (.inl ⟨by kernel_rfl,fun w' hS => ?_⟩) (hE0 _) ?_
          ·have x0 := HCV.out w' hS.2.2.2;go_simp
          try go_simp
          refine alS 7 ?_
          unfold wpOp
          go_simp
          refine .inl ?_
          go_at_call 30
          refine (HKSP.out wd HD.out.2).mono ?_
          rintro e w8 ⟨rfl,hd8,hf8⟩
          have hE8 : ∀ L : Array Bool,L.getD 7 false = true → HeldS 7 (fun _ => True) (fun w' => w'.cell? ⟨gA,oA + j,none⟩ = some (.int .i64 (z : Int)) ∧ gA < w'.heap.size ∧ Buf w' G 5 (U.map UInt8.toNat)) L w8 := fun L hL => ⟨trivial,fun e => by rw [hL] at e;cases e⟩
          have HR8 := Lib.hid (HD.out.2.spoil hd8 hf8)
          refine ⟨hE8 _ (by kernel_rfl), ?_⟩
          try go_simp
          clear hd8 hf8 hE0 hE8
          refine wpAnyS_done (by kernel_rfl) ?_ _
          go_wp2
          go_roundw
          case rel => exact ⟨j + 1,X',_,by omega,by go_num,HR8.out⟩
          case measure => simp [intOf];omega
       ·have KR := read_out X' D m'.ds ia wr hB.loo.sto.dsk (by rw [hB.quiet.len];omega)
        have HZ := Lib.hid hB
        clear hB hin htl
        go_wp2_with (first
         | (go_at_call 29;refine KR.mono ?_;rintro e w5 ⟨rfl,hw⟩;obtain rfl := hw.symm;clear KR))
        go_roundw
        case rel => exact ⟨j + 1,X',m',by omega,by go_num,HZ.out⟩
        case measure => simp [intOf];omega
      ·have jc1 : ¬ ((j : Int) < 6) := by omega
       have HQ := Lib.hid hB
       clear hB
       go_wp2_with (fail)
       go_meet
       exact ⟨X',m',HQ.out⟩
     ·have jb1 : ¬ ((j : Int) < (jl : Int)) := by omega
      have HQ := Lib.hid hB
      clear hB
      go_wp2_with (fail)
      go_meet
      exact ⟨X',m',HQ.out⟩
    ·have ja1 : ¬ ((j : Int) < (atl : Int)) := by omega
     have HQ := Lib.hid hB
     clear hB
     go_wp2_with (fail)
     go_meet
     exact ⟨X',m',HQ.out⟩
  case rest =>
   obtain ⟨XS,mS,hcut⟩ := hcut
   have HSC := Lib.hid hcut
   clear hcut
   go_wp2_with (fail)
   go_loopw [9,20] (fun sv tv wr => ∃ (t : Nat) (X3 : List Nat) (S3 Lg3 M3 L3 : Nat) (m3 : StoM) (p3 q3 : Nat),t ≤ 2 ∧ tv = .int .i64 t ∧ sv = .pointer (some ⟨L3,0,none⟩) ∧ RotC w1 wr S3 D Lg3 M3 L3 X3 m3 p3 q3 0 (t * 10000) (.slice AI nI cI) ids) (fun _ tv _ => 2 - (intOf tv).toNat)
   case atStart => exact ⟨0,XS,S,Lg,M,L,mS,p,q,Nat.zero_le _,rfl,rfl,HSC.out.toC⟩
   case round =>
    obtain ⟨t,X3,S3,Lg3,M3,L3,m3,p3,q3,ht,rfl,rfl,hC0⟩ := hrel
    have t0 : (0 : Int) ≤ (t : Int) := by omega
    have HC0 := Lib.hid hC0
    clear hC0
    by_cases ht1 : t < 2
    ·have t1 : (t : Int) < 2 := by omega
     go_wp2_with (fail)
     go_loopw [21] (fun iv wr => ∃ (i r : Nat),i ≤ nI ∧ r ≤ i ∧ iv = .int .i64 i ∧ RotC w1 wr S3 D Lg3 M3 L3 X3 m3 p3 q3 r (t * 10000) (.slice AI nI cI) ids) (fun iv _ => nI - (intOf iv).toNat)
     case atStart => exact ⟨0,0,Nat.zero_le _,Nat.zero_le _,rfl,HC0.out⟩
     case round =>
      obtain ⟨i,r,hi,hri,rfl,hC⟩ := hrel
      have i0 : (0 : Int) ≤ (i : Int) := by omega
      have hn5 := hC.n
      rw [HNI.out] at hn5
      by_cases hi1 : i < nI
      ·have i1 : (i : Int) < (nI : Int) := by omega
       have hii : i < ids.length := by rw [HNI.out];exact hi1
       have hlr := hC.row.row
       rw [HNI.out] at hlr
       obtain ⟨gI,oI,rfl,hgI,hcI⟩ := (row_lies hlr) (by rw [txc,List.length_map];omega)
       have c0 := hcI i (.string (mk ids[i])) (txc_at ids i hii)
       have h32 := hC.i32 _ (List.getElem_mem hii)
       have hap := hC.row.ap gI rfl
       obtain ⟨id,hid⟩ : ∃ q,ids[i] = q := ⟨_,rfl⟩
       rw [hid] at c0 h32
       have hrl := lread_len hC.rdy hC.loo.sto.dsk.good (nameL id)
       have hgl := getL_len m3 r id
       have KG := get_loose id wr hC.loo hC.rdy h32 (by omega) (by omega)
       obtain ⟨ok1,ok2,ok3⟩ := getL_ok m3 r id
       unfold GetLP at KG
       obtain ⟨O,hO⟩ : ∃ q,getL m3 r id = q := ⟨_,rfl⟩
       rw [hO] at KG ok1 ok2 ok3 hgl
       obtain ⟨⟨v,ec⟩,r5⟩ := O
       dsimp only at KG ok1 ok2 ok3 hgl
       have hv9 : v.length ≤ 1000000000 := by omega
       obtain ⟨V,hV⟩ : ∃ q,mk v = q := ⟨_,rfl⟩
       obtain ⟨ID,hID⟩ : ∃ q,mk id = q := ⟨_,rfl⟩
       rw [hID] at KG c0
       rw [hV] at KG
       have HC := Lib.hid (And.intro hC (And.intro hgI (And.intro c0 hap)))
       have HOK := Lib.hid (And.intro ok1 (And.intro ok2 (And.intro hV (And.intro hID hv9))))
       clear hlr hcI hii hid h32 hap hrl hgl hO ok1 ok2 hC hV hID hv9
       go_upto_region 31 with (first
        | (go_at_call 9;refine KG.mono ?_;rintro e w5 ⟨rfl,hm5,hl5⟩;have H5 := Lib.hid (And.intro (HC.out.1.get hm5 hl5) (And.intro (Nat.lt_of_lt_of_le HC.out.2.1 hm5.size) ((hm5.frm.cell (p := ⟨gI,oI + i,none⟩) HC.out.2.1 HC.out.2.2.2).trans HC.out.2.2.1)));clear hm5 hl5 KG))
       refine wp_region_held (S := fun w' => Below w5.heap.size w5 w') mixed ?_
       change wpAnyH _ _ _ _ _ _ _ _ w5.drew
       obtain ⟨wd,hwd⟩ : ∃ q,w5.drew = q := ⟨_,rfl⟩
       have hS0 : Below w5.heap.size w5 wd := by rw [← hwd];exact (Below.refl _ _).drew
       rw [hwd]
       clear hwd c0 hgI
       rcases Nat.eq_zero_or_pos ec with rfl | hec
       ·have KS : ∀ (g : Nat) (w7 : World),Below w5.heap.size w5 w7 → w7.cell? ⟨g,0,none⟩ = some (.string V) → Calls Tryz.prog 31 #[.slice (some ⟨g,0,none⟩) 1 1] w7 fun e w' => e = .returned (.string ID) ∧ Below w7.heap.size w7 w' := fun g w7 hb hc => by
         rw [← HOK.out.2.2.2.1, ← HOK.out.1 rfl]
         exact sum1_any v g 0 1 w7 (by rw [hc,HOK.out.2.2.1]) HOK.out.2.2.2.2 (H5.out.1.loo.rt.below H5.out.1.loo.pos hb) (Nat.lt_of_lt_of_le H5.out.1.loo.pos hb.size)
        have HKS := Lib.hid KS
        have hcm : (ID.toList == ID.toList) = true := by simp
        have hcm2 : (ID.toList != ID.toList) = false := by rw [bne,hcm];rfl
        clear KS
        refine tkQ 0 (.int .i64 0) rfl hS0 ?_
        try go_simp
        refine tkQ 1 (.bool true) rfl hS0 ?_
        try go_simp
        refine tkQ 2 (.bool true) rfl hS0 ?_
        try go_simp
        refine tkQ 3 (.string V) rfl hS0 ?_
        try go_simp
        refine tkQ 6 (.slice (some ⟨gI,oI,none⟩) nI cI) rfl hS0 ?_
        try go_simp
        refine tkQ 7 (.int .i64 (i : Int)) rfl hS0 ?_
        try go_simp
        refine tkQ 8 (.pointer (some ⟨gI,oI + i,none⟩)) rfl hS0 ?_
        try go_simp
        refine tkH 9 (.string ID) rfl hS0 (fun w' hS => ?_) ?_
        ·have q0 := (hS.cell (p := ⟨gI,oI + i,none⟩) H5.out.2.1).trans H5.out.2.2;have ql := Nat.lt_of_lt_of_le H5.out.2.1 hS.size;go_simp
        try go_simp
        refine alH 4 ?_
        unfold wpOp
        go_simp
        have hS1 := hS0.alloc hS0.size (.cells #[.string V] 9)
        refine .inl ⟨hS1, ?_⟩
        try go_simp
        have KS1 := HKS.out _ _ hS1 ((Blk.new wd #[.string V] 9).cell 0)
        clear hS0
        refine alH 5 ?_
        unfold wpOp
        go_simp
        refine .inl ?_
        go_at_call 31
        refine KS1.mono ?_
        rintro e w6 ⟨rfl,hb6⟩
        have hS2 := below_step hS1 hb6
        clear hb6 hS1 KS1
        refine ⟨hS2, ?_⟩
        try go_simp
        refine tkQ 10 (.bool false) rfl hS2 ?_
        try go_simp
        refine tkQ 11 (.bool false) rfl hS2 ?_
        try go_simp
        refine tkQ 12 (.bool false) rfl hS2 ?_
        try go_simp
        refine tkQ 13 (.int .i64 0) rfl hS2 ?_
        try go_simp
        refine tkQ 14 (.bool false) rfl hS2 ?_
        try go_simp
        refine tkQ 15 (.bool false) rfl hS2 ?_
        try go_simp
        refine tkN 16 rfl hS2 ?_
        try go_simp
        refine tkN 17 rfl hS2 ?_
        try go_simp
        refine tkQ 18 (.bool false) rfl hS2 ?_
        try go_simp
        refine tkQ 19 (.bool false) rfl hS2 ?_
        try go_simp
        refine wpAnyH_done (by kernel_rfl) ?_ _
        have H6 := Lib.hid (H5.out.1.below hS2)
        clear hS2 hcm hcm2
        go_wp2
        go_roundw
        case rel => exact ⟨i + 1,r5,by omega,by omega,by go_num,H6.out⟩
        case measure => simp [intOf];omega
       ·obtain rfl : V = ⟨#[]⟩ := by rw [← HOK.out.2.2.1,HOK.out.2.1 (by omega)];rfl
        have a1 : ((ec : Int) != 0) = true := by simpa using (by omega : ¬ ec = 0)
        have a3 : ((ec : Int) == 0) = false := by simpa using (by omega : ¬ ec = 0)
        have a5 : ¬ (ec : Int) = 0 := by omega
        refine tkQ 0 (.int .i64 (ec : Int)) rfl hS0 ?_
        try go_simp
        refine tkQ 1 (.bool false) rfl hS0 ?_
        try go_simp
        refine tkQ 2 (.bool false) rfl hS0 ?_
        try go_simp
        refine tkN 3 rfl hS0 ?_
        try go_simp
        refine tkN 4 rfl hS0 ?_
        try go_simp
        refine tkN 5 rfl hS0 ?_
        try go_simp
        refine tkN 6 rfl hS0 ?_
        try go_simp
        refine tkN 7 rfl hS0 ?_
        try go_simp
        refine tkN 8 rfl hS0 ?_
        try go_simp
        refine tkN 9 rfl hS0 ?_
        try go_simp
        refine tkN 10 rfl hS0 ?_
        try go_simp
        refine tkQ 11 (.bool false) rfl hS0 ?_
        try go_simp
        refine tkQ 12 (.bool false) rfl hS0 ?_
        try go_simp
        refine tkQ 13 (.int .i64 (ec : Int)) rfl hS0 ?_
        try go_simp
        refine tkQ 14 (.bool true) rfl hS0 ?_
        try go_simp
        refine tkQ 15 (.bool true) rfl hS0 ?_
        try go_simp
        refine tkQ 16 (.string ⟨#[]⟩) rfl hS0 ?_
        try go_simp
        refine tkQ 17 (.bool false) rfl hS0 ?_
        try go_simp
        refine tkQ 18 (.bool false) rfl hS0 ?_
        try go_simp
        refine tkQ 19 (.bool false) rfl hS0 ?_
        try go_simp
        refine wpAnyH_done (by kernel_rfl) ?_ _
        have H6 := Lib.hid (H5.out.1.below hS0)
        clear hS0 a1 a3 a5
        go_wp2
        go_roundw
        case rel => exact ⟨i + 1,r5,by omega,by omega,by go_num,H6.out⟩
        case measure => simp [intOf];omega
      ·obtain rfl : i = nI := by omega
       clear hi hi1 hri
       have hsub : ∀ z ∈ X3,z ∈ L3 :: S3 :: M3 :: X3 := fun z hz => List.mem_cons_of_mem _ (List.mem_cons_of_mem _ (List.mem_cons_of_mem _ hz))
       have HNX := Lib.hid (hC.nw.sub hsub)
       have KM := mount_any X3 D m3.ds wr hC.loo.sto.dsk hC.calm.on (by rw [hC.calm.len];decide) (by have := hC.calm.small;omega) hC.loo.sto.tb hC.loo.sto.pos hC.loo.sto.apart.2.2.2
       obtain ⟨R,hR⟩ : ∃ q,mountM m3.ds = q := ⟨_,rfl⟩
       rw [hR] at KM
       obtain ⟨c,dsn,st⟩ := R
       have hMR := mountM_calm hC.calm (by omega) hR
       unfold MountP at KM
       obtain ⟨fl,hfl⟩ : ∃ q,filesH (secAt m3.ds.vis 0) = q := ⟨_,rfl⟩
       rw [hfl] at KM hMR
       have HC3 := Lib.hid hC
       clear hfl hR hsub hC
       cases st with
       | none =>
        have hc := hMR.1 rfl
        clear hMR
        dsimp only at KM
        rcases hc with rfl | rfl
        ·go_wp2_with (first
          | (go_at_call 23;refine KM.mono ?_;rintro e w5 ⟨X5,hd5,hm5,rfl⟩;have H5 := Lib.hid (HNX.out.mv hm5);clear hd5 hm5 KM))
         go_ret
         exact ⟨rfl,H1.out.trans (H5.out.below.mono H1.out.size)⟩
        ·go_wp2_with (first
          | (go_at_call 23;refine KM.mono ?_;rintro e w5 ⟨X5,hd5,hm5,rfl⟩;have H5 := Lib.hid (HNX.out.mv hm5);clear hd5 hm5 KM))
         go_ret
         exact ⟨rfl,H1.out.trans (H5.out.below.mono H1.out.size)⟩
       | some st =>
        obtain ⟨F,T⟩ := st
        have HRD := Lib.hid (hMR.2 F T rfl)
        clear hMR
        dsimp only at KM
        go_upto_region 37 with (first
         | (go_at_call 23;refine KM.mono ?_;rintro e w5 ⟨X5,hd5,hm5,S5,Lg5,M5,rfl,hst5,hS5,hM5,_⟩;have H5 := Lib.hid (HC3.out.mount hm5 hst5 hS5 hM5 HRD.out.1 HRD.out.2);clear hd5 hm5 hst5 hS5 hM5 KM))
        obtain ⟨mm,hmm⟩ : ∃ q,(⟨dsn,F,T,fl,false⟩ : StoM) = q := ⟨_,rfl⟩
        rw [hmm] at H5
        clear hmm
        by_cases ho : (opR mm tmpL).1 = 0 ∨ (opR mm tmpL).1 = 9
        ·have KO := open_ok w5 H5.out.sto H5.out.rdy H5.out.rt H5.out.zero ho
         clear ho
         go_wp2_with (first
          | (go_at_call 11;refine KO.mono ?_;rintro e w6 ⟨X6,L6,rfl,hl6,hm6,hL6⟩;have H6 := Lib.hid (H5.out.opened hl6 hm6 hL6);clear hl6 hm6 hL6 KO))
         go_roundw
         case rel => exact ⟨t + 1,X6,S5,Lg5,M5,L6,_,0,0,by omega,by go_num,rfl,by have := H6.out;rw [show t * 10000 + 10000 = (t + 1) * 10000 by omega] at this;exact this⟩
         case measure => simp [intOf];omega
        ·have KO := open_bad w5 H5.out.sto H5.out.rdy ho
         obtain ⟨E,hE⟩ : ∃ q,(opR mm tmpL).1 = q := ⟨_,rfl⟩
         rw [hE] at KO ho
         have a1 : ((E : Int) != 0) = true := by simpa using (by omega : ¬ E = 0)
         have a3 : ((E : Int) == 0) = false := by simpa using (by omega : ¬ E = 0)
         have a5 : ¬ (E : Int) = 0 := by omega
         clear ho hE
         go_wp2_with (first
          | (go_at_call 11;refine KO.mono ?_;rintro e w6 ⟨X6,rfl,_,hm6⟩;have H6 := Lib.hid (H5.out.nw.mv hm6);clear hm6 KO))
         go_ret
         exact ⟨rfl,H1.out.trans (H6.out.below.mono H1.out.size)⟩
    ·have t1 : ¬ ((t : Int) < 2) := by omega
     go_wp2_with (fail)
     go_ret
     exact ⟨rfl,H1.out.trans (HC0.out.nw.below.mono H1.out.size)⟩
open Go.ChangeShapes Go.WideShapes Go.ChangeAt Go.RowKit
theorem own : ownKnob Tryz.prog.godebug = none := by kernel_rfl
theorem laidOut : laidOutB Tryz.prog = true := by kernel_rfl
def rootsL : List Int := rootsW.map ix
theorem laid_tail {P : Program} {x : String × DataW Unit} {rest : List (String × DataW Unit)} {W : World} (h : laidMet P (x :: rest) W) : laidMet P rest W := by
 obtain ⟨ps,⟨g,t,cs,fuel,p,q,h1,h2,h3,h4,h5,rfl⟩,h6,h7⟩ := h
 exact ⟨q,h5,(List.nodup_append.1 h6).2.1,fun b off hm => h7 b off (List.mem_append_right _ hm)⟩
theorem tabs_of {W : World} {laid : List (String × DataW Unit)} (hlist : laid = Rows.looseNilRow.laid) (hmet : laidMetH Tryz.prog laid W) : TB W ∧ RT W := by
 subst hlist
 rw [Go.MakeChecks.laidMetH_plain _ _ _ (by kernel_rfl)] at hmet
 rw [show Rows.looseNilRow.laid = [("stemma/crc.table", (Lib.tabData .u32 tblL : DataW Unit)), ("stemma/sha.roots", (Lib.tabData .u32 rootsL : DataW Unit))] by kernel_rfl] at hmet
 have htab : Lib.TabIs Tryz.prog W "stemma/crc.table" .u32 tblL :=
  Lib.tabIs_of_head (g := 1) (t := 220) (e := 137) (n := 16) (by kernel_rfl) (by kernel_rfl) (by kernel_rfl) (by kernel_rfl) (by kernel_rfl) (by kernel_rfl) hmet
 have htab2 : Lib.TabIs Tryz.prog W "stemma/sha.roots" .u32 rootsL :=
  Lib.tabIs_of_head (g := 0) (t := 215) (e := 137) (n := 64) (by kernel_rfl) (by kernel_rfl) (by kernel_rfl) (by kernel_rfl) (by kernel_rfl) (by kernel_rfl) (laid_tail hmet)
 refine ⟨fun k hk => htab.cell (by kernel_rfl) k hk,fun k hk => ?_⟩
 have := htab2.cell (g := 0) (by kernel_rfl) k hk
 rw [this]
 have e : rootsL.getD k 0 = ix (at_ rootsW k) := by
  unfold rootsL at_
  have hl : k < rootsW.length := hk
  rw [List.getD_eq_getElem?_getD,List.getD_eq_getElem?_getD,List.getElem?_map,List.getElem?_eq_getElem hl]
  rfl
 rw [e]
theorem tb_pos {W : World} (h : TB W) : 1 < W.heap.size := by
 have := h 0 (by decide)
 rcases Nat.lt_or_ge 1 W.heap.size with h0 | h0
 ·exact h0
 ·rw [World.cell?,Array.getElem?_eq_none h0] at this;cases this
noncomputable def laidW (os : Os) : World := World.doorLaid Tryz.prog 400 os
theorem laid_met (os : Os) (args : Array Value) : laidMet Tryz.prog Rows.looseNilRow.laid ((laidW os).forCall (fun _ _ => 0) ⟨#[],args,[]⟩).memory :=
 laidMet_of_run' 8 (by kernel_rfl) (by kernel_rfl)
open Go.ChangeShapes Go.WideShapes Go.ChangeAt Go.RowKit
theorem cells9 : Tryz.prog.cellsOf 9 = 1 := by kernel_rfl
theorem cells3 : Tryz.prog.cellsOf 3 = 1 := by kernel_rfl
theorem addr_block {W : World} {b : Addr} {i : Nat} {v : Value} (g : W.cell? (b.add i) = some v) (hi : i = 0) : ∃ bb off,b = ⟨bb,off,none⟩ ∧ bb < W.heap.size := by
 subst hi
 obtain ⟨bb,off,spot⟩ := b
 have hspot : spot = none := by simpa [Addr.add] using World.cell?_spot g
 subst hspot
 refine ⟨bb,off,rfl, ?_⟩
 rcases Nat.lt_or_ge bb W.heap.size with h | h
 ·exact h
 ·simp [World.cell?,Addr.add,Array.getElem?_eq_none h] at g
instance : Inhabited ActM := ⟨⟨0,[],[],0,0⟩⟩
theorem ints_arg {H : Type} {enc : TypeId × Value → H} {W : World} {a : Option Addr} {len cap fuel : Nat} {sp : Nat → Bool} {held : Bool} {x : DataW H × List MemPlace} (h : DataW.trod enc Tryz.prog W 0 sp held fuel 62 (Value.slice a len cap).cells.toList = some x) :
  ∃ l : List Int,l.length = len ∧ len ≤ maxLen ∧ Lies W a (icells l) := by
 rcases open_ints Tryz.underlying62 Tryz.underlying3 cells3 h with ⟨hcs,_⟩ | ⟨b,len',cap',zs,hcs,_,hl,hm,hz,_,hcell,_⟩
 ·simp [Value.cells] at hcs
  obtain ⟨rfl,rfl,rfl⟩ := hcs
  exact ⟨[],rfl,Nat.zero_le _,fun h => absurd h (by simp [icells])⟩
 ·simp [Value.cells] at hcs
  obtain ⟨rfl,rfl,rfl⟩ := hcs
  have hle : len ≤ zs.length := by rw [hz];split <;> omega
  refine ⟨zs.take len,by rw [List.length_take];omega,by omega,fun hp => ?_⟩
  have h0 : 0 < zs.length := by
   rw [icells,List.length_map,List.length_take] at hp;omega
  obtain ⟨bb,off,rfl,hbb⟩ := addr_block (hcell 0 h0) rfl
  refine ⟨bb,off,rfl,hbb,fun j u hu => ?_⟩
  rw [icells,List.getElem?_map] at hu
  obtain ⟨z,hz2,rfl⟩ := Option.map_eq_some_iff.1 hu
  obtain ⟨hj,hz3⟩ := List.getElem?_eq_some_iff.1 hz2
  rw [List.length_take] at hj
  have := hcell j (by omega)
  rw [add_lit'] at this
  rw [this, ← hz3,List.getElem_take]
  simp only [List.getD_eq_getElem?_getD,List.getElem?_eq_getElem (show j < zs.length by omega),Option.getD_some]
theorem txs_arg {H : Type} {enc : TypeId × Value → H} {W : World} {a : Option Addr} {len cap fuel : Nat} {sp : Nat → Bool} {held : Bool} {x : DataW H × List MemPlace} (h : DataW.trod enc Tryz.prog W 0 sp held fuel 33 (Value.slice a len cap).cells.toList = some x) :
  ∃ l : List Bs,l.length = len ∧ len ≤ maxLen ∧ Lies W a (txc l) ∧ ∀ t ∈ l,t.length ≤ maxLen := by
 rcases open_strings Tryz.underlying33 Tryz.underlying9 cells9 h with ⟨hcs,_⟩ | ⟨b,len',cap',ss,hcs,_,hl,hm,hz,_,hcell,hsz⟩
 ·simp [Value.cells] at hcs
  obtain ⟨rfl,rfl,rfl⟩ := hcs
  exact ⟨[],rfl,Nat.zero_le _,fun h => absurd h (by simp [txc]),fun t ht => by cases ht⟩
 ·simp [Value.cells] at hcs
  obtain ⟨rfl,rfl,rfl⟩ := hcs
  have hle : len ≤ ss.length := by rw [hz];split <;> omega
  refine ⟨(ss.take len).map (·.data.toList),by rw [List.length_map,List.length_take];omega,by omega,fun hp => ?_,fun t ht => ?_⟩
  ·have h0 : 0 < ss.length := by
    rw [txc,List.length_map,List.length_map,List.length_take] at hp;omega
   obtain ⟨bb,off,rfl,hbb⟩ := addr_block (hcell 0 h0) rfl
   refine ⟨bb,off,rfl,hbb,fun j u hu => ?_⟩
   rw [txc,List.getElem?_map,List.getElem?_map] at hu
   obtain ⟨t,ht2,rfl⟩ := Option.map_eq_some_iff.1 hu
   obtain ⟨s,hs,rfl⟩ := Option.map_eq_some_iff.1 ht2
   obtain ⟨hj,hs3⟩ := List.getElem?_eq_some_iff.1 hs
   rw [List.length_take] at hj
   have := hcell j (by omega)
   rw [add_lit'] at this
   rw [this,mk_list, ← hs3,List.getElem_take]
   simp only [List.getD_eq_getElem?_getD,List.getElem?_eq_getElem (show j < ss.length by omega),Option.getD_some]
  ·obtain ⟨s,hs,rfl⟩ := List.mem_map.1 ht
   have h1 := hsz s (List.mem_of_mem_take hs)
   have z1 : s.data.toList.length = s.size := by rw [Array.length_toList];rfl
   omega
open Go.ChangeShapes Go.WideShapes Go.ChangeAt Go.RowKit
open Go.ChangeMaps (open_string shut_string)
theorem looseRots_reads (os : Os) {H : Type} (enc : TypeId × Value → H) : ∃ places,DataW.whole enc Tryz.prog ((laidW os).forCall (fun _ _ => 0) ⟨#[], #[.slice none 0 0, .slice none 0 0, .slice none 0 0],[]⟩).memory Tryz.f6.params.toList Rows.looseRotsSpec.vars false #[Value.slice none 0 0,Value.slice none 0 0,Value.slice none 0 0].toList 8 = some ([.nil, .nil, .nil],[],places) :=
 ⟨[],by kernel_rfl⟩
set_option maxRecDepth 100000 in
theorem looseRots_lifted (os : Os) (started : os.Started) (H : Type) (enc : TypeId × Value → H) (F : Stop.Interp) :
  ReturnsInHanded {} Tryz.checked os 6 .any ((OpenSpec.ofChange Rows.looseRotsSpec).preRow enc Tryz.prog Tryz.f6 Rows.looseRotsRow.domain false Rows.looseRotsRow.laid) (((OpenSpec.ofChange Rows.looseRotsSpec).at F).post enc Tryz.prog Tryz.f6 false true false false) := by
 obtain ⟨places,hx⟩ := looseRots_reads os enc
 refine returnsInHanded_of_row (C := Tryz.checked) (s := OpenSpec.ofChange Rows.looseRotsSpec) own started (by kernel_rfl) Tryz.func6
  (witness_row_at (enc := enc) (C := Tryz.checked) false (laidW os) #[.slice none 0 0, .slice none 0 0, .slice none 0 0] rfl (by kernel_rfl) (by kernel_rfl) (by kernel_rfl)
   (OpenSpec.preRow_of_cond 8 hx (by kernel_rfl) (fun k hk => by cases hk) (by kernel_rfl) (laid_met os _))) ?_
 intro W base args ds gs before hval0 hW _ _ hz hmet hsh _
 have hval : ∀ (j : Nat) t v,Tryz.f6.params[j]? = some t → args[j]? = some v → Value.okWide Tryz.prog W .any base t v := hval0
 have hW' := hW
 obtain ⟨p,q,hA0,hV,rfl,_,_⟩ := hW
 have hA : DataW.TrodAll enc Tryz.prog W 0 (fun _ => true) true Tryz.f6.params.toList args.toList ds p := hA0
 have hz' : (DataW.weightsEach Tryz.prog (Tryz.f6.params.toList ++ []) (ds ++ gs)).all (· ≤ reachBytes) = true := hz
 rw [Tryz.params6] at hA hval hz'
 obtain ⟨v0,v1,v2,d0,d1,d2,p0,p1,p2,rfl,rfl,rfl,h0,h1,h2⟩ := trodAll_three hA
 obtain ⟨rfl,rfl⟩ := trodVars_none hV
 obtain ⟨a0,l0,c0,rfl⟩ := okWide_slice Tryz.underlying33 (hval 0 33 v0 rfl rfl)
 obtain ⟨a1,l1,c1,rfl⟩ := okWide_slice Tryz.underlying62 (hval 1 62 v1 rfl rfl)
 obtain ⟨a2,l2,c2,rfl⟩ := okWide_slice Tryz.underlying33 (hval 2 33 v2 rfl rfl)
 have h0k := h0
 obtain ⟨fuel0,hf0⟩ := h0
 have h1k := h1
 obtain ⟨fuel1,hf1⟩ := h1
 have h2k := h2
 obtain ⟨fuel2,hf2⟩ := h2
 clear hA0 hval0 hz hz'
 simp only [List.append_nil] at hW'
 have hlt := hW'.lt
 obtain ⟨ld0,rfl,AL0,AC0,AO0⟩ := txs_arg hf0
 obtain ⟨li1,rfl,BL1,BC1⟩ := ints_arg hf1
 obtain ⟨lj2,rfl,CL2,CC2,CO2⟩ := txs_arg hf2
 have ht := tabs_of rfl hmet
 refine (looseRots_any a0 ld0 c0 a1 li1 c1 a2 lj2 c2 W AC0 AL0 AO0 BC1 BL1 CC2 CL2 CO2 ht.1 ht.2 (tb_pos ht.1)).mono fun e W' ⟨he,hb⟩ => ?_
 subst he
 refine ⟨_,rfl,_,_,_,[],_,[],hW',trodAll_mk1 (shut_bool Tryz.underlying4 true),trodAll_mk3 (Below.trod laidOut (by kernel_rfl) (of_decide_eq_true (by kernel_rfl)) h0k hb (fun x hx => hlt x (by simp [hx]))) (Below.trod laidOut (by kernel_rfl) (of_decide_eq_true (by kernel_rfl)) h1k hb (fun x hx => hlt x (by simp [hx]))) (Below.trod laidOut (by kernel_rfl) (of_decide_eq_true (by kernel_rfl)) h2k hb (fun x hx => hlt x (by simp [hx]))),rfl,hb.frame _,fun h => by cases h⟩
theorem looseRots_said : Rows.LooseRotsSaid :=
 OpenClaim.holds_of_cond 6 Tryz.f6 rfl rfl rfl rfl rfl rfl rfl ⟨rfl,rfl,rfl,rfl,rfl⟩ rfl rfl rfl rfl rfl (by kernel_rfl) Tryz.func6 (by kernel_rfl)
  (of_decide_eq_true (by kernel_rfl)) (by unfold Func.isWrapper;first | (rw [if_pos (by decide +kernel)];kernel_rfl) | (rw [if_neg (by decide +kernel)];exact ⟨rfl,rfl⟩))
  (fun os started H enc _ F => by rw [OpenClaim.pre_eq_preRow];exact looseRots_lifted os started H enc F)
theorem looseRots_plain (f : FuncId) (fn : Func) (hf : Tryz.pinned.checked.prog.funcNamed "stemma/stemmalaw12.LooseRots" = some f) (hfn : Tryz.pinned.checked.prog.funcs[f]? = some fn) :
  false = Tryz.pinned.checked.prog.looks [] ∧ ∀ (j : Nat) t,fn.params[j]? = some t → Tryz.pinned.checked.prog.wantsStandIn t = false := by
 obtain rfl : f = 6 := Option.some.inj ((show Tryz.prog.funcNamed "stemma/stemmalaw12.LooseRots" = some 6 by kernel_rfl).symm.trans hf) |>.symm
 obtain rfl : fn = Tryz.f6 := (Option.some.inj (Tryz.func6.symm.trans hfn)).symm
 refine ⟨by kernel_rfl,fun j t ht => ?_⟩
 rw [Tryz.params6] at ht
 have hm : t ∈ [33,62,33] := by simpa using Array.mem_of_getElem? ht
 have hall : ([33,62,33].all fun u => !Tryz.prog.wantsStandIn u) = true := by kernel_rfl
 exact (show Tryz.prog.wantsStandIn t = false by simpa using List.all_eq_true.1 hall t hm)
theorem looseRots_card : Rows.LooseRotsCardSaid :=
 Claim7.holds_tied_plain_at .later [] _ _ _ _ looseRots_said (fun _ h => by cases h) (by kernel_rfl) (fun _ h => by cases h) looseRots_row_tie rfl ⟨rfl,rfl⟩ (by kernel_rfl) rfl looseRots_plain (by kernel_rfl)
#print axioms looseRots_card
end Go.Proofs.YtmjdmijloanfnaaGreatDoor
