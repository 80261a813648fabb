/- file.put, walked. -/
import Derived.Test.YtcmcdddnckcpcaaGreatDoorSu
namespace Go.Proofs.YtcmcdddnckcpcaaGreatDoor
open Go.RowKit Go.Maps
theorem wpOp_insert {P : Program} {ops : Array Oper} {Q : Exit → Act → World → Prop} {i : Nat} {K : Act → World → Prop} {a : Act} {w w' : World} {o : Oper} (ho : ops[i]? = some o) (hg : o.guard = none) (t : TypeId) (m x v : Operand) (hop : o.op = .insert t m x v) (mv kv vv : Value)
    (hm : a.eval m = mv) (hx : a.eval x = kv) (hv : a.eval v = vv) (hrun : (Instr.mapUpdate t mv kv vv).run P w = .ok () w') (hK : K (a.put o.dst undef) w') : wpOp P ops Q i K a w := by
  refine wpOp_of ho hg ?_
  unfold Oper.wp
  simp [execOp, hop, hm, hx, hv, hrun, Result.andThen]
  exact hK
theorem wpOp_mapUpdate {P : Program} {ops : Array Oper} {Q : Exit → Act → World → Prop} {i : Nat} {K : Act → World → Prop} {a : Act} {w w' : World} {o : Oper} (ho : ops[i]? = some o) (hg : o.guard = none) (t : TypeId) (m x v : Operand) (hop : o.op = .mapUpdate t m x v) (mv kv vv : Value)
    (hm : a.eval m = mv) (hx : a.eval x = kv) (hv : a.eval v = vv) (hrun : (Instr.mapUpdate t mv kv vv).run P w = .ok () w') (hK : K (a.put o.dst undef) w') : wpOp P ops Q i K a w := by
  refine wpOp_of ho hg ?_
  unfold Oper.wp
  simp [execOp, hop, hm, hx, hv, hrun, Result.andThen]
  exact hK
def putC (most : Nat) (T : List Bool) (l : List Nat) (data : Bs) (f : FileM) : List Cmd := layC l data ++ settleC most T [(f.entry, entryB f.name f.size f.ext)]
def PutP (X : List Nat) (S D Lg M : Nat) (m : StoM) (T : List Bool) (l : List Nat) (data : Bs) (f : FileM) (w : World) (e : Ending) (w' : World) : Prop :=
  e = .returned (.int .i64 ((DS.run (putC m.most T l data f) m.ds).1 : Nat)) ∧ ∃ X', Mv (S :: M :: X) (S :: M :: X') w w' ∧
    ((DS.run (putC m.most T l data f) m.ds).1 = 0 → Sto w' X' S D Lg M ⟨(DS.run (putC m.most T l data f) m.ds).2, putF m.F f, T, m.most, m.off⟩) ∧
    ((DS.run (putC m.most T l data f) m.ds).1 ≠ 0 → Sto w' X' S D Lg M ⟨(DS.run (putC m.most T l data f) m.ds).2, m.F, m.T, m.most, true⟩)
theorem Mv.cons2 {X X' : List Nat} {w w' : World} {S : Nat} (h : Mv (S :: X) (S :: X') w w') (M : Nat) : Mv (S :: M :: X) (S :: M :: X') w w' :=
  ⟨h.frm.mono (fun x hx => by rcases List.mem_cons.1 hx with rfl | hx <;> simp [*]), fun x hx => by
    rcases List.mem_cons.1 hx with rfl | hx
    · exact .inl (List.mem_cons_self ..)
    · rcases List.mem_cons.1 hx with rfl | hx
      · exact .inl (by simp)
      · rcases h.sub x (List.mem_cons_of_mem _ hx) with h1 | h1
        · rcases List.mem_cons.1 h1 with rfl | h1
          · exact .inl (List.mem_cons_self ..)
          · exact .inl (by simp [h1])
        · exact .inr h1⟩
/-- The map alone is written. -/
theorem Sto.store {w w' : World} {X : List Nat} {S D Lg M : Nat} {m : StoM} {F : List FileM} {ad : AdM} (h : Sto w X S D Lg M m) (hg : w.grownBy w' (some M)) (hF : FM w' M ad F) (hE : Exts w' X ad F) : Sto w' X S D Lg M ⟨m.ds, F, m.T, m.most, m.off⟩ := by
  obtain ⟨ad0, h1, _⟩ := h.map
  obtain ⟨a1, a2, a3, a4⟩ := h.apart
  obtain ⟨_, n2, n3⟩ := h.ne
  have hfr : Frm [M] w w' := ⟨hg.os, hg.tape, hg.output, hg.size, fun k hk hx => hg.block k hk (by simpa using hx)⟩
  refine ⟨hfr.blk h.blk (by simpa using n2.symm), h.dsk.frm hfr (fun x hx e => a3 (by simp at e; rwa [← e])), hfr.blk h.log (by simpa using n3.symm), ⟨ad, hF, hE⟩, ⟨a1, a2, a3, a4⟩, fun k hk => ?_, Nat.lt_of_lt_of_le h.pos hg.size⟩
  refine (hfr.cell (p := ⟨0, k, none⟩) h.pos ?_).trans (h.tb k hk)
  intro e
  simp at e
  have a := h.tb k hk
  unfold World.cell? at a
  rw [e] at a
  obtain ⟨Dm, ⟨es, clock, hh, _⟩, _⟩ := h1
  rw [hh] at a
  cases a
theorem putF_mem {F : List FileM} {f g : FileM} (h : g ∈ putF F f) : g = f ∨ (g ∈ F ∧ g.name ≠ f.name) := by
  unfold putF at h
  split at h
  · obtain ⟨a, ha, he⟩ := List.mem_map.1 h
    by_cases hn : a.name = f.name
    · rw [if_pos (by simpa using hn)] at he; exact .inl he.symm
    · rw [if_neg (by simpa using hn)] at he; subst he; exact .inr ⟨ha, hn⟩
  · rename_i hn
    rcases List.mem_append.1 h with h | h
    · exact .inr ⟨h, fileOf_none.1 (by simpa using hn) g h⟩
    · exact .inl (by simpa using h)
theorem Exts.put {w : World} {X : List Nat} {ad : AdM} {F : List FileM} {f : FileM} {A : Option Addr} {c : Nat} (h : Exts w X ad F) (h1 : Lies w A (ecells f.ext)) (h2 : Typed w A 90) (h3 : ∀ a, A = some a → a.block ∉ X) : Exts w X (setAd ad f.name (A, c)) (putF F f) := by
  intro g hg
  rcases putF_mem hg with rfl | ⟨hg, hn⟩
  · rw [setAd_same]; exact ⟨h1, h2, h3⟩
  · rw [setAd_other _ _ _ _ hn]; exact h g hg
set_option maxRecDepth 100000 in
set_option maxHeartbeats 4000000 in
theorem put_any' (X : List Nat) (S D Lg M : Nat) (m : StoM) (f : FileM) (A : Option Addr) (cap : Nat) (T : List Bool) (Al : Option Addr) (capl : Nat) (l : List Nat) (data : Bs) (w : World) (h : Sto w X S D Lg M m)
    (hA : Lies w A (ecells f.ext)) (hAT : Typed w A 90) (hAX : ∀ a, A = some a → a.block ∉ X) (hAl : Lies w Al (ncells l)) (hAlX : ∀ a, Al = some a → a.block ∉ X) (hl : ∀ i ∈ l, i < m.ds.L.length) (hln : l.length ≤ 100000) (hd : data.length ≤ 1099511627776)
    (hT : T.length = m.T.length) (hTb : T.length ≤ 4096) (hfe : f.entry < m.most) (hfn : f.name.length ≤ 80) (hfs : f.size ≤ 1099511627776) (hfx : f.ext.length ≤ 1000) (hfb : ∀ x ∈ f.ext, x.1 ≤ 1099511627776 ∧ x.2 ≤ 1099511627776) (hbody : (bodyB f.name f.size f.ext).length ≤ 508)
    (hF : m.F.length ≤ 1000) (hm : 1 ≤ m.most ∧ m.most ≤ 256) (hL : m.most + 7 ≤ m.ds.L.length) (hS : m.ds.S.length ≤ 700000) :
    Calls Tryz.prog 42 #[.pointer (some ⟨S, 0, none⟩), .string (mk f.name), .agg #[.int .i64 f.entry, .int .i64 f.size, .slice A f.ext.length cap], spv T, .slice Al l.length capl, .string (mk data)] w (PutP X S D Lg M m T l data f w) := by
  have hb0 := (below_alloc w (.cells #[.int .i64 f.entry, .int .i64 f.size, .slice A f.ext.length cap] 69)).alloc (by simp) (.cells #[.int .i64 T.length, .string (mk (packB T))] 76)
  have hst0 := h.below hb0
  have hB0 := (Blk.new w #[.int .i64 f.entry, .int .i64 f.size, .slice A f.ext.length cap] 69).alloc (.cells #[.int .i64 T.length, .string (mk (packB T))] 76)
  have hB1 := Blk.new (w.alloc (.cells #[.int .i64 f.entry, .int .i64 f.size, .slice A f.ext.length cap] 69)) #[.int .i64 T.length, .string (mk (packB T))] 76
  rw [World.size_alloc] at hB1
  have KL := lay_any X S D Lg M m Al capl l data _ hst0 (hAl.below (Nat.le_refl _) hb0) hAlX hl hln hd (by omega)
  have hA0 := hA.below (Nat.le_refl _) hb0
  have hAT0 := hAT.below hb0
  unfold PutP putC spv
  have hput : DS.run (layC l data ++ settleC m.most T [(f.entry, entryB f.name f.size f.ext)]) m.ds = if (DS.run (layC l data) m.ds).1 = 0 then DS.run (settleC m.most T [(f.entry, entryB f.name f.size f.ext)]) (DS.run (layC l data) m.ds).2 else DS.run (layC l data) m.ds := run_append _ _ _
  have hn1 := run_num (layC l data) m.ds
  have hl1 := run_len (layC l data) m.ds
  have hlc : (layC l data).length ≤ 100001 := by
    unfold layC
    split
    · simp
    · rw [List.length_append, wrs_length, layX_length]; simp; omega
  have hel : (entryB f.name f.size f.ext).length ≤ 512 := by unfold entryB; rw [full_length _ (by rw [List.length_append, sumB_length]; omega)]; omega
  have KE := fun (w1 : World) hA1 hT1 hw1 => entry_any f.name f.entry f.size A cap f.ext w1 hA1 hfs hfx hfb hbody hT1 hw1
  have KST := fun (X1 : List Nat) (Mc : Nat) (w1 : World) (h1 : Sto w1 X1 S D Lg M ⟨(DS.run (layC l data) m.ds).2, m.F, m.T, m.most, m.off⟩) (hC : CM w1 Mc [(f.entry, entryB f.name f.size f.ext)]) =>
    settle_any X1 S D Lg M Mc _ T [(f.entry, entryB f.name f.size f.ext)] w1 h1 hC hT hTb (by simp) (fun c hc => by
      have : c = (f.entry, entryB f.name f.size f.ext) := by simpa using hc
      subst this; exact ⟨hfe, hel⟩) hm (by simp only; rw [hl1.1]; exact hL) (by have := hl1.2; simp only; omega)
  unfold SetP spv at KST
  dsimp only at KST
  obtain ⟨R, hR⟩ : ∃ q, DS.run (layC l data ++ settleC m.most T [(f.entry, entryB f.name f.size f.ext)]) m.ds = q := ⟨_, rfl⟩
  rw [hR] at hput ⊢
  obtain ⟨r1, hr1⟩ : ∃ q, DS.run (layC l data) m.ds = q := ⟨_, rfl⟩
  rw [hr1] at hput hn1 KL
  simp only [hr1] at KST
  obtain ⟨n1, d1⟩ := r1
  dsimp only at hput hn1 KL KST
  have hn2 := run_num (settleC m.most T [(f.entry, entryB f.name f.size f.ext)]) d1
  obtain ⟨r2, hr2⟩ : ∃ q, DS.run (settleC m.most T [(f.entry, entryB f.name f.size f.ext)]) d1 = q := ⟨_, rfl⟩
  rw [hr2] at hput hn2
  simp only [hr2] at KST
  obtain ⟨n2, d2⟩ := r2
  dsimp only at hn2 KST
  have HSTF := Lib.hid (fun (w1 : World) (ad : AdM) (hf : FM w1 M ad m.F) => hf.store f A cap (by unfold maxLen; omega) (by unfold maxLen; omega))
  obtain ⟨EB, hEB⟩ : ∃ q, entryB f.name f.size f.ext = q := ⟨_, rfl⟩
  rw [hEB] at KE
  simp only [hEB] at KST
  obtain ⟨ES, hES⟩ : ∃ q, mk EB = q := ⟨_, rfl⟩
  simp only [hES] at KE
  have HES := Lib.hid hES
  obtain ⟨en, hen⟩ : ∃ q, f.entry = q := ⟨_, rfl⟩
  obtain ⟨sz, hsz⟩ : ∃ q, f.size = q := ⟨_, rfl⟩
  obtain ⟨xl, hxl⟩ : ∃ q, f.ext.length = q := ⟨_, rfl⟩
  obtain ⟨NM, hNM⟩ : ∃ q, mk f.name = q := ⟨_, rfl⟩
  obtain ⟨tl, htl⟩ : ∃ q, T.length = q := ⟨_, rfl⟩
  obtain ⟨PB, hPB⟩ : ∃ q, mk (packB T) = q := ⟨_, rfl⟩
  obtain ⟨ll, hll⟩ : ∃ q, l.length = q := ⟨_, rfl⟩
  obtain ⟨DT, hDT⟩ : ∃ q, mk data = q := ⟨_, rfl⟩
  rw [hen, hsz, hxl, hNM] at HSTF
  simp only [hen, hsz, hxl, hNM, htl, hPB, hll, hDT] at KL KE KST hB0 hB1 hst0 hA0 hAT0 hb0 ⊢
  rw [hen] at hfe
  have HSTO := Lib.hid hst0
  have HA := Lib.hid (And.intro hA0 (And.intro hAT0 hAX))
  have HB0 := Lib.hid hb0
  have HBX := Lib.hid (And.intro hB0 hB1)
  have HENB := Lib.hid (show en ≤ 1000000 by omega)
  have HSLT := Lib.hid (And.intro h.blk.lt h.dsk.lt)
  obtain ⟨H, hH⟩ : ∃ q, w.heap.size = q := ⟨_, rfl⟩
  rw [hH] at HBX HSLT
  have HH := Lib.hid hH
  have hHle : H ≤ w.heap.size := by omega
  have mixed : Tryz.prog.follows Departure.mixedOrders = true := by kernel_rfl
  clear h hA hAT hAX hAl hAlX hl hln hd hT hTb hfn hfs hfx hfb hbody hF hm hL hS hb0 hst0 hB0 hB1 hA0 hAT0 hl1 hlc hel hR hr1 hr2 hEB hES hen hsz hxl hNM htl hPB hll hDT hHle
  rcases hn1 with rfl | rfl
  case inr =>
    rw [if_neg (by decide)] at hput
    subst hput
    go_enter Tryz.func42, Tryz.ntmps42
    go_upto_region 2 with (go_at_call 80; refine KL.mono ?_; rintro e W1 ⟨rfl, X1, hD1, hM1⟩)
    have hst1 := HSTO.out.disk hD1 hM1
    have c6 := hst1.blk.cell 6
    have f6 := hst1.blk.frozen 6
    simp at c6
    have hSl := hst1.blk.lt
    have hg := grown_set W1 S 6 (.bool true)
    have hbS := hst1.blk.set 6 (.bool true)
    have hfin := hst1.own hg (T := m.T) (off := true) (by simpa using hbS)
    have hmv := ((((Mv.of_below X HB0.out).trans hM1).cons S).trans (Mv.of_grown hg (List.mem_cons_self ..))).cons2 M
    have HF := Lib.hid (And.intro hfin hmv)
    clear hst1 hD1 hM1 hg hbS hfin hmv KL
    go_wp2
    go_ret
    exact ⟨rfl, X1, HF.out.2, HF.out.1⟩
  rw [if_pos rfl] at hput
  subst hput
  go_enter Tryz.func42, Tryz.ntmps42
  go_upto_region 5 with (go_at_call 80; refine KL.mono ?_; rintro e W1 ⟨rfl, X1, hD1, hM1⟩)
  have hst1 := HSTO.out.disk hD1 hM1
  have hHX : H ∉ X := fun hx => by have := HSLT.out.2 _ hx; omega
  have hHX1 : H + 1 ∉ X := fun hx => by have := HSLT.out.2 _ hx; omega
  have hbx1 : Blk W1 H #[.int .i64 en, .int .i64 sz, .slice A xl cap] 69 ∧ Blk W1 (H + 1) #[.int .i64 tl, .string PB] 76 := ⟨hM1.blk HBX.out.1 hHX, hM1.blk HBX.out.2 hHX1⟩
  have hA1 := hM1.lies HA.out.1 HA.out.2.2
  have hAT1 := HA.out.2.1.frm hM1.frm HA.out.2.2
  have hAX1 : ∀ a, A = some a → a.block ∉ X1 := fun a ha => by
    obtain ⟨cs, fr, hc⟩ := HA.out.2.1 a ha
    exact hM1.apart (HA.out.2.2 a ha) (Array.getElem?_eq_some_iff.1 hc).1
  have HM1 := Lib.hid ((Mv.of_below X HB0.out).trans hM1)
  have HST1 := Lib.hid (And.intro hst1 (And.intro hA1 (And.intro hAT1 (And.intro hAX1 hbx1))))
  have HHX1 := Lib.hid (show H ∉ X1 ∧ H + 1 ∉ X1 from ⟨hM1.apart hHX HBX.out.1.lt, hM1.apart hHX1 HBX.out.2.lt⟩)
  have HHS := Lib.hid (show H ≠ S ∧ H + 1 ≠ S by have := HSLT.out.1; omega)
  clear hst1 hHX hHX1 hA1 hAT1 hAX1 hD1 hM1 KL
  refine wp_region_held (S := fun w' => Blk w' H #[.int .i64 en, .int .i64 sz, .slice A xl cap] 69 ∧ Blk w' (H + 1) #[.int .i64 tl, .string PB] 76) mixed ?_
  change wpAnyH _ _ _ _ _ _ _ _ W1.drew
  have hS1 : Blk W1.drew H #[.int .i64 en, .int .i64 sz, .slice A xl cap] 69 ∧ Blk W1.drew (H + 1) #[.int .i64 tl, .string PB] 76 := hbx1
  have hb1 : Below W1.heap.size W1 W1.drew := (Below.refl _ _).drew
  obtain ⟨W0, hW0⟩ : ∃ q, W1.drew = q := ⟨_, rfl⟩
  rw [hW0] at hS1 hb1 ⊢
  clear hW0 hbx1
  refine wpAnyH_take (i := 0) (v := .pointer (some ⟨S, 0, none⟩)) rfl (by kernel_rfl) (by kernel_rfl) (by kernel_rfl) (fun c a w h => h) (.inl ⟨by kernel_rfl, fun w' hS => ?_⟩) hS1 ?_
  · clear hS; go_simp
  try go_simp
  refine wpAnyH_take (i := 1) (v := .agg #[.int .i64 tl, .string PB]) rfl (by kernel_rfl) (by kernel_rfl) (by kernel_rfl) (fun c a w h => h) (.inl ⟨by kernel_rfl, fun w' hS => ?_⟩) hS1 ?_
  · have q0 := hS.2.cell 0; have q1 := hS.2.cell 1; simp at q0 q1; go_simp
  try go_simp
  refine wpAnyH_take (i := 3) (v := .pointer (some ⟨H, 0, none⟩)) rfl (by kernel_rfl) (by kernel_rfl) (by kernel_rfl) (fun c a w h => h) (.inl ⟨by kernel_rfl, fun w' hS => ?_⟩) hS1 ?_
  · clear hS; go_simp
  try go_simp
  refine wpAnyH_take (i := 4) (v := .int .i64 (en : Int)) rfl (by kernel_rfl) (by kernel_rfl) (by kernel_rfl) (fun c a w h => h) (.inl ⟨by kernel_rfl, fun w' hS => ?_⟩) hS1 ?_
  · have q0 := hS.1.cell 0; simp at q0; go_simp
  try go_simp
  refine wpAnyH_take (i := 5) (v := .string NM) rfl (by kernel_rfl) (by kernel_rfl) (by kernel_rfl) (fun c a w h => h) (.inl ⟨by kernel_rfl, fun w' hS => ?_⟩) hS1 ?_
  · clear hS; go_simp
  try go_simp
  refine wpAnyH_take (i := 6) (v := .agg #[.int .i64 en, .int .i64 sz, .slice A xl cap]) rfl (by kernel_rfl) (by kernel_rfl) (by kernel_rfl) (fun c a w h => h) (.inl ⟨by kernel_rfl, fun w' hS => ?_⟩) hS1 ?_
  · have q0 := hS.1.cell 0; have q1 := hS.1.cell 1; have q2 := hS.1.cell 2; simp at q0 q1 q2; go_simp
  try go_simp
  refine wpAnyH_all (rs := [2, 7]) (by kernel_rfl) (by simp) ?_
  intro i hi
  simp only [List.mem_cons, List.not_mem_nil, or_false] at hi
  rcases hi with rfl | rfl
  ·
    unfold wpOp
    have hmm := @run_makeMap Tryz.prog
    go_simp
    clear hmm
    have hS2 : Blk (W0.alloc (.map #[] 0)) H #[.int .i64 en, .int .i64 sz, .slice A xl cap] 69 ∧ Blk (W0.alloc (.map #[] 0)) (H + 1) #[.int .i64 tl, .string PB] 76 := ⟨hS1.1.alloc _, hS1.2.alloc _⟩
    have hb2 := hb1.alloc hb1.size (.map #[] 0)
    have hcm2 := CM.made W0
    have hMc : W1.heap.size ≤ W0.heap.size := hb1.size
    have hml := hcm2.lt
    obtain ⟨Mc, hMcE⟩ : ∃ q, W0.heap.size = q := ⟨_, rfl⟩
    rw [hMcE] at hcm2 hMc hml
    obtain ⟨W2, hW2⟩ : ∃ q, W0.alloc (.map #[] 0) = q := ⟨_, rfl⟩
    rw [hW2] at hS2 hb2 hcm2 hml ⊢
    try rw [hMcE]
    clear hW2 hMcE
    first | refine .inl ⟨hS2, ?_⟩ | refine ⟨hS2, ?_⟩
    refine wpAnyH_all (rs := [7]) (by kernel_rfl) (by simp) ?_
    intro i hi
    simp only [List.mem_cons, List.not_mem_nil, or_false] at hi
    subst hi
    unfold wpOp
    go_simp
    refine .inl ?_
    go_at_call 49
    refine (KE W2 (HST1.out.2.1.below (Nat.le_refl _) hb2) ((HST1.out.1.below hb2).tb) ((HST1.out.1.below hb2).pos)).mono ?_
    rintro e W3 ⟨rfl, hbe⟩
    have hS3 : Blk W3 H #[.int .i64 en, .int .i64 sz, .slice A xl cap] 69 ∧ Blk W3 (H + 1) #[.int .i64 tl, .string PB] 76 := ⟨hS2.1.below hbe, hS2.2.below hbe⟩
    have hb3 := hb2.trans (hbe.mono hb2.size)
    have hcm3 := hcm2.block (hbe.block Mc hml)
    refine ⟨hS3, ?_⟩
    clear hS2 hb2 hcm2 hml hbe hS1 hb1
    have hbel4 := fun (W4 : World) (hg4 : W3.grownBy W4 (some Mc)) => hb3.grown hg4 hb3.size (fun g e => by cases e; exact hMc)
    obtain ⟨W4, hrun4, hcm4, hg4⟩ := hcm3.one en EB HENB.out
    rw [HES.out] at hrun4
    have hb4 := hbel4 W4 hg4
    have HW4 := Lib.hid (And.intro hrun4 (And.intro hcm4 (And.intro (HST1.out.1.below hb4) (And.intro (show Blk W4 H #[.int .i64 en, .int .i64 sz, .slice A xl cap] 69 ∧ Blk W4 (H + 1) #[.int .i64 tl, .string PB] 76 from ⟨HST1.out.2.2.2.2.1.below hb4, HST1.out.2.2.2.2.2.below hb4⟩) (And.intro (HST1.out.2.1.below (Nat.le_refl _) hb4) (HST1.out.2.2.1.below hb4))))))
    have HX5 := Lib.hid (show H ∉ S :: X1 ∧ H + 1 ∉ S :: X1 from ⟨fun hx => by rcases List.mem_cons.1 hx with e | e; exact HHS.out.1 e; exact HHX1.out.1 e, fun hx => by rcases List.mem_cons.1 hx with e | e; exact HHS.out.2 e; exact HHX1.out.2 e⟩)
    have HX5A := Lib.hid (show ∀ a, A = some a → a.block ∉ S :: X1 from fun a ha hx => by
      rcases List.mem_cons.1 hx with e | e
      · obtain ⟨cs, fr, hc⟩ := HST1.out.2.2.1 a ha
        have hb := HST1.out.1.blk
        unfold Blk at hb
        rw [e, hb] at hc
        simp at hc
      · exact HST1.out.2.2.2.1 a ha e)
    have HMV4 := Lib.hid ((HM1.out.below hb4).cons S)
    clear hrun4 hcm4 hg4 hb4 hbel4 hcm3 hMc hb3
    refine wpAnyH_all (rs := [8]) (by kernel_rfl) (by simp) ?_
    intro i hi
    simp only [List.mem_cons, List.not_mem_nil, or_false] at hi
    subst hi
    refine wpOp_insert rfl rfl 102 (.tmp 27) (.tmp 29) (.tmp 32) rfl _ _ _ (by rfl) (by rfl) (by rfl) HW4.out.1 ?_
    refine ⟨HW4.out.2.2.2.1, ?_⟩
    refine wpAnyH_take (i := 9) (v := .map (some Mc)) rfl (by kernel_rfl) (by kernel_rfl) (by kernel_rfl) (fun c a w h => h) (.inl ⟨by kernel_rfl, fun w' hS => ?_⟩) HW4.out.2.2.2.1 ?_
    · clear hS; go_simp
    try go_simp
    refine wpAnyH_all (rs := [10]) (by kernel_rfl) (by simp) ?_
    intro i hi
    simp only [List.mem_cons, List.not_mem_nil, or_false] at hi
    subst hi
    unfold wpOp
    go_simp
    refine .inl ?_
    go_at_call 50
    refine (KST X1 Mc W4 HW4.out.2.2.1 HW4.out.2.1).mono ?_
    rintro e W5 ⟨rfl, X2, hM5, hS0, hS7⟩
    have hBX5 : Blk W5 H #[.int .i64 en, .int .i64 sz, .slice A xl cap] 69 ∧ Blk W5 (H + 1) #[.int .i64 tl, .string PB] 76 := ⟨hM5.blk HW4.out.2.2.2.1.1 HX5.out.1, hM5.blk HW4.out.2.2.2.1.2 HX5.out.2⟩
    refine ⟨hBX5, ?_⟩
    rcases hn2 with rfl | rfl
    case inr =>
      refine wpAnyH_take (i := 11) (v := .int .i64 7) rfl (by kernel_rfl) (by kernel_rfl) (by kernel_rfl) (fun c a w h => h) (.inl ⟨by kernel_rfl, fun w' hS => ?_⟩) hBX5 ?_
      · clear hS; go_simp
      try go_simp
      refine wpAnyH_done (by kernel_rfl) ?_ _
      have HF := Lib.hid (And.intro (hS7 (by decide)) ((HMV4.out.trans hM5).cons2 M))
      clear hBX5 hM5 hS0 hS7 KST KE
      go_wp2
      go_ret
      exact ⟨rfl, X2, HF.out.2, by first | exact HF.out.1 | exact ⟨(fun h => by cases h), fun _ => HF.out.1⟩ | exact ⟨fun _ => HF.out.1, fun h => absurd rfl h⟩⟩
    refine wpAnyH_take (i := 11) (v := .int .i64 0) rfl (by kernel_rfl) (by kernel_rfl) (by kernel_rfl) (fun c a w h => h) (.inl ⟨by kernel_rfl, fun w' hS => ?_⟩) hBX5 ?_
    · clear hS; go_simp
    try go_simp
    refine wpAnyH_done (by kernel_rfl) ?_ _
    have hst5 := hS0 rfl
    have hA5 := hM5.lies HW4.out.2.2.2.2.1 HX5A.out
    have hAT5 := HW4.out.2.2.2.2.2.frm hM5.frm HX5A.out
    have hAX5 : ∀ a, A = some a → a.block ∉ X2 := fun a ha hx => by
      obtain ⟨cs, fr, hc⟩ := HW4.out.2.2.2.2.2 a ha
      exact hM5.apart (HX5A.out a ha) (Array.getElem?_eq_some_iff.1 hc).1 (List.mem_cons_of_mem _ hx)
    obtain ⟨ad, hFM, hEX⟩ := hst5.map
    have hFM' : FM W5.drew M ad m.F := hFM
    obtain ⟨W6, hrun6, hFM6, hg6'⟩ := HSTF.out W5.drew ad hFM'
    have hg6 : W5.grownBy W6 (some M) := ⟨hg6'.os, hg6'.tape, hg6'.output, hg6'.size, hg6'.block⟩
    have HRUN6D := Lib.hid hrun6
    have hS9 : W6.cell? ⟨S, 4, none⟩ = some (.map (some M)) ∧ Blk W6 H #[.int .i64 en, .int .i64 sz, .slice A xl cap] 69 := by
      have x4 := hst5.blk.cell 4
      simp at x4
      exact ⟨(World.cell?_of_block (a := ⟨S, 4, none⟩) (hg6.block S hst5.blk.lt (fun e => hst5.ne.2.1 (by cases e; rfl)))).trans x4, hBX5.1.grown hg6 (fun e => (hFM.not_cells hBX5.1) (by cases e; rfl))⟩
    have hne6 : ∀ g, some M = some g → ∀ c fr, W5.heap[g]? ≠ some (.cells c 90 fr) := fun g e c fr hc => by cases e; exact (hFM.not_cells hc) rfl
    have hE6 := (hEX.grown hg6 hne6).put (f := f) (c := cap) (fun h0 => by
      obtain ⟨g, o, e, hl, hc⟩ := hA5 h0
      obtain ⟨cs, fr, hh⟩ := hAT5 _ e
      have := hg6.block g hl (fun e2 => hne6 g e2.symm cs fr hh)
      exact ⟨g, o, e, Nat.lt_of_lt_of_le hl hg6.size, fun j u hu => (World.cell?_of_block (a := ⟨g, o + j, none⟩) this).trans (hc j u hu)⟩) (fun a ha => by
      obtain ⟨cs, fr, hh⟩ := hAT5 a ha
      exact ⟨cs, fr, (hg6.block _ (Array.getElem?_eq_some_iff.1 hh).1 (fun e2 => hne6 _ e2.symm cs fr hh)).trans hh⟩) hAX5
    have hst6 := hst5.store hg6 hFM6 hE6
    have HF := Lib.hid (And.intro hst6 (((HMV4.out.trans hM5).cons2 M).trans (Mv.of_grown hg6 (by simp))))
    have x4 := hst5.blk.cell 4
    simp at x4
    have HX4 := Lib.hid x4
    have HBX5 := Lib.hid hBX5.1
    clear hM5 hS0 hS7 hst5 hA5 hAT5 hAX5 hFM hEX hFM6 hg6 hg6' hFM' hne6 hE6 hst6 hrun6 hBX5 x4 KST KE
    go_upto_region 8 with (fail)
    refine wp_region_held (S := fun w' => w'.cell? ⟨S, 4, none⟩ = some (.map (some M)) ∧ Blk w' H #[.int .i64 en, .int .i64 sz, .slice A xl cap] 69) mixed ?_
    change wpAnyH _ _ _ _ _ _ _ _ W5.drew
    have hS8 : W5.drew.cell? ⟨S, 4, none⟩ = some (.map (some M)) ∧ Blk W5.drew H #[.int .i64 en, .int .i64 sz, .slice A xl cap] 69 := ⟨HX4.out, HBX5.out⟩
    refine wpAnyH_take (i := 0) (v := .pointer (some ⟨S, 0, none⟩)) rfl (by kernel_rfl) (by kernel_rfl) (by kernel_rfl) (fun c a w h => h) (.inl ⟨by kernel_rfl, fun w' hS => ?_⟩) hS8 ?_
    · clear hS; go_simp
    try go_simp
    refine wpAnyH_take (i := 1) (v := .pointer (some ⟨S, 0, none⟩)) rfl (by kernel_rfl) (by kernel_rfl) (by kernel_rfl) (fun c a w h => h) (.inl ⟨by kernel_rfl, fun w' hS => ?_⟩) hS8 ?_
    · clear hS; go_simp
    try go_simp
    refine wpAnyH_take (i := 2) (v := .pointer (some ⟨S, 4, none⟩)) rfl (by kernel_rfl) (by kernel_rfl) (by kernel_rfl) (fun c a w h => h) (.inl ⟨by kernel_rfl, fun w' hS => ?_⟩) hS8 ?_
    · clear hS; go_simp
    try go_simp
    refine wpAnyH_take (i := 3) (v := .map (some M)) rfl (by kernel_rfl) (by kernel_rfl) (by kernel_rfl) (fun c a w h => h) (.inl ⟨by kernel_rfl, fun w' hS => ?_⟩) hS8 ?_
    · have q0 := hS.1; go_simp
    try go_simp
    refine wpAnyH_take (i := 4) (v := .string NM) rfl (by kernel_rfl) (by kernel_rfl) (by kernel_rfl) (fun c a w h => h) (.inl ⟨by kernel_rfl, fun w' hS => ?_⟩) hS8 ?_
    · clear hS; go_simp
    try go_simp
    refine wpAnyH_take (i := 5) (v := .agg #[.int .i64 en, .int .i64 sz, .slice A xl cap]) rfl (by kernel_rfl) (by kernel_rfl) (by kernel_rfl) (fun c a w h => h) (.inl ⟨by kernel_rfl, fun w' hS => ?_⟩) hS8 ?_
    · have q0 := hS.2.cell 0; have q1 := hS.2.cell 1; have q2 := hS.2.cell 2; simp at q0 q1 q2; go_simp
    try go_simp
    refine wpAnyH_all (rs := [6]) (by kernel_rfl) (by simp) ?_
    intro i hi
    simp only [List.mem_cons, List.not_mem_nil, or_false] at hi
    subst hi
    refine wpOp_mapUpdate rfl rfl 77 (.tmp 41) (.tmp 42) (.tmp 43) rfl _ _ _ (by rfl) (by rfl) (by rfl) HRUN6D.out ?_
    refine ⟨hS9, ?_⟩
    refine wpAnyH_done (by kernel_rfl) ?_ _
    clear hS8 hS9
    go_wp2
    go_ret
    exact ⟨rfl, X2, HF.out.2, by first | exact HF.out.1 | exact ⟨(fun h => by cases h), fun _ => HF.out.1⟩ | exact ⟨fun _ => HF.out.1, fun h => absurd rfl h⟩⟩

  ·
    unfold wpOp
    go_simp
    refine .inl ?_
    go_at_call 49
    refine (KE W0 (HST1.out.2.1.below (Nat.le_refl _) hb1) ((HST1.out.1.below hb1).tb) ((HST1.out.1.below hb1).pos)).mono ?_
    rintro e W2 ⟨rfl, hbe⟩
    have hS2 : Blk W2 H #[.int .i64 en, .int .i64 sz, .slice A xl cap] 69 ∧ Blk W2 (H + 1) #[.int .i64 tl, .string PB] 76 := ⟨hS1.1.below hbe, hS1.2.below hbe⟩
    have hb2 := hb1.trans (hbe.mono hb1.size)
    refine ⟨hS2, ?_⟩
    refine wpAnyH_all (rs := [2]) (by kernel_rfl) (by simp) ?_
    intro i hi
    simp only [List.mem_cons, List.not_mem_nil, or_false] at hi
    subst hi
    unfold wpOp
    have hmm := @run_makeMap Tryz.prog
    go_simp
    clear hmm
    have hS3 : Blk (W2.alloc (.map #[] 0)) H #[.int .i64 en, .int .i64 sz, .slice A xl cap] 69 ∧ Blk (W2.alloc (.map #[] 0)) (H + 1) #[.int .i64 tl, .string PB] 76 := ⟨hS2.1.alloc _, hS2.2.alloc _⟩
    have hb3 := hb2.alloc hb2.size (.map #[] 0)
    have hcm3 := CM.made W2
    have hMc : W1.heap.size ≤ W2.heap.size := hb2.size
    obtain ⟨Mc, hMcE⟩ : ∃ q, W2.heap.size = q := ⟨_, rfl⟩
    rw [hMcE] at hcm3 hMc
    obtain ⟨W3, hW3⟩ : ∃ q, W2.alloc (.map #[] 0) = q := ⟨_, rfl⟩
    rw [hW3] at hS3 hb3 hcm3 ⊢
    try rw [hMcE]
    clear hW3 hMcE
    first | refine .inl ⟨hS3, ?_⟩ | refine ⟨hS3, ?_⟩
    clear hS2 hb2 hbe hS1 hb1
    have hbel4 := fun (W4 : World) (hg4 : W3.grownBy W4 (some Mc)) => hb3.grown hg4 hb3.size (fun g e => by cases e; exact hMc)
    obtain ⟨W4, hrun4, hcm4, hg4⟩ := hcm3.one en EB HENB.out
    rw [HES.out] at hrun4
    have hb4 := hbel4 W4 hg4
    have HW4 := Lib.hid (And.intro hrun4 (And.intro hcm4 (And.intro (HST1.out.1.below hb4) (And.intro (show Blk W4 H #[.int .i64 en, .int .i64 sz, .slice A xl cap] 69 ∧ Blk W4 (H + 1) #[.int .i64 tl, .string PB] 76 from ⟨HST1.out.2.2.2.2.1.below hb4, HST1.out.2.2.2.2.2.below hb4⟩) (And.intro (HST1.out.2.1.below (Nat.le_refl _) hb4) (HST1.out.2.2.1.below hb4))))))
    have HX5 := Lib.hid (show H ∉ S :: X1 ∧ H + 1 ∉ S :: X1 from ⟨fun hx => by rcases List.mem_cons.1 hx with e | e; exact HHS.out.1 e; exact HHX1.out.1 e, fun hx => by rcases List.mem_cons.1 hx with e | e; exact HHS.out.2 e; exact HHX1.out.2 e⟩)
    have HX5A := Lib.hid (show ∀ a, A = some a → a.block ∉ S :: X1 from fun a ha hx => by
      rcases List.mem_cons.1 hx with e | e
      · obtain ⟨cs, fr, hc⟩ := HST1.out.2.2.1 a ha
        have hb := HST1.out.1.blk
        unfold Blk at hb
        rw [e, hb] at hc
        simp at hc
      · exact HST1.out.2.2.2.1 a ha e)
    have HMV4 := Lib.hid ((HM1.out.below hb4).cons S)
    clear hrun4 hcm4 hg4 hb4 hbel4 hcm3 hMc hb3
    refine wpAnyH_all (rs := [8]) (by kernel_rfl) (by simp) ?_
    intro i hi
    simp only [List.mem_cons, List.not_mem_nil, or_false] at hi
    subst hi
    refine wpOp_insert rfl rfl 102 (.tmp 27) (.tmp 29) (.tmp 32) rfl _ _ _ (by rfl) (by rfl) (by rfl) HW4.out.1 ?_
    refine ⟨HW4.out.2.2.2.1, ?_⟩
    refine wpAnyH_take (i := 9) (v := .map (some Mc)) rfl (by kernel_rfl) (by kernel_rfl) (by kernel_rfl) (fun c a w h => h) (.inl ⟨by kernel_rfl, fun w' hS => ?_⟩) HW4.out.2.2.2.1 ?_
    · clear hS; go_simp
    try go_simp
    refine wpAnyH_all (rs := [10]) (by kernel_rfl) (by simp) ?_
    intro i hi
    simp only [List.mem_cons, List.not_mem_nil, or_false] at hi
    subst hi
    unfold wpOp
    go_simp
    refine .inl ?_
    go_at_call 50
    refine (KST X1 Mc W4 HW4.out.2.2.1 HW4.out.2.1).mono ?_
    rintro e W5 ⟨rfl, X2, hM5, hS0, hS7⟩
    have hBX5 : Blk W5 H #[.int .i64 en, .int .i64 sz, .slice A xl cap] 69 ∧ Blk W5 (H + 1) #[.int .i64 tl, .string PB] 76 := ⟨hM5.blk HW4.out.2.2.2.1.1 HX5.out.1, hM5.blk HW4.out.2.2.2.1.2 HX5.out.2⟩
    refine ⟨hBX5, ?_⟩
    rcases hn2 with rfl | rfl
    case inr =>
      refine wpAnyH_take (i := 11) (v := .int .i64 7) rfl (by kernel_rfl) (by kernel_rfl) (by kernel_rfl) (fun c a w h => h) (.inl ⟨by kernel_rfl, fun w' hS => ?_⟩) hBX5 ?_
      · clear hS; go_simp
      try go_simp
      refine wpAnyH_done (by kernel_rfl) ?_ _
      have HF := Lib.hid (And.intro (hS7 (by decide)) ((HMV4.out.trans hM5).cons2 M))
      clear hBX5 hM5 hS0 hS7 KST KE
      go_wp2
      go_ret
      exact ⟨rfl, X2, HF.out.2, by first | exact HF.out.1 | exact ⟨(fun h => by cases h), fun _ => HF.out.1⟩ | exact ⟨fun _ => HF.out.1, fun h => absurd rfl h⟩⟩
    refine wpAnyH_take (i := 11) (v := .int .i64 0) rfl (by kernel_rfl) (by kernel_rfl) (by kernel_rfl) (fun c a w h => h) (.inl ⟨by kernel_rfl, fun w' hS => ?_⟩) hBX5 ?_
    · clear hS; go_simp
    try go_simp
    refine wpAnyH_done (by kernel_rfl) ?_ _
    have hst5 := hS0 rfl
    have hA5 := hM5.lies HW4.out.2.2.2.2.1 HX5A.out
    have hAT5 := HW4.out.2.2.2.2.2.frm hM5.frm HX5A.out
    have hAX5 : ∀ a, A = some a → a.block ∉ X2 := fun a ha hx => by
      obtain ⟨cs, fr, hc⟩ := HW4.out.2.2.2.2.2 a ha
      exact hM5.apart (HX5A.out a ha) (Array.getElem?_eq_some_iff.1 hc).1 (List.mem_cons_of_mem _ hx)
    obtain ⟨ad, hFM, hEX⟩ := hst5.map
    have hFM' : FM W5.drew M ad m.F := hFM
    obtain ⟨W6, hrun6, hFM6, hg6'⟩ := HSTF.out W5.drew ad hFM'
    have hg6 : W5.grownBy W6 (some M) := ⟨hg6'.os, hg6'.tape, hg6'.output, hg6'.size, hg6'.block⟩
    have HRUN6D := Lib.hid hrun6
    have hS9 : W6.cell? ⟨S, 4, none⟩ = some (.map (some M)) ∧ Blk W6 H #[.int .i64 en, .int .i64 sz, .slice A xl cap] 69 := by
      have x4 := hst5.blk.cell 4
      simp at x4
      exact ⟨(World.cell?_of_block (a := ⟨S, 4, none⟩) (hg6.block S hst5.blk.lt (fun e => hst5.ne.2.1 (by cases e; rfl)))).trans x4, hBX5.1.grown hg6 (fun e => (hFM.not_cells hBX5.1) (by cases e; rfl))⟩
    have hne6 : ∀ g, some M = some g → ∀ c fr, W5.heap[g]? ≠ some (.cells c 90 fr) := fun g e c fr hc => by cases e; exact (hFM.not_cells hc) rfl
    have hE6 := (hEX.grown hg6 hne6).put (f := f) (c := cap) (fun h0 => by
      obtain ⟨g, o, e, hl, hc⟩ := hA5 h0
      obtain ⟨cs, fr, hh⟩ := hAT5 _ e
      have := hg6.block g hl (fun e2 => hne6 g e2.symm cs fr hh)
      exact ⟨g, o, e, Nat.lt_of_lt_of_le hl hg6.size, fun j u hu => (World.cell?_of_block (a := ⟨g, o + j, none⟩) this).trans (hc j u hu)⟩) (fun a ha => by
      obtain ⟨cs, fr, hh⟩ := hAT5 a ha
      exact ⟨cs, fr, (hg6.block _ (Array.getElem?_eq_some_iff.1 hh).1 (fun e2 => hne6 _ e2.symm cs fr hh)).trans hh⟩) hAX5
    have hst6 := hst5.store hg6 hFM6 hE6
    have HF := Lib.hid (And.intro hst6 (((HMV4.out.trans hM5).cons2 M).trans (Mv.of_grown hg6 (by simp))))
    have x4 := hst5.blk.cell 4
    simp at x4
    have HX4 := Lib.hid x4
    have HBX5 := Lib.hid hBX5.1
    clear hM5 hS0 hS7 hst5 hA5 hAT5 hAX5 hFM hEX hFM6 hg6 hg6' hFM' hne6 hE6 hst6 hrun6 hBX5 x4 KST KE
    go_upto_region 8 with (fail)
    refine wp_region_held (S := fun w' => w'.cell? ⟨S, 4, none⟩ = some (.map (some M)) ∧ Blk w' H #[.int .i64 en, .int .i64 sz, .slice A xl cap] 69) mixed ?_
    change wpAnyH _ _ _ _ _ _ _ _ W5.drew
    have hS8 : W5.drew.cell? ⟨S, 4, none⟩ = some (.map (some M)) ∧ Blk W5.drew H #[.int .i64 en, .int .i64 sz, .slice A xl cap] 69 := ⟨HX4.out, HBX5.out⟩
    refine wpAnyH_take (i := 0) (v := .pointer (some ⟨S, 0, none⟩)) rfl (by kernel_rfl) (by kernel_rfl) (by kernel_rfl) (fun c a w h => h) (.inl ⟨by kernel_rfl, fun w' hS => ?_⟩) hS8 ?_
    · clear hS; go_simp
    try go_simp
    refine wpAnyH_take (i := 1) (v := .pointer (some ⟨S, 0, none⟩)) rfl (by kernel_rfl) (by kernel_rfl) (by kernel_rfl) (fun c a w h => h) (.inl ⟨by kernel_rfl, fun w' hS => ?_⟩) hS8 ?_
    · clear hS; go_simp
    try go_simp
    refine wpAnyH_take (i := 2) (v := .pointer (some ⟨S, 4, none⟩)) rfl (by kernel_rfl) (by kernel_rfl) (by kernel_rfl) (fun c a w h => h) (.inl ⟨by kernel_rfl, fun w' hS => ?_⟩) hS8 ?_
    · clear hS; go_simp
    try go_simp
    refine wpAnyH_take (i := 3) (v := .map (some M)) rfl (by kernel_rfl) (by kernel_rfl) (by kernel_rfl) (fun c a w h => h) (.inl ⟨by kernel_rfl, fun w' hS => ?_⟩) hS8 ?_
    · have q0 := hS.1; go_simp
    try go_simp
    refine wpAnyH_take (i := 4) (v := .string NM) rfl (by kernel_rfl) (by kernel_rfl) (by kernel_rfl) (fun c a w h => h) (.inl ⟨by kernel_rfl, fun w' hS => ?_⟩) hS8 ?_
    · clear hS; go_simp
    try go_simp
    refine wpAnyH_take (i := 5) (v := .agg #[.int .i64 en, .int .i64 sz, .slice A xl cap]) rfl (by kernel_rfl) (by kernel_rfl) (by kernel_rfl) (fun c a w h => h) (.inl ⟨by kernel_rfl, fun w' hS => ?_⟩) hS8 ?_
    · have q0 := hS.2.cell 0; have q1 := hS.2.cell 1; have q2 := hS.2.cell 2; simp at q0 q1 q2; go_simp
    try go_simp
    refine wpAnyH_all (rs := [6]) (by kernel_rfl) (by simp) ?_
    intro i hi
    simp only [List.mem_cons, List.not_mem_nil, or_false] at hi
    subst hi
    refine wpOp_mapUpdate rfl rfl 77 (.tmp 41) (.tmp 42) (.tmp 43) rfl _ _ _ (by rfl) (by rfl) (by rfl) HRUN6D.out ?_
    refine ⟨hS9, ?_⟩
    refine wpAnyH_done (by kernel_rfl) ?_ _
    clear hS8 hS9
    go_wp2
    go_ret
    exact ⟨rfl, X2, HF.out.2, by first | exact HF.out.1 | exact ⟨(fun h => by cases h), fun _ => HF.out.1⟩ | exact ⟨fun _ => HF.out.1, fun h => absurd rfl h⟩⟩

end Go.Proofs.YtcmcdddnckcpcaaGreatDoor
