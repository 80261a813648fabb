/- Packed: Wm, Ws, Wk, Wd, Wo, Wc, Ik, Gf, Sb, Sp, Bf, St, En, Fm, Sg. -/
import Derived.Test.YtcmcdddnckcpcaaGreatDoorPF1
import Derived.Shelf.SlIter.Nil
import Derived.Shelf.SlIterI.Nil
import Derived.Shelf.SortM.Plain
import Derived.Shelf.SortM.SortNone
import Derived.Ground.GgzProg
import Derived.Ground.SlgmProg
import Derived.Test.YtcmcdddnckcpcaaGreatDoorProg
import Derived.Lib.OthersKept
import Derived.Laws.RangeAny
import Derived.Laws.ResultCell
import Derived.WalkSpells
import Derived.WalkLawsBesides
import Derived.Laws.IdiomStrings
import Derived.Maps.Own
import Derived.Maps.OwnSet
import Derived.Maps.Views
import Derived.StringKeys
namespace Go.Proofs.YtcmcdddnckcpcaaGreatDoor
open Go.RowKit
def WLog (w : World) (b D f s : Nat) : Prop := Blk w b #[.pointer (some ⟨D,0,none⟩), .int .i64 f, .int .i64 s] 165
def ownB (f s i : Nat) : Bool := decide (f ≤ i ∧ i < f + s)
def mayB (n f s i : Nat) : Bool := decide (i < n) && !ownB f s i
set_option maxHeartbeats 1000000 in
theorem own_any (b D f s i : Nat) (w : World) (h : WLog w b D f s) (hf : f ≤ 1000000) (hs : s ≤ 1000000) :
  Calls Tryz.prog 134 #[.pointer (some ⟨b,0,none⟩), .int .i64 i] w fun e w' => e = .returned (.bool (ownB f s i)) ∧ ∃ n,w' = w.drewN n := by
 have x1 := Blk.cell h 1
 have x2 := Blk.cell h 2
 simp at x1 x2
 have f0 : (0 : Int) ≤ (f : Int) := by omega
 have f1 : (f : Int) ≤ 1000000 := by omega
 have s0 : (0 : Int) ≤ (s : Int) := by omega
 have s1 : (s : Int) ≤ 1000000 := by omega
 have hwr : IntKind.i64.wrap ((f : Int) + (s : Int)) = (f : Int) + (s : Int) := by rw [Go.IntWalk.i64_left,Go.IntWalk.wrap64_in _ (by omega)]
 by_cases h1 : f ≤ i
 ·have h1' : decide ((f : Int) ≤ (i : Int)) = true := by simpa using h1
  have h1n : decide (f ≤ i) = true := by simpa using h1
  by_cases h2 : i < f + s
  ·have h2' : decide ((i : Int) < (f : Int) + (s : Int)) = true := by simp;omega
   have HO := Lib.hid (show ownB f s i = true by unfold ownB;simp [h1,h2])
   clear h hf hs
   go_enter Tryz.func134,Tryz.ntmps134
   go_upto_region 1 with (fail)
   go_quiet (fail)
   go_wp2
   go_ret
   exact ⟨by rw [HO.out];rfl,_,rfl⟩
  ·have h2' : decide ((i : Int) < (f : Int) + (s : Int)) = false := by simp;omega
   have HO := Lib.hid (show ownB f s i = false by unfold ownB;simp [h2])
   clear h hf hs
   go_enter Tryz.func134,Tryz.ntmps134
   go_upto_region 1 with (fail)
   go_quiet (fail)
   go_wp2
   go_ret
   exact ⟨by rw [HO.out];rfl,_,rfl⟩
 ·have h1' : decide ((f : Int) ≤ (i : Int)) = false := by simpa using h1
  have h1n : decide (f ≤ i) = false := by simpa using h1
  have HO := Lib.hid (show ownB f s i = false by unfold ownB;simp [h1])
  clear h hf hs
  go_enter Tryz.func134,Tryz.ntmps134
  go_upto_region 1 with (fail)
  go_quiet (fail)
  go_wp2
  go_ret
  exact ⟨by rw [HO.out];rfl,_,rfl⟩
set_option maxHeartbeats 1000000 in
theorem may_any (X : List Nat) (D : Nat) (ds : DS) (b f s i : Nat) (w : World) (hD : Dsk w X D ds) (h : WLog w b D f s) (hf : f ≤ 1000000) (hs : s ≤ 1000000) :
  Calls Tryz.prog 116 #[.pointer (some ⟨b,0,none⟩), .int .i64 i] w fun e w' => e = .returned (.bool (mayB ds.L.length f s i)) ∧ ∃ n,w' = w.drewN n := by
 have KO := own_any b D f s i w h hf hs
 have KZ := size_any X D ds w hD
 have x0 := Blk.cell h 0
 simp at x0
 unfold mayB
 obtain ⟨n,hn⟩ : ∃ n,ds.L.length = n := ⟨_,rfl⟩
 obtain ⟨o,ho⟩ : ∃ n,ownB f s i = n := ⟨_,rfl⟩
 rw [hn] at KZ ⊢
 rw [ho] at KO ⊢
 have i0 : (0 : Int) ≤ (i : Int) := by omega
 by_cases h1 : i < n
 ·have h1' : (i : Int) < (n : Int) := by omega
  have h1n : decide (i < n) = true := by simpa using h1
  rw [h1n,Bool.true_and]
  clear hD h hf hs hn ho h1n
  go_enter Tryz.func116,Tryz.ntmps116
  go_wp2_with (first
   | (go_at_call 53;refine KZ.mono ?_;rintro e w1 ⟨rfl,hw⟩;obtain rfl := hw.symm)
   | (go_at_call 134;refine KO.mono ?_;rintro e w1 ⟨rfl,q,rfl⟩))
  go_ret
  exact ⟨rfl,_,rfl⟩
 ·have h1' : ¬ ((i : Int) < (n : Int)) := by omega
  have h1n : decide (i < n) = false := by simpa using h1
  rw [h1n,Bool.false_and]
  clear hD h hf hs hn ho h1n
  go_enter Tryz.func116,Tryz.ntmps116
  go_wp2_with (go_at_call 53;refine KZ.mono ?_;rintro e w1 ⟨rfl,hw⟩;obtain rfl := hw.symm)
  go_ret
  exact ⟨rfl,0,rfl⟩
theorem most_any (b D f s : Nat) (w : World) (h : WLog w b D f s) (hs : 1 ≤ s ∧ s ≤ 1000000) :
  Calls Tryz.prog 115 #[.pointer (some ⟨b,0,none⟩)] w fun e w' => e = .returned (.int .i64 ((s - 1 : Nat) : Int)) ∧ w' = w := by
 have x2 := Blk.cell h 2
 simp at x2
 have s0 : (1 : Int) ≤ (s : Int) := by omega
 have s1 : (s : Int) ≤ 1000000 := by omega
 rw [show ((s - 1 : Nat) : Int) = (s : Int) - 1 by omega]
 clear h hs
 go_enter Tryz.func115,Tryz.ntmps115
 go_wp2
 go_ret
 exact ⟨rfl,rfl⟩
inductive Cmd where
 | wr (i : Nat) (b : Bs)
 | sy
def DS.cmd (d : DS) : Cmd → Nat × DS
 | .wr i b => d.write i b
 | .sy => d.sync
def DS.run : List Cmd → DS → Nat × DS
 | [],d => (0,d)
 | c :: l,d => if (d.cmd c).1 = 0 then DS.run l (d.cmd c).2 else d.cmd c
theorem run_append (a b : List Cmd) : ∀ d,DS.run (a ++ b) d = if (DS.run a d).1 = 0 then DS.run b (DS.run a d).2 else DS.run a d := by
 induction a with
 | nil => intro d;simp [DS.run]
 | cons c l ih =>
  intro d
  rw [List.cons_append,DS.run,DS.run]
  split
  ·rw [ih]
  ·rfl
theorem run_one (c : Cmd) (d : DS) : DS.run [c] d = d.cmd c := by
 unfold DS.run
 split
 ·rename_i h;rw [DS.run];exact Prod.ext h.symm rfl
 ·rfl
theorem run_snoc (a : List Cmd) (c : Cmd) (d : DS) (h : (DS.run a d).1 = 0) : DS.run (a ++ [c]) d = (DS.run a d).2.cmd c := by rw [run_append,if_pos h,run_one]
theorem run_stop (a b : List Cmd) (d : DS) (h : (DS.run a d).1 ≠ 0) : DS.run (a ++ b) d = DS.run a d := by rw [run_append,if_neg h]
theorem write_len (d : DS) (i : Nat) (b : Bs) : (d.write i b).2.L.length = d.L.length ∧ (d.write i b).2.S.length ≤ d.S.length + 1 := by
 unfold DS.write
 split
 ·rename_i h
  exact ⟨step_len d,by simp only [List.length_append,(step_S d h).1];simp⟩
 ·refine ⟨step_len d, ?_⟩
  rename_i h
  unfold DS.step
  split
  ·simp
  ·split
   ·simp
   ·split
    ·simp [DS.fail]
    ·simp
theorem sync_len (d : DS) : d.sync.2.L.length = d.L.length ∧ d.sync.2.S.length ≤ d.S.length := by
 unfold DS.sync
 split
 ·rename_i h
  exact ⟨by simp only [overlay_length];exact step_len d,by simp⟩
 ·refine ⟨step_len d, ?_⟩
  unfold DS.step
  split
  ·simp
  ·split
   ·simp
   ·split
    ·simp [DS.fail]
    ·simp
theorem cmd_len (d : DS) (c : Cmd) : (d.cmd c).2.L.length = d.L.length ∧ (d.cmd c).2.S.length ≤ d.S.length + 1 := by
 cases c with
 | wr i b => exact write_len d i b
 | sy => exact ⟨(sync_len d).1,Nat.le_succ_of_le (sync_len d).2⟩
theorem run_len (l : List Cmd) : ∀ d,(DS.run l d).2.L.length = d.L.length ∧ (DS.run l d).2.S.length ≤ d.S.length + l.length := by
 induction l with
 | nil => intro d;exact ⟨rfl,Nat.le_refl _⟩
 | cons c l ih =>
  intro d
  have h1 := cmd_len d c
  rw [DS.run]
  split
  ·have := ih (d.cmd c).2
   exact ⟨this.1.trans h1.1,by simp only [List.length_cons];omega⟩
  ·exact ⟨h1.1,by simp only [List.length_cons];omega⟩
open Go.RowKit
theorem write_num (d : DS) (i : Nat) (b : Bs) : (d.write i b).1 = 0 ∨ (d.write i b).1 = 7 := by
 unfold DS.write
 split
 ·exact .inl rfl
 ·exact step_num d
theorem sync_num (d : DS) : d.sync.1 = 0 ∨ d.sync.1 = 7 := by
 unfold DS.sync
 split
 ·exact .inl rfl
 ·exact step_num d
theorem run_num (l : List Cmd) : ∀ d,(DS.run l d).1 = 0 ∨ (DS.run l d).1 = 7 := by
 induction l with
 | nil => intro d;exact .inl rfl
 | cons c l ih =>
  intro d
  rw [DS.run]
  split
  ·exact ih _
  ·cases c with
   | wr i b => exact write_num d i b
   | sy => exact sync_num d
set_option maxRecDepth 100000 in
set_option maxHeartbeats 1000000 in
theorem say_any (X : List Nat) (D : Nat) (ds : DS) (b f s : Nat) (h : Bs) (w : World) (hD : Dsk w X D ds) (hW : WLog w b D f s) (hb : b ∉ X) (hf : f < ds.L.length) (hh : h.length ≤ 512) (hS : ds.S.length ≤ 1000000) :
  Calls Tryz.prog 98 #[.pointer (some ⟨b,0,none⟩), .string (mk h)] w fun e w' => e = .returned (.int .i64 ((DS.run [.wr f h, .sy] ds).1 : Nat)) ∧ ∃ X',Dsk w' X' D (DS.run [.wr f h, .sy] ds).2 ∧ Mv X X' w w' := by
 have KW := write_any X D ds f h w.drew (hD.frm (Y := []) (Frm.refl _ w).drew (fun _ _ => by simp)) hf hh hS
 have HR0 := Lib.hid (fun (h0 : (ds.write f h).1 = 0) => (show DS.run [.wr f h, .sy] ds = (ds.write f h).2.sync by rw [DS.run,show ds.cmd (.wr f h) = ds.write f h from rfl,if_pos h0,run_one];rfl))
 have HR7 := Lib.hid (fun (h0 : (ds.write f h).1 = 7) => (show DS.run [.wr f h, .sy] ds = ds.write f h by rw [DS.run,show ds.cmd (.wr f h) = ds.write f h from rfl,if_neg (by omega)]))
 have hnum := write_num ds f h
 obtain ⟨d1,hd1⟩ : ∃ q,ds.write f h = q := ⟨_,rfl⟩
 obtain ⟨R,hR⟩ : ∃ q,DS.run [.wr f h, .sy] ds = q := ⟨_,rfl⟩
 rw [hd1] at KW HR0 HR7 hnum
 rw [hR] at HR0 HR7 ⊢
 obtain ⟨Y,hY⟩ : ∃ q,mk h = q := ⟨_,rfl⟩
 rw [hY] at KW ⊢
 have HBX := Lib.hid hb
 obtain ⟨d1n,d1⟩ := d1
 dsimp only at KW HR0 HR7 hnum
 have mixed := mixedT
 clear hD hb hf hh hS hd1 hR hY
 rcases hnum with rfl | rfl
 ·have HRE := Lib.hid (HR0.out rfl)
  clear HR0 HR7
  go_enter Tryz.func98,Tryz.ntmps98
  go_upto_region 1 with (fail)
  refine wp_region_held (S := fun w' => WLog w' b D f s) mixed ?_
  change wpAnyH _ _ _ _ _ _ _ _ w.drew
  have hW1 : WLog w.drew b D f s := hW
  refine tkQ 0 (.pointer (some ⟨b,0,none⟩)) rfl hW1 ?_
  try go_simp
  refine tkQ 1 (.pointer (some ⟨b,0,none⟩)) rfl hW1 ?_
  try go_simp
  refine tkQ 2 (.pointer (some ⟨b,0,none⟩)) rfl hW1 ?_
  try go_simp
  refine tkH 3 (.pointer (some ⟨D,0,none⟩)) rfl hW1 (fun w' hS => ?_) ?_
  ·have q0 := Blk.cell hS 0;simp at q0;go_simp
  try go_simp
  refine tkQ 4 (.pointer (some ⟨b,0,none⟩)) rfl hW1 ?_
  try go_simp
  refine tkQ 5 (.pointer (some ⟨b,0,none⟩)) rfl hW1 ?_
  try go_simp
  refine tkQ 6 (.pointer (some ⟨b,1,none⟩)) rfl hW1 ?_
  try go_simp
  refine tkH 7 (.int .i64 (f : Int)) rfl hW1 (fun w' hS => ?_) ?_
  ·have q0 := Blk.cell hS 1;simp at q0;go_simp
  try go_simp
  refine tkQ 8 (.string Y) rfl hW1 ?_
  try go_simp
  refine alH 9 ?_
  unfold wpOp
  go_simp
  refine .inl ?_
  go_at_call 56
  refine KW.mono ?_
  rintro e W1 ⟨rfl,X1,hD1,hM1⟩
  have hW2 : WLog W1 b D f s := hM1.blk hW1 HBX.out
  refine ⟨hW2, ?_⟩
  refine tkQ 10 (.int .i64 0) rfl hW2 ?_
  try go_simp
  refine wpAnyH_done (by kernel_rfl) ?_ _
  have KS := sync_any X1 D d1 W1 hD1
  have x0 := Blk.cell hW2 0
  simp at x0
  have HM := Lib.hid hM1
  clear hM1 hD1 hW hW1 hW2 KW
  go_wp2_with (go_at_call 57;refine KS.mono ?_;rintro e W2 ⟨rfl,hD2,hF2⟩)
  go_wp2
  go_ret
  exact ⟨by rw [HRE.out];rfl,X1,by rw [HRE.out];exact hD2,(Mv.trans (b := W1) ⟨⟨HM.out.frm.os,HM.out.frm.tape,HM.out.frm.output,HM.out.frm.size,HM.out.frm.block⟩,HM.out.sub⟩ (.of_frm hF2))⟩
 ·have HRE := Lib.hid (HR7.out rfl)
  clear HR0 HR7
  go_enter Tryz.func98,Tryz.ntmps98
  go_upto_region 1 with (fail)
  refine wp_region_held (S := fun w' => WLog w' b D f s) mixed ?_
  change wpAnyH _ _ _ _ _ _ _ _ w.drew
  have hW1 : WLog w.drew b D f s := hW
  refine tkQ 0 (.pointer (some ⟨b,0,none⟩)) rfl hW1 ?_
  try go_simp
  refine tkQ 1 (.pointer (some ⟨b,0,none⟩)) rfl hW1 ?_
  try go_simp
  refine tkQ 2 (.pointer (some ⟨b,0,none⟩)) rfl hW1 ?_
  try go_simp
  refine tkH 3 (.pointer (some ⟨D,0,none⟩)) rfl hW1 (fun w' hS => ?_) ?_
  ·have q0 := Blk.cell hS 0;simp at q0;go_simp
  try go_simp
  refine tkQ 4 (.pointer (some ⟨b,0,none⟩)) rfl hW1 ?_
  try go_simp
  refine tkQ 5 (.pointer (some ⟨b,0,none⟩)) rfl hW1 ?_
  try go_simp
  refine tkQ 6 (.pointer (some ⟨b,1,none⟩)) rfl hW1 ?_
  try go_simp
  refine tkH 7 (.int .i64 (f : Int)) rfl hW1 (fun w' hS => ?_) ?_
  ·have q0 := Blk.cell hS 1;simp at q0;go_simp
  try go_simp
  refine tkQ 8 (.string Y) rfl hW1 ?_
  try go_simp
  refine alH 9 ?_
  unfold wpOp
  go_simp
  refine .inl ?_
  go_at_call 56
  refine KW.mono ?_
  rintro e W1 ⟨rfl,X1,hD1,hM1⟩
  have hW2 : WLog W1 b D f s := hM1.blk hW1 HBX.out
  refine ⟨hW2, ?_⟩
  refine tkQ 10 (.int .i64 7) rfl hW2 ?_
  try go_simp
  refine wpAnyH_done (by kernel_rfl) ?_ _
  have HM := Lib.hid hM1
  have HD1 := Lib.hid hD1
  clear hM1 hD1 hW hW1 hW2 KW
  go_wp2
  go_ret
  exact ⟨by rw [HRE.out];rfl,X1,by rw [HRE.out];exact HD1.out,⟨⟨HM.out.frm.os,HM.out.frm.tape,HM.out.frm.output,HM.out.frm.size,HM.out.frm.block⟩,HM.out.sub⟩⟩
open Go.RowKit
def wrs (x : List (Nat × Bs)) : List Cmd := x.map fun c => .wr c.1 c.2
theorem wrs_snoc (x : List (Nat × Bs)) (k : Nat) (h : k < x.length) : wrs (x.take (k + 1)) = wrs (x.take k) ++ [.wr x[k].1 x[k].2] := by
 unfold wrs;rw [List.take_succ_eq_append_getElem h,List.map_append];rfl
theorem wrs_split (x : List (Nat × Bs)) (k : Nat) : wrs x = wrs (x.take k) ++ wrs (x.drop k) := by unfold wrs;rw [← List.map_append,List.take_append_drop]
theorem wrs_length (x : List (Nat × Bs)) : (wrs x).length = x.length := by simp [wrs]
theorem wrs_next (x : List (Nat × Bs)) (l : List Cmd) (ds : DS) (k : Nat) (h : k < x.length) (h0 : (DS.run (wrs (x.take k)) ds).1 = 0) :
  DS.run (wrs (x.take (k + 1))) ds = (DS.run (wrs (x.take k)) ds).2.write x[k].1 x[k].2 ∧ (((DS.run (wrs (x.take k)) ds).2.write x[k].1 x[k].2).1 ≠ 0 → DS.run (wrs x ++ l) ds = (DS.run (wrs (x.take k)) ds).2.write x[k].1 x[k].2) := by
 have e : DS.run (wrs (x.take (k + 1))) ds = (DS.run (wrs (x.take k)) ds).2.write x[k].1 x[k].2 := by rw [wrs_snoc x k h,run_snoc _ _ _ h0];rfl
 refine ⟨e,fun h1 => ?_⟩
 rw [wrs_split x (k + 1),List.append_assoc,run_stop _ _ _ (by rw [e];exact h1),e]
theorem wrs_all (x : List (Nat × Bs)) (ds : DS) (h0 : (DS.run (wrs (x.take x.length)) ds).1 = 0) : DS.run (wrs x ++ [.sy]) ds = (DS.run (wrs (x.take x.length)) ds).2.sync := by
 rw [List.take_of_length_le (Nat.le_refl _)] at h0 ⊢
 rw [run_snoc _ _ _ h0];rfl
theorem wrs_len (x : List (Nat × Bs)) (k : Nat) (ds : DS) : (DS.run (wrs (x.take k)) ds).2.L.length = ds.L.length ∧ (DS.run (wrs (x.take k)) ds).2.S.length ≤ ds.S.length + k := by
 have := run_len (wrs (x.take k)) ds
 rw [wrs_length,List.length_take] at this
 exact ⟨this.1,by omega⟩
theorem Mv.lies {X Y : List Nat} {w w' : World} (h : Mv X Y w w') {A : Option Addr} {xs : List Value} (hl : Lies w A xs) (hx : ∀ a,A = some a → a.block ∉ X) : Lies w' A xs := h.frm.lies hl hx
theorem Dsk.drew {X : List Nat} {w : World} {D : Nat} {d : DS} (h : Dsk w X D d) : Dsk w.drew X D d := h.frm (Y := []) (Frm.refl _ w).drew (fun _ _ => by simp)
theorem Mv.of_drew {X Y : List Nat} {w w' : World} (h : Mv X Y w.drew w') : Mv X Y w w' := ⟨⟨h.frm.os,h.frm.tape,h.frm.output,h.frm.size,h.frm.block⟩,h.sub⟩
set_option maxRecDepth 100000 in
set_option maxHeartbeats 1000000 in
theorem make_any (X : List Nat) (D : Nat) (ds : DS) (b f s : Nat) (A : Option Addr) (cap : Nat) (x : List (Nat × Bs)) (w : World) (hD : Dsk w X D ds) (hW : WLog w b D f s) (hb : b ∉ X) (hA : Lies w A (scells x)) (hAX : ∀ a,A = some a → a.block ∉ X)
  (hx : ∀ c ∈ x,c.1 < ds.L.length ∧ c.2.length ≤ 512) (hn : x.length ≤ 64) (hS : ds.S.length ≤ 999000) :
  Calls Tryz.prog 97 #[.pointer (some ⟨b,0,none⟩), .slice A x.length cap] w fun e w' => e = .returned (.int .i64 ((DS.run (wrs x ++ [.sy]) ds).1 : Nat)) ∧ ∃ X',Dsk w' X' D (DS.run (wrs x ++ [.sy]) ds).2 ∧ Mv X X' w w' := by
 have HNX := Lib.hid (fun k hk h0 => wrs_next x [.sy] ds k hk h0)
 have HAL := Lib.hid (wrs_all x ds)
 have HLN := Lib.hid (fun k => wrs_len x k ds)
 obtain ⟨R,hR⟩ : ∃ q,DS.run (wrs x ++ [.sy]) ds = q := ⟨_,rfl⟩
 rw [hR] at HNX HAL ⊢
 have HX := Lib.hid hx
 have HAX := Lib.hid hAX
 obtain ⟨n,hnn⟩ : ∃ n,x.length = n := ⟨_,rfl⟩
 rw [hnn] at hn HAL ⊢
 have HN := Lib.hid hnn
 have HL := Lib.hid hA
 have HBX := Lib.hid hb
 have HW := Lib.hid hW
 have HD := Lib.hid hD
 have mixed := mixedT
 clear hD hW hb hA hAX hx hnn hR
 go_enter Tryz.func97,Tryz.ntmps97
 go_wp2
 go_loopw [10] (fun i wr => ∃ k : Nat,k ≤ n ∧ i = .int .i64 k ∧ (DS.run (wrs (x.take k)) ds).1 = 0 ∧ ∃ X',Dsk wr X' D (DS.run (wrs (x.take k)) ds).2 ∧ Mv X X' w wr) (fun i _ => n - (intOf i).toNat)
 case atStart => exact ⟨0,Nat.zero_le _,rfl,rfl,X,HD.out,Mv.refl _ _⟩
 case round =>
  obtain ⟨k,hk,rfl,h0,X1,hD1,hM1⟩ := hrel
  have hsz := hM1.size
  by_cases hlt : k < n
  ·have hkl : k < x.length := by rw [HN.out];exact hlt
   obtain ⟨g,off,rfl,hgl,hcs⟩ := HL.out (by rw [scells_length];omega)
   obtain ⟨s0,s1⟩ := scells_at x k hkl
   have hgX : g ∉ X := HAX.out _ rfl
   have d0 := (hM1.frm.cell (p := ⟨g,off + k * 2,none⟩) hgl hgX).trans (hcs _ _ s0)
   have d1 := (hM1.frm.cell (p := ⟨g,off + (k * 2 + 1),none⟩) hgl hgX).trans (hcs _ _ s1)
   have hgr : g < wr.heap.size := by omega
   obtain ⟨hq1,hq2⟩ := HX.out x[k] (List.getElem_mem hkl)
   obtain ⟨hnx,hst⟩ := HNX.out k hkl h0
   obtain ⟨hl1,hl2⟩ := HLN.out k
   have HRK := Lib.hid hnx
   have HST := Lib.hid hst
   obtain ⟨dk,hdk⟩ : ∃ q,(DS.run (wrs (x.take k)) ds).2 = q := ⟨_,rfl⟩
   rw [hdk] at hD1 HRK HST hl1 hl2
   obtain ⟨z,hz⟩ : ∃ z,x[k].1 = z := ⟨_,rfl⟩
   obtain ⟨y,hy⟩ : ∃ z,x[k].2 = z := ⟨_,rfl⟩
   rw [hz] at d0 hq1 HRK HST
   rw [hy, ← Nat.add_assoc] at d1
   rw [hy] at hq2 HRK HST
   have hW1 := hM1.blk HW.out HBX.out
   have hbX1 := hM1.apart HBX.out (Blk.lt HW.out)
   have hnum := write_num dk z y
   obtain ⟨Y,hY⟩ : ∃ q,mk y = q := ⟨_,rfl⟩
   rw [hY] at d1
   have hD2 := (hD1.below (below_alloc wr (.cells #[.int .i64 z, .string Y] 156))).drew
   have KW := write_any X1 D dk z y _ hD2 (by omega) hq2 (by omega)
   rw [hY] at KW
   obtain ⟨d1p,hd1p⟩ : ∃ q,dk.write z y = q := ⟨_,rfl⟩
   rw [hd1p] at KW hnum HRK HST
   obtain ⟨num,d2⟩ := d1p
   dsimp only at KW hnum HST
   have HM1 := Lib.hid hM1
   have HLT := Lib.hid hD1.lt
   have k0 : (0 : Int) ≤ (k : Int) := by omega
   have k1 : (k : Int) < (n : Int) := by omega
   clear hnx hst hdk hz hy hD1 hM1 hcs s0 s1 hq1 hq2 hl1 hl2 hY hD2 hd1p h0 hgX hkl
   go_wp2
   have hW2 : WLog (wr.alloc (.cells #[.int .i64 z, .string Y] 156)).drew b D f s := Blk.alloc hW1 _
   have hZ1 := Blk.new wr #[.int .i64 z, .string Y] 156
   have hA2 := ((below_alloc wr (.cells #[.int .i64 z, .string Y] 156))).drew
   obtain ⟨V,hV⟩ : ∃ V,wr.heap.size = V := ⟨_,rfl⟩
   rw [hV] at hZ1
   simp only [hV]
   refine wp_region_held (S := fun w' => WLog w' b D f s ∧ Blk w' V #[.int .i64 z, .string Y] 156) mixed ?_
   change wpAnyH _ _ _ _ _ _ _ _ (wr.alloc (.cells #[.int .i64 z, .string Y] 156)).drew
   have hZ2 : Blk (wr.alloc (.cells #[.int .i64 z, .string Y] 156)).drew V _ 156 := hZ1
   obtain ⟨W,hWW⟩ : ∃ u,(wr.alloc (.cells #[.int .i64 z, .string Y] 156)).drew = u := ⟨_,rfl⟩
   rw [hWW] at hZ2 hA2 hW2 KW ⊢
   have HV := Lib.hid hV
   have hVX : V ∉ X1 := fun hx => by have := HLT.out V hx;have := HV.out;omega
   clear hWW hZ1 d0 d1 hV
   have hS0 := And.intro hW2 hZ2
   refine tkQ 0 (.pointer (some ⟨b,0,none⟩)) rfl hS0 ?_
   try go_simp
   refine tkQ 1 (.pointer (some ⟨b,0,none⟩)) rfl hS0 ?_
   try go_simp
   refine tkQ 2 (.pointer (some ⟨b,0,none⟩)) rfl hS0 ?_
   try go_simp
   refine tkH 3 (.pointer (some ⟨D,0,none⟩)) rfl hS0 (fun w' hS => ?_) ?_
   ·have q0 := Blk.cell hS.1 0;simp at q0;go_simp
   try go_simp
   refine tkQ 4 (.pointer (some ⟨V,0,none⟩)) rfl hS0 ?_
   try go_simp
   refine tkH 5 (.int .i64 (z : Int)) rfl hS0 (fun w' hS => ?_) ?_
   ·have q0 := Blk.cell hS.2 0;simp at q0;go_simp
   try go_simp
   refine tkQ 6 (.pointer (some ⟨V,1,none⟩)) rfl hS0 ?_
   try go_simp
   refine tkH 7 (.string Y) rfl hS0 (fun w' hS => ?_) ?_
   ·have q0 := Blk.cell hS.2 1;simp at q0;go_simp
   try go_simp
   refine alH 8 ?_
   unfold wpOp
   go_simp
   refine .inl ?_
   go_at_call 56
   refine KW.mono ?_
   rintro e W1 ⟨rfl,X2,hD3,hM2⟩
   have hS1 : WLog W1 b D f s ∧ Blk W1 V #[.int .i64 z, .string Y] 156 := ⟨hM2.blk hW2 hbX1,hM2.blk hZ2 hVX⟩
   refine ⟨hS1, ?_⟩
   rcases hnum with rfl | rfl
   ·
    refine tkQ 9 (.int .i64 0) rfl hS1 ?_
    try go_simp
    refine wpAnyH_done (by kernel_rfl) ?_ _
    have HD3 := Lib.hid hD3
    have HMF := Lib.hid (HM1.out.trans ((Mv.of_below X1 hA2).trans hM2))
    clear hW2 hZ2 hS0 hS1 hD3 hM2 hA2 KW hW1 hVX HST
    go_wp2
    go_roundw
    case rel => exact ⟨k + 1,by omega,by go_num,by rw [HRK.out],X2,by rw [HRK.out];exact HD3.out,HMF.out⟩
    case measure => simp [intOf];omega
   ·
    refine tkQ 9 (.int .i64 7) rfl hS1 ?_
    try go_simp
    refine wpAnyH_done (by kernel_rfl) ?_ _
    have HD3 := Lib.hid hD3
    have HMF := Lib.hid (HM1.out.trans ((Mv.of_below X1 hA2).trans hM2))
    have HRE := Lib.hid (HST.out (by decide))
    clear hW2 hZ2 hS0 hS1 hD3 hM2 hA2 KW hW1 hVX HST
    go_wp2
    go_ret
    exact ⟨by rw [HRE.out];rfl,X2,by rw [HRE.out];exact HD3.out,HMF.out⟩
  ·obtain rfl : n = k := by omega
   have hal := HAL.out (by simpa using h0)
   obtain ⟨dk,hdk⟩ : ∃ q,(DS.run (wrs (x.take n)) ds).2 = q := ⟨_,rfl⟩
   rw [hdk] at hD1 hal
   have HRE := Lib.hid hal
   have KS := sync_any X1 D dk wr hD1
   have hW1 := hM1.blk HW.out HBX.out
   have x0 := Blk.cell hW1 0
   simp at x0
   have HM := Lib.hid hM1
   clear hM1 hD1 hW1 hal hdk h0
   go_wp2_with (go_at_call 57;refine KS.mono ?_;rintro e W2 ⟨rfl,hD2,hF2⟩)
   go_wp2
   go_ret
   exact ⟨by rw [HRE.out];rfl,X1,by rw [HRE.out];exact hD2,HM.out.trans (.of_frm hF2)⟩
open Go.RowKit
def byteAt (h : Bs) (i : Nat) : Nat := (h[i]?.getD 0).toNat
def numAt (h : Bs) (i : Nat) : Nat := byteAt h i * 256 + byteAt h (i + 1)
def secAt (v : List Bs) (i : Nat) : Bs := v[i]?.getD []
def saidX (v : List Bs) (f n : Nat) : List (Nat × Bs) := (List.range n).map fun i => (numAt (secAt v f) (3 + 2 * i),secAt v (f + 1 + i))
def saidOk (v : List Bs) (f s : Nat) : Bool := (secAt v f).take 2 == [87,76] && decide (1 ≤ byteAt (secAt v f) 2) && decide (byteAt (secAt v f) 2 ≤ s - 1) && ((saidX v f (byteAt (secAt v f) 2)).all fun c => mayB v.length f s c.1) && secAt v f == fullB (headW (saidX v f (byteAt (secAt v f) 2)))
def saidB (v : List Bs) (f s : Nat) : List (Nat × Bs) := if saidOk v f s then saidX v f (byteAt (secAt v f) 2) else []
theorem at_mk (l : Bs) (j : Nat) (hj : j < l.length) : ∃ h : j < (mk l).size,((mk l)[j]'h).toNat = byteAt l j := by
 have hs := mk_size l
 refine ⟨by omega, ?_⟩
 have h2 : (mk l).data.toList[j]? = l[j]? := by rw [mk_data]
 rw [Array.getElem?_toList,Array.getElem?_eq_getElem (by show j < (mk l).size;omega)] at h2
 unfold byteAt
 rw [← h2];rfl
theorem at_mkH (l : Bs) (H : ByteArray) (hH : mk l = H) (j : Nat) (hj : j < l.length) : ∃ h : j < H.size,(H[j]'h).toNat = byteAt l j := by subst hH;exact at_mk l j hj
theorem byteAt_lt (l : Bs) (j : Nat) : byteAt l j < 256 := UInt8.toNat_lt _
theorem saidX_length (v : List Bs) (f n : Nat) : (saidX v f n).length = n := by simp [saidX]
theorem saidX_snoc (v : List Bs) (f n : Nat) : saidX v f (n + 1) = saidX v f n ++ [(numAt (secAt v f) (3 + 2 * n),secAt v (f + 1 + n))] := by
 unfold saidX;rw [List.range_succ,List.map_append];rfl
theorem bdN {B : Nat} {a w : World} (h : Below B a w) (n : Nat) : Below B a (w.drewN n) := ⟨h.os,h.tape,h.output,h.size,h.block⟩
theorem word64 {a m : Int} (h0 : 0 ≤ a) (h1 : a < m) (h2 : m ≤ 9223372036854775807) : wrap64 a = a := Go.IntWalk.wrap64_in _ (by omega)
theorem word256 {a : Int} (h0 : 0 ≤ a) (h1 : a < 256) : IntKind.i64.wrap (a * 256) = a * 256 := by rw [Go.IntWalk.i64_left,Go.IntWalk.wrap64_in _ (by omega)]
theorem word1 {a : Int} (h0 : 0 ≤ a) (h1 : a < 512) : IntKind.i64.wrap (a + 1) = a + 1 := by rw [Go.IntWalk.i64_left,Go.IntWalk.wrap64_in _ (by omega)]
theorem row2_at {w : World} {B m : Nat} {e : TypeId} {v : Value} {S : List (Nat × Bs)} (h : w.ownsRow B e 2 v m (scells S)) (hm : S.length = m) (j : Nat) (hj : j < S.length) : ∃ g c,v = .slice (some ⟨g,0,none⟩) m c ∧ g < w.heap.size ∧ w.cell? ⟨g,j * 2,none⟩ = some (.int .i64 S[j].1) ∧ w.cell? ⟨g,j * 2 + 1,none⟩ = some (.string (mk S[j].2)) := by
 obtain ⟨g,cap,rfl,_,hl⟩ := h.form (by omega)
 obtain ⟨h0,h1⟩ := scells_at S j hj
 refine ⟨g,cap,rfl,hl, ?_, ?_⟩
 ·rw [h.cellAt (j * 2) (by omega)];exact h0
 ·rw [h.cellAt (j * 2 + 1) (by omega)];exact h1
theorem info156 : (Tryz.prog.info? 156).map (fun i => (i.zero,i.size,i.bytes)) = some (some (.agg #[.int .i64 0, .string ⟨#[]⟩]),2,24) := by kernel_rfl
theorem vis_length (d : DS) : d.vis.length = d.L.length := overlay_length _ _
theorem vis_sec {d : DS} (h : DGood d) (i : Nat) (hi : i < d.L.length) : (secAt d.vis i).length = 512 := by
 unfold secAt
 have hl := vis_length d
 rw [List.getElem?_eq_getElem (by rw [hl];exact hi)]
 exact over_good d.L.length d.S d.L h.lasts h.wrote _ (List.getElem_mem _)
set_option maxRecDepth 100000 in
set_option maxHeartbeats 2000000 in
theorem said_any (X : List Nat) (D : Nat) (ds : DS) (b f s : Nat) (w : World) (hD : Dsk w X D ds) (hW : WLog w b D f s) (hf : f + s ≤ ds.L.length) (hs : 2 ≤ s) (hs2 : s ≤ 65) (ho : ds.off = false) (hT : TB w) (hw : 0 < w.heap.size) :
  Calls Tryz.prog 96 #[.pointer (some ⟨b,0,none⟩)] w fun e w' => (∃ A c,e = .returned (.tuple #[.slice A (saidB ds.vis f s).length c, .int .i64 0]) ∧ w'.ownsRow w.heap.size 156 2 (.slice A (saidB ds.vis f s).length c) (saidB ds.vis f s).length (scells (saidB ds.vis f s))) ∧ Below w.heap.size w w' := by
 have hsm := hD.good.small
 have hvl := vis_length ds
 have hh := vis_sec hD.good f (by omega)
 have KR := fun (i : Nat) (hi : i < ds.L.length) (w' : World) (hb : Below w.heap.size w w') => read_any X D ds i w' (hD.below hb) hi ho
 have HXG := Lib.hid (show ∀ n ≤ s - 1, ∀ c ∈ saidX ds.vis f n,c.1 ≤ 1000000 ∧ c.2.length = 512 from fun n hn c hc => by
  unfold saidX at hc
  obtain ⟨i,hi,rfl⟩ := List.mem_map.1 hc
  have hi2 := List.mem_range.1 hi
  refine ⟨?_,vis_sec hD.good _ (by omega)⟩
  have h1 := byteAt_lt (secAt ds.vis f) (3 + 2 * i)
  have h2 := byteAt_lt (secAt ds.vis f) (3 + 2 * i + 1)
  show numAt _ _ ≤ _
  unfold numAt
  omega)
 have HKR := Lib.hid KR
 have KR0 := fun (w' : World) (hb : Below w.heap.size w w') => KR f (by omega) w' hb
 simp only [show (ds.vis[f]?.getD []) = secAt ds.vis f from rfl] at KR0
 have x0 := Blk.cell hW 0
 have x1 := Blk.cell hW 1
 simp at x0 x1
 have hsl := fun (w : World) => run_slice_string_h (P := Tryz.prog) (w := w) (t := 9) (s := mk (secAt ds.vis f)) Tryz.underlying9 .i64 2 (by omega) (by rw [mk_size,hh];omega)
 rw [show (2 : Int).toNat = 2 from rfl,show (mk (secAt ds.vis f)).extract 0 2 = mk ((secAt ds.vis f).take 2) by have := ext_mk' (mk (secAt ds.vis f)) 0 2;simpa [mk_data] using this] at hsl
 obtain ⟨nb,hnb⟩ : ∃ q,byteAt (secAt ds.vis f) 2 = q := ⟨_,rfl⟩
 have hnb8 : nb < 256 := by rw [← hnb];exact byteAt_lt _ _
 have hok : saidOk ds.vis f s = ((secAt ds.vis f).take 2 == [87,76] && decide (1 ≤ nb) && decide (nb ≤ s - 1) && ((saidX ds.vis f nb).all fun c => mayB ds.L.length f s c.1) && secAt ds.vis f == fullB (headW (saidX ds.vis f nb))) := by unfold saidOk;rw [hnb,hvl]
 have HSD := Lib.hid (show saidB ds.vis f s = if saidOk ds.vis f s then saidX ds.vis f nb else [] by unfold saidB;rw [hnb])
 have HOK := Lib.hid hok
 obtain ⟨R,hR⟩ : ∃ q,saidB ds.vis f s = q := ⟨_,rfl⟩
 rw [hR] at HSD ⊢
 have HHH := Lib.hid hh
 obtain ⟨hd,hhd⟩ : ∃ q,secAt ds.vis f = q := ⟨_,rfl⟩
 rw [hhd] at hsl hh HOK hnb
 simp only [hhd] at KR0
 have hz := mk_size hd
 rw [hh] at hz
 obtain ⟨H,hHe⟩ : ∃ q,mk hd = q := ⟨_,rfl⟩
 obtain ⟨h2a,h2b⟩ := at_mkH hd H hHe 2 (by omega)
 rw [hnb] at h2b
 rw [hHe] at hsl hz
 simp only [hHe] at KR0
 have HE := Lib.hid (And.intro hhd hHe)
 obtain ⟨i156,hi0,hi1,hi2,hi3⟩ := info_parts info156
 have mixed := mixedT
 have HKR0 := Lib.hid KR0
 have HTW := Lib.hid (And.intro hT hw)
 have HF5 := Lib.hid (show f ≤ 5000 by omega)
 have HFS := Lib.hid (And.intro hf (And.intro hs hs2))
 have HW := Lib.hid hW
 have HD := Lib.hid hD
 have HNIL := Lib.hid (show ∀ w' : World,w'.ownsRow w.heap.size 156 2 (.slice none 0 0) 0 [] from fun w' => World.ownsRow_nil _ _ _ _)
 clear hD hW hf hs hs2 ho hT hw hsm hvl hh KR KR0 hnb hok hR hhd hHe
 by_cases hp1 : hd.take 2 = [87,76]
 case neg =>
  have hne2 : ((mk (hd.take 2)).toList == [87,76]) = false := by rw [mk_toList'];exact beq_eq_false_iff_ne.2 hp1
  have hne3 : ((mk (hd.take 2)).toList == ByteArray.toList ⟨#[87,76]⟩) = false := by rw [mk_toList',show ByteArray.toList ⟨#[87,76]⟩ = [87,76] from mk_toList' [87,76]];exact beq_eq_false_iff_ne.2 hp1
  have HRN := Lib.hid (show R = [] by rw [HSD.out,HOK.out,show (hd.take 2 == [87,76]) = false from beq_eq_false_iff_ne.2 hp1];simp)
  obtain ⟨H2,hH2e⟩ : ∃ q,mk (hd.take 2) = q := ⟨_,rfl⟩
  rw [hH2e] at hne2 hne3 hsl
  obtain rfl := HRN.out
  clear hH2e hp1 HSD HOK h2b HRN
  go_enter Tryz.func96,Tryz.ntmps96
  go_upto_region 1 with (fail)
  go_quiet ((go_at_call 33;exact Calls.quiet_of_same (HKR0.out _ (bdN (Below.refl _ _) _))))
  go_wp2
  go_ret2
  exact ⟨⟨none,0,rfl,HNIL.out _⟩,bdN (Below.refl _ _) _⟩
 rw [hp1] at hsl
 have he2 : (ByteArray.toList ⟨#[87,76]⟩ == [87,76]) = true := by rw [show ByteArray.toList ⟨#[87,76]⟩ = [87,76] from mk_toList' [87,76]];rfl
 rw [show mk [87,76] = ⟨#[87,76]⟩ from rfl] at hsl
 have hwn : wrap64 (nb : Int) = (nb : Int) := Go.IntWalk.wrap64_in _ (by omega)
 by_cases hp2 : 1 ≤ nb
 case neg =>
  have HRN := Lib.hid (show R = [] by rw [HSD.out,HOK.out,show decide (1 ≤ nb) = false by simpa using hp2];simp)
  obtain rfl := HRN.out
  have b0 : (nb : Int) < 1 := by omega
  clear HSD HOK hp1 hp2 hnb8 HRN
  go_enter Tryz.func96,Tryz.ntmps96
  go_upto_region 1 with (fail)
  go_quiet ((go_at_call 33;exact Calls.quiet_of_same (HKR0.out _ (bdN (Below.refl _ _) _))))
  go_wp2
  go_ret2
  exact ⟨⟨none,0,rfl,HNIL.out _⟩,bdN (Below.refl _ _) _⟩
 have hfs := HFS.out
 have KM := fun n => most_any b D f s (w.drewN n) (show WLog (w.drewN n) b D f s from HW.out) (by omega)
 by_cases hp3 : nb ≤ s - 1
 case neg =>
  have HRN := Lib.hid (show R = [] by rw [HSD.out,HOK.out,show decide (nb ≤ s - 1) = false by simpa using hp3];simp)
  obtain rfl := HRN.out
  obtain ⟨s1,hs1⟩ : ∃ q,s - 1 = q := ⟨_,rfl⟩
  rw [hs1] at KM hp3
  have b0 : ¬ ((nb : Int) < 1) := by omega
  have b1 : (s1 : Int) < (nb : Int) := by omega
  clear HSD HOK hp1 hp2 hnb8 HRN hp3 hs1 hfs
  go_enter Tryz.func96,Tryz.ntmps96
  go_upto_region 1 with (fail)
  go_quiet ((go_at_call 33;exact Calls.quiet_of_same (HKR0.out _ (bdN (Below.refl _ _) _))))
  go_wp2_with (go_at_call 115;refine (KM _).mono ?_;rintro e w1 ⟨rfl,hw⟩;obtain rfl := hw.symm)
  go_ret2
  exact ⟨⟨none,0,rfl,HNIL.out _⟩,bdN (Below.refl _ _) _⟩
 have HB63 := Lib.hid (show nb ≤ 64 from by omega)
 have HXG := Lib.hid (HXG.out nb hp3)
 obtain ⟨s1,hs1⟩ : ∃ q,s - 1 = q := ⟨_,rfl⟩
 rw [hs1] at KM
 have b0 : ¬ ((nb : Int) < 1) := by omega
 have b1 : ¬ ((s1 : Int) < (nb : Int)) := by omega
 have b1n : ¬ (s1 < nb) := by omega
 have b2 : (0 : Int) ≤ (nb : Int) := by omega
 have b3 : (nb : Int) ≤ 64 := by omega
 have HOK2 := Lib.hid (show saidOk ds.vis f s = (((saidX ds.vis f nb).all fun c => mayB ds.L.length f s c.1) && hd == fullB (headW (saidX ds.vis f nb))) by
  rw [HOK.out,hp1,show decide (1 ≤ nb) = true by simpa using hp2,show decide (nb ≤ s - 1) = true by simpa using hp3];simp)
 have HS1 := Lib.hid hs1.symm
 clear HOK hp1 hp2 hnb8 hp3 hs1 hfs
 go_enter Tryz.func96,Tryz.ntmps96
 go_upto_region 1 with (fail)
 go_quiet ((go_at_call 33;exact Calls.quiet_of_same (HKR0.out _ (bdN (Below.refl _ _) _))))
 go_wp2_with (go_at_call 115;refine (KM _).mono ?_;rintro e w1 ⟨rfl,hw⟩;obtain rfl := hw.symm)
 go_loopw [7,47] (fun v i wr => ∃ k : Nat,k ≤ nb ∧ i = .int .i64 k ∧ wr.ownsRow w.heap.size 156 2 v k (scells (saidX ds.vis f k)) ∧ Below w.heap.size w wr) (fun _ i _ => nb - (intOf i).toNat)
 case atStart => exact ⟨0,Nat.zero_le _,rfl,World.ownsRow_nil _ _ _ _,bdN (Below.refl _ _) _⟩
 case round =>
  obtain ⟨k,hk,rfl,hrow,hb⟩ := hrel
  by_cases hlt : k < nb
  ·have hsz := hb.size
   have hf3 := HFS.out
   have hnb := HB63.out
   have hn1 : s1 = s - 1 := HS1.out
   have KRk := fun n => HKR.out (f + 1 + k) (by omega) (wr.drewN n) (bdN hb n)
   simp only [show ∀ i : Nat,(ds.vis[i]?.getD []) = secAt ds.vis i from fun _ => rfl] at KRk
   rw [show ((f + 1 + k : Nat) : Int) = (f : Int) + 1 + (k : Int) by omega] at KRk
   obtain ⟨y,hy⟩ : ∃ q,secAt ds.vis (f + 1 + k) = q := ⟨_,rfl⟩
   obtain ⟨Y,hY⟩ : ∃ q,mk y = q := ⟨_,rfl⟩
   simp only [hy,hY] at KRk
   have x0 := Blk.cell (show WLog wr b D f s from HW.out.below hb) 0
   have x1 := Blk.cell (show WLog wr b D f s from HW.out.below hb) 1
   simp at x0 x1
   have hfb : f ≤ 5000 := HF5.out
   have w1 : IntKind.i64.wrap ((f : Int) + 1) = (f : Int) + 1 := by rw [Go.IntWalk.i64_left,Go.IntWalk.wrap64_in _ (by omega)]
   have w2 : IntKind.i64.wrap ((f : Int) + 1 + (k : Int)) = (f : Int) + 1 + (k : Int) := by rw [Go.IntWalk.i64_left,Go.IntWalk.wrap64_in _ (by omega)]
   have k0 : (0 : Int) ≤ (k : Int) := by omega
   have k1 : (k : Int) < (nb : Int) := by omega
   have HROW := Lib.hid hrow
   have HB := Lib.hid hb
   have HY := Lib.hid (And.intro hy hY)
   clear hrow hb hy hY hlt hf3 hnb hn1 hfb
   go_upto_region 11 with (fail)
   go_quiet ((go_at_call 33;exact Calls.quiet_of_same (KRk _)))
   go_upto_region 15 with (fail)
   clear w1 w2
   obtain ⟨j,hj⟩ : ∃ j,3 + 2 * k = j := ⟨_,rfl⟩
   have hji : 3 + 2 * (k : Int) = (j : Int) := by omega
   have hjl : j + 1 < hd.length := by have := HHH.out;rw [HE.out.1] at this;have := HB63.out;omega
   obtain ⟨ja,jb⟩ := at_mkH hd H HE.out.2 j (by omega)
   obtain ⟨jc,jd⟩ := at_mkH hd H HE.out.2 (j + 1) hjl
   obtain ⟨a1,ha1⟩ : ∃ q,byteAt hd j = q := ⟨_,rfl⟩
   obtain ⟨a2,ha2⟩ : ∃ q,byteAt hd (j + 1) = q := ⟨_,rfl⟩
   rw [ha1] at jb
   rw [ha2] at jd
   have q1 : a1 < 256 := by rw [← ha1];exact byteAt_lt _ _
   have q2 : a2 < 256 := by rw [← ha2];exact byteAt_lt _ _
   have q3 : (0 : Int) ≤ (a1 : Int) ∧ (a1 : Int) < 256 := by omega
   have q4 : (0 : Int) ≤ (a2 : Int) ∧ (a2 : Int) < 256 := by omega
   have j0 : (0 : Int) ≤ (j : Int) := by omega
   have j1 : (j : Int) < 512 := by have := HHH.out;rw [HE.out.1] at this;omega
   have jt : ((j : Int) + 1).toNat = j + 1 := by omega
   have jp : (j : Int) + 1 < 512 := by have := HHH.out;rw [HE.out.1] at this;omega
   have jp0 : 0 ≤ (j : Int) + 1 := by omega
   obtain ⟨N,hN⟩ : ∃ q,a1 * 256 + a2 = q := ⟨_,rfl⟩
   have hN1 : a1 < 1099511627776 := by omega
   have HNN := Lib.hid (show numAt hd (3 + 2 * k) = N by unfold numAt;rw [hj,ha1,ha2];exact hN)
   have hor := or_i64 a1 a2 hN1 q2
   have w4 : wrap64 (a2 : Int) = (a2 : Int) := word64 q4.1 q4.2 (by decide)
   rw [w4,hN] at hor
   have w3 : wrap64 (a1 : Int) = (a1 : Int) := word64 q3.1 q3.2 (by decide)
   have w7 : IntKind.i64.wrap (a1 : Int) = (a1 : Int) := by rw [Go.IntWalk.i64_left];exact w3
   have w8 : IntKind.i64.wrap (a2 : Int) = (a2 : Int) := by rw [Go.IntWalk.i64_left];exact w4
   have w5 : IntKind.i64.wrap ((a1 : Int) * 256) = (a1 : Int) * 256 := word256 q3.1 q3.2
   have w6 : IntKind.i64.wrap ((j : Int) + 1) = (j : Int) + 1 := word1 j0 j1
   clear ha1 ha2 hN hjl hN1
   rw [hji]
   refine wp_region_held (S := fun _ => True) mixed ?_
   change wpAnyH _ _ _ _ _ _ _ _ (World.drewN _ _).drew
   have hrow0 := Lib.hid (show (wr.drewN nq).drew.ownsRow w.heap.size 156 2 u7 k (scells (saidX ds.vis f k)) from HROW.out)
   have hb0 := Lib.hid (bdN HB.out nq).drew
   obtain ⟨W0,hW0⟩ : ∃ q,(wr.drewN nq).drew = q := ⟨_,rfl⟩
   rw [hW0] at hrow0 hb0 ⊢
   clear hW0
   refine tkQ 0 (u7) rfl trivial ?_
   try go_simp
   refine tkQ 1 (.string H) rfl trivial ?_
   try go_simp
   refine tkQ 2 (.int .i64 (j : Int)) rfl trivial ?_
   try go_simp
   refine tkQ 3 (.int .u8 (a1 : Int)) rfl trivial ?_
   try go_simp
   refine tkQ 4 (.int .i64 (a1 : Int)) rfl trivial ?_
   try go_simp
   refine tkQ 5 (.int .i64 ((a1 : Int) * 256)) rfl trivial ?_
   try go_simp
   refine tkQ 6 (.string H) rfl trivial ?_
   try go_simp
   refine tkQ 7 (.int .i64 (j : Int)) rfl trivial ?_
   try go_simp
   refine tkQ 8 (.int .i64 ((j : Int) + 1)) rfl trivial ?_
   try go_simp
   refine tkQ 9 (.int .u8 (a2 : Int)) rfl trivial ?_
   try go_simp
   refine tkQ 10 (.int .i64 (a2 : Int)) rfl trivial ?_
   try go_simp
   refine tkQ 11 (.int .i64 (N : Int)) rfl trivial ?_
   try go_simp
   refine tkQ 12 (.string Y) rfl trivial ?_
   try go_simp
   refine tkQ 13 (.agg #[.int .i64 N, .string Y]) rfl trivial ?_
   try go_simp
   refine alH 14 ?_
   unfold wpOp
   go_simp
   have hN2 := World.news_of_block (cs := #[.int .i64 N, .string Y]) (heap_alloc_new W0 (.cells #[.int .i64 N, .string Y] 156))
   have hr2 := World.ownsRow.alloc hrow0.out (.cells #[.int .i64 N, .string Y] 156)
   have hb2 := hb0.out.alloc hb0.out.size (.cells #[.int .i64 N, .string Y] 156)
   obtain ⟨Z,hZ⟩ : ∃ Z,W0.heap.size = Z := ⟨_,rfl⟩
   obtain ⟨W2,hW2⟩ : ∃ u,W0.alloc (.cells #[.int .i64 N, .string Y] 156) = u := ⟨_,rfl⟩
   rw [hZ] at hN2
   rw [hW2] at hN2 hr2 hb2
   try rw [hZ]
   rw [hW2]
   clear hW2 hZ
   first | refine .inl ⟨trivial, ?_⟩ | refine ⟨trivial, ?_⟩ | refine .inl ?_ | skip
   refine alH 15 ?_
   refine wpOp_of rfl rfl (wp_append_lies (P := Tryz.prog) W2 (.tmp 71) (.tmp 85) 157 rfl w.heap.size 156 i156 _ 2 24 Tryz.underlying157 hi0 hi1 hi2 hi3 (by rfl) (by decide) u7 k (scells (saidX ds.vis f k)) (by rfl) hr2 ⟨Z,0,none⟩ 1 1 [.int .i64 N, .string Y] (by rfl) (by rfl) hN2 (by simp [Value.oneCell']) (by omega) (by unfold maxLen;have := HB63.out;omega) (by have := HB63.out;omega) hb2.size W2.heap.size rfl ?_)
   intro g3 c3 W3 hS3 hg3 hat3 _
   have HFN := Lib.hid (show W3.ownsRow w.heap.size 156 2 (.slice (some ⟨g3,0,none⟩) (k + 1) c3) (k + 1) (scells (saidX ds.vis f (k + 1))) ∧ Below w.heap.size w W3 from by
    refine ⟨?_,hb2.grown hg3 hb2.size (fun g hg => (hr2.lt g hg).1)⟩
    rw [saidX_snoc,scells_snoc]
    simp only [HE.out.1,HNN.out,HY.out.1,HY.out.2]
    exact hS3)
   refine ⟨trivial, ?_⟩
   try go_simp
   refine tkQ 16 (.slice (some ⟨g3,0,none⟩) (k + 1) c3) rfl trivial ?_
   try go_simp
   refine wpAnyH_done (by kernel_rfl) ?_ _
   clear hN2 hr2 hb2 hS3 hg3 hat3 hrow0 hb0 KRk hor w3 w4 w5 w6 w7 w8 jb jd jt
   go_wp2
   go_roundw
   case rel => exact ⟨k + 1,by omega,by go_num,HFN.out.1,HFN.out.2⟩
   case measure => simp [intOf];omega
  ·obtain rfl : nb = k := by omega
   obtain ⟨A,cA,rfl⟩ := row_form hrow
   have hx := HXG.out
   have hxl : (saidX ds.vis f nb).length = nb := saidX_length _ _ _
   obtain ⟨x,hxe⟩ : ∃ q,saidX ds.vis f nb = q := ⟨_,rfl⟩
   rw [hxe] at hrow hx hxl HSD HOK2
   have HX := Lib.hid hx
   have HXL := Lib.hid hxl
   have HROW := Lib.hid hrow
   have HB := Lib.hid hb
   clear hrow hb hx hxl hxe hlt
   rename World => wA
   go_upto_region 17 with (fail)
   go_wp2
   go_loopw [90] (fun i wr => ∃ k : Nat,k ≤ nb ∧ i = .int .i64 k ∧ (x.take k).all (fun c => mayB ds.L.length f s c.1) = true ∧ Below wA.heap.size wA wr) (fun i _ => nb - (intOf i).toNat)
   case atStart => exact ⟨0,Nat.zero_le _,rfl,by simp,Below.refl _ _⟩
   case round =>
    obtain ⟨k,hk,rfl,hall,hb2⟩ := hrel
    by_cases hlt : k < nb
    ·have hkl : k < x.length := by rw [HXL.out];exact hlt
     obtain ⟨g,c',hA,hgl,s0,s1⟩ := row2_at HROW.out HXL.out k hkl
     injection hA with hA1 _ hA3
     subst hA1 hA3
     have d0 := (hb2.cell (p := ⟨g,k * 2,none⟩) hgl).trans s0
     have d1 := (hb2.cell (p := ⟨g,k * 2 + 1,none⟩) hgl).trans s1
     have hgr : g < wr.heap.size := Nat.lt_of_lt_of_le hgl hb2.size
     have hma := List.take_succ_eq_append_getElem hkl
     have hAL := Lib.hid (fun (h : mayB ds.L.length f s x[k].1 = true) => (show (x.take (k + 1)).all (fun c => mayB ds.L.length f s c.1) = true by rw [hma,List.all_append,hall];simp [h]))
     have hNA := Lib.hid (fun (h : mayB ds.L.length f s x[k].1 = false) => (show x.all (fun c => mayB ds.L.length f s c.1) = false from List.all_eq_false.2 ⟨x[k],List.getElem_mem hkl,by rw [h];decide⟩))
     obtain ⟨z,hz⟩ : ∃ z,x[k].1 = z := ⟨_,rfl⟩
     obtain ⟨Y,hY⟩ : ∃ z,mk x[k].2 = z := ⟨_,rfl⟩
     rw [hz] at d0 hAL hNA
     rw [hY] at d1
     have hbw := HB.out.trans (hb2.mono HB.out.size)
     have hbw2 := hbw.alloc hbw.size (.cells #[.int .i64 z, .string Y] 156)
     have hf5 := HF5.out
     have hs5 := HFS.out
     have KY := may_any X D ds b f s z (wr.alloc (.cells #[.int .i64 z, .string Y] 156)) (HD.out.below hbw2) (HW.out.below hbw2) (by omega) (by omega)
     obtain ⟨o,hoo⟩ : ∃ o,mayB ds.L.length f s z = o := ⟨_,rfl⟩
     rw [hoo] at KY hAL hNA
     have HB2 := Lib.hid hb2
     have HBW := Lib.hid hbw2
     have k0 : (0 : Int) ≤ (k : Int) := by omega
     have k1 : (k : Int) < (nb : Int) := by omega
     clear hb2 hbw hbw2 hma hz hY hoo s0 s1 hall hf5 hs5 hkl
     cases o with
     | true =>
      have HAL := Lib.hid (hAL.out rfl)
      clear hAL hNA
      go_wp2_with (go_at_call 116;refine KY.mono ?_;rintro e w1 ⟨rfl,q,rfl⟩)
      go_roundw
      case rel => exact ⟨k + 1,by omega,by go_num,HAL.out,bdN (HB2.out.alloc HB2.out.size _) _⟩
      case measure => simp [intOf];omega
     | false =>
      have HRN := Lib.hid (show R = [] by rw [HSD.out,HOK2.out,hNA.out rfl];simp)
      obtain rfl := HRN.out
      clear hAL hNA HRN HSD HOK2
      go_wp2_with (go_at_call 116;refine KY.mono ?_;rintro e w1 ⟨rfl,q,rfl⟩)
      go_ret2
      exact ⟨⟨none,0,rfl,HNIL.out _⟩,bdN HBW.out _⟩
    ·obtain rfl : nb = k := by omega
     rw [List.take_of_length_le (by rw [HXL.out];exact Nat.le_refl _)] at hall
     have hbw := HB.out.trans (hb2.mono HB.out.size)
     have hnb := HB63.out
     have hfl : (headW x).length ≤ 512 := by rw [headW_length,HXL.out];omega
     have KH := whead_any A cA x wr (Lies.below (Lies.of_row HROW.out) (Nat.le_refl _) hb2) (by rw [HXL.out];exact hnb) (fun c hc => ⟨(HX.out c hc).1,Nat.le_of_eq (HX.out c hc).2⟩) (HTW.out.1.below HTW.out.2 hbw) (Nat.lt_of_lt_of_le HTW.out.2 hbw.size)
     have KN := fun w => noughts_any (512 - (headW x).length) (by omega) w
     rw [show ((512 - (headW x).length : Nat) : Int) = 512 - ((headW x).length : Int) by omega] at KN
     have hsum := run_sum (headW x) (List.replicate (512 - (headW x).length) 0) (by simp;omega)
     rw [show headW x ++ List.replicate (512 - (headW x).length) 0 = fullB (headW x) from rfl] at hsum
     have zd : (mk (headW x)).size = (headW x).length := mk_size _
     have hcmp : (H.toList == (mk (fullB (headW x))).toList) = (hd == fullB (headW x)) := by rw [← HE.out.2,mk_toList',mk_toList']
     rw [hall,Bool.true_and] at HOK2
     obtain ⟨F,hF⟩ : ∃ q,mk (fullB (headW x)) = q := ⟨_,rfl⟩
     obtain ⟨N,hN⟩ : ∃ q,mk (List.replicate (512 - (headW x).length) 0) = q := ⟨_,rfl⟩
     obtain ⟨Y,hY⟩ : ∃ q,mk (headW x) = q := ⟨_,rfl⟩
     obtain ⟨m,hm⟩ : ∃ q,(headW x).length = q := ⟨_,rfl⟩
     rw [hF,hN,hY] at hsum
     rw [hY,hm] at zd
     rw [hN,hm] at KN
     rw [hY,HXL.out] at KH
     rw [hF] at hcmp
     rw [hm] at hfl
     obtain ⟨o,hoo⟩ : ∃ o,(hd == fullB (headW x)) = o := ⟨_,rfl⟩
     rw [hoo] at HOK2 hcmp
     have m0 : (0 : Int) ≤ (m : Int) := by omega
     have m1 : (m : Int) ≤ 512 := by omega
     have HB2 := Lib.hid hb2
     have HBW := Lib.hid hbw
     clear hall hb2 hbw hnb hF hN hY hm hoo
     cases o with
     | true =>
      have HRN := Lib.hid (show R = x by rw [HSD.out,HOK2.out];simp)
      have HL := Lib.hid HXL.out
      obtain rfl := HRN.out
      clear HRN HSD HOK2
      go_wp2_with (first
       | (go_at_call 117;refine KH.mono ?_;rintro e w1 ⟨rfl,hb1⟩)
       | (go_at_call 103;refine (KN _).mono ?_;rintro e w2 ⟨rfl,hb2⟩))
      go_ret2
      have hba := HB2.out.trans (hb1.mono HB2.out.size) |>.trans (hb2.mono (Nat.le_trans HB2.out.size hb1.size))
      exact ⟨⟨A,cA,by rw [HL.out];rfl,by rw [HL.out];exact own_below HROW.out hba⟩,HB.out.trans (hba.mono HB.out.size)⟩
     | false =>
      have HRN := Lib.hid (show R = [] by rw [HSD.out,HOK2.out];simp)
      obtain rfl := HRN.out
      clear HRN HSD HOK2
      go_wp2_with (first
       | (go_at_call 117;refine KH.mono ?_;rintro e w1 ⟨rfl,hb1⟩)
       | (go_at_call 103;refine (KN _).mono ?_;rintro e w2 ⟨rfl,hb2⟩))
      go_ret2
      have hba := HB2.out.trans (hb1.mono HB2.out.size) |>.trans (hb2.mono (Nat.le_trans HB2.out.size hb1.size))
      exact ⟨⟨none,0,rfl,HNIL.out _⟩,HB.out.trans (hba.mono HB.out.size)⟩
open Go.RowKit
theorem saidB_bd (d : DS) (f s : Nat) (h : DGood d) (hf : f + s ≤ d.L.length) (hs : 2 ≤ s) : (saidB d.vis f s).length ≤ s - 1 ∧ ∀ c ∈ saidB d.vis f s,c.1 < d.L.length ∧ c.2.length ≤ 512 ∧ ownB f s c.1 = false := by
 unfold saidB
 split
 ·rename_i hok
  unfold saidOk at hok
  simp only [Bool.and_eq_true,decide_eq_true_eq] at hok
  obtain ⟨⟨⟨⟨_,h1⟩,h2⟩,h3⟩,_⟩ := hok
  refine ⟨by rw [saidX_length];exact h2,fun c hc => ?_⟩
  have h4 := List.all_eq_true.1 h3 c hc
  unfold mayB at h4
  rw [vis_length] at h4
  simp only [Bool.and_eq_true,decide_eq_true_eq,Bool.not_eq_true'] at h4
  refine ⟨h4.1, ?_,h4.2⟩
  unfold saidX at hc
  obtain ⟨i,hi,rfl⟩ := List.mem_map.1 hc
  have hi2 := List.mem_range.1 hi
  exact Nat.le_of_eq (vis_sec h _ (by omega))
 ·exact ⟨by simp,fun c hc => (by cases hc)⟩
theorem mk_log {w1 w2 w3 : World} {b D f s : Nat} {X X1 : List Nat} (h : WLog w1 b D f s) (hX : b ∉ X) {B : Nat} (hb : Below B w1 w2) (hm : Mv X X1 w2 w3) (hB : b < B := by first | exact Blk.lt ‹_› | simp) : WLog w3 b D f s ∧ b ∉ X1 := by
 have h2 : WLog w2 b D f s := (hb.block b hB).trans h
 exact ⟨hm.blk h2 hX,hm.apart hX (Blk.lt h2)⟩
def openC (x : List (Nat × Bs)) (f : Nat) : List Cmd := if x = [] then [] else (wrs x ++ [.sy]) ++ [.wr f [], .sy]
def OpenP (X : List Nat) (D : Nat) (ds : DS) (f s : Nat) (w : World) (e : Ending) (w' : World) : Prop :=
 ∃ X',Dsk w' X' D (DS.run (openC (saidB ds.vis f s) f) ds).2 ∧ Mv X X' w w' ∧
  ((DS.run (openC (saidB ds.vis f s) f) ds).1 = 0 → ∃ b n,e = .returned (.tuple #[.pointer (some ⟨b,0,none⟩), .int .i64 (n : Int), .int .i64 0]) ∧ w.heap.size ≤ b ∧ b ∉ X' ∧ WLog w' b D f s) ∧
  ((DS.run (openC (saidB ds.vis f s) f) ds).1 ≠ 0 → e = .returned (.tuple #[.pointer none, .int .i64 0, .int .i64 7]))
set_option maxRecDepth 100000 in
set_option maxHeartbeats 2000000 in
theorem open_any (X : List Nat) (D : Nat) (ds : DS) (f s : Nat) (w : World) (hD : Dsk w X D ds) (hf : f + s ≤ ds.L.length) (hs : 2 ≤ s) (hs2 : s ≤ 65) (ho : ds.off = false) (hS : ds.S.length ≤ 990000) (hT : TB w) (hw : 0 < w.heap.size) :
  Calls Tryz.prog 58 #[.pointer (some ⟨D,0,none⟩), .int .i64 f, .int .i64 s] w (OpenP X D ds f s w) := by
 have hsm := hD.good.small
 have KZ := fun w' (hb : Below w.heap.size w w') => size_any X D ds w' (hD.below hb)
 obtain ⟨hxl,hxc⟩ := saidB_bd ds f s hD.good hf hs
 have hbz := below_alloc w (.cells #[.pointer (some ⟨D,0,none⟩), .int .i64 f, .int .i64 s] 165)
 have hWL : WLog (w.alloc (.cells #[.pointer (some ⟨D,0,none⟩), .int .i64 f, .int .i64 s] 165)) w.heap.size D f s := Blk.new w _ 165
 have hD1 := hD.below hbz
 have KSD := said_any X D ds w.heap.size f s _ hD1 hWL hf hs hs2 ho (hT.below hw hbz) (by simp)
 have hbX : w.heap.size ∉ X := fun h => by have := hD.lt _ h;omega
 have KMK := fun (A : Option Addr) (cap : Nat) (w1 : World) (hb : Below (w.heap.size + 1) (w.alloc (.cells #[.pointer (some ⟨D,0,none⟩), .int .i64 f, .int .i64 s] 165)) w1) (hr : w1.ownsRow (w.heap.size + 1) 156 2 (.slice A (saidB ds.vis f s).length cap) (saidB ds.vis f s).length (scells (saidB ds.vis f s))) =>
  make_any X D ds w.heap.size f s A cap (saidB ds.vis f s) w1 (hD1.below (by simpa using hb)) (Blk.below hWL (by simpa using hb)) hbX (Lies.of_row hr) (fun a ha hx => by
   have h1 := hD.lt _ hx
   rcases hr.2 with ⟨hv,_⟩ | ⟨g,c',cur,hv,hg,_⟩
   ·rw [ha] at hv;cases hv
   ·rw [ha] at hv
    simp only [Value.slice.injEq,Option.some.injEq] at hv
    rw [hv.1] at h1
    simp only at h1
    omega) (fun c hc => ⟨(hxc c hc).1,(hxc c hc).2.1⟩) (by omega) (by omega)
 have hms := run_len (wrs (saidB ds.vis f s) ++ [.sy]) ds
 rw [List.length_append,wrs_length] at hms
 have KSY := fun (X1 : List Nat) (w1 : World) (hD2 : Dsk w1 X1 D (DS.run (wrs (saidB ds.vis f s) ++ [.sy]) ds).2) (hW : WLog w1 w.heap.size D f s) (hb : w.heap.size ∉ X1) =>
  say_any X1 D _ w.heap.size f s [] w1 hD2 hW hb (by rw [hms.1];omega) (by simp) (by have := hms.2;simp at this;omega)
 rw [show mk [] = ⟨#[]⟩ from rfl] at KSY
 have hop : DS.run (openC (saidB ds.vis f s) f) ds = if saidB ds.vis f s = [] then (0,ds) else if (DS.run (wrs (saidB ds.vis f s) ++ [.sy]) ds).1 = 0 then DS.run [.wr f [], .sy] (DS.run (wrs (saidB ds.vis f s) ++ [.sy]) ds).2 else DS.run (wrs (saidB ds.vis f s) ++ [.sy]) ds := by
  unfold openC
  split
  ·rfl
  ·rw [run_append]
 have hn1 := run_num (wrs (saidB ds.vis f s) ++ [.sy]) ds
 unfold OpenP
 obtain ⟨R,hR⟩ : ∃ q,DS.run (openC (saidB ds.vis f s) f) ds = q := ⟨_,rfl⟩
 rw [hR] at hop ⊢
 obtain ⟨r1,hr1⟩ : ∃ q,DS.run (wrs (saidB ds.vis f s) ++ [.sy]) ds = q := ⟨_,rfl⟩
 rw [hr1] at hop hn1
 simp only [hr1] at KMK KSY
 obtain ⟨n1,d2⟩ := r1
 dsimp only at KMK KSY hop hn1
 have hn2 := run_num [.wr f [], .sy] d2
 obtain ⟨r2,hr2⟩ : ∃ q,DS.run [.wr f [], .sy] d2 = q := ⟨_,rfl⟩
 simp only [hr2] at KSY
 rw [hr2] at hop hn2
 obtain ⟨n2,d3⟩ := r2
 dsimp only at KSY hn2
 obtain ⟨x,hx⟩ : ∃ q,saidB ds.vis f s = q := ⟨_,rfl⟩
 rw [hx] at hop KSD hxl
 simp only [hx] at KMK
 have HXX := Lib.hid (show x.length = 0 → x = [] from List.eq_nil_of_length_eq_zero)
 have HXN := Lib.hid (show x.length ≠ 0 → x ≠ [] from fun h e => h (by rw [e];rfl))
 obtain ⟨m,hm⟩ : ∃ q,x.length = q := ⟨_,rfl⟩
 rw [hm] at KSD HXX HXN
 simp only [World.size_alloc] at KSD
 simp only [hm] at KMK
 have HD := Lib.hid hD
 have HWL := Lib.hid hWL
 have HBX := Lib.hid hbX
 have hsl : ds.L.length ≤ 4096 := hsm
 obtain ⟨n,hn⟩ : ∃ q,ds.L.length = q := ⟨_,rfl⟩
 rw [hn] at KZ hsl hf
 have f0 : (0 : Int) ≤ (f : Int) := by omega
 have f0n : ¬ ((f : Int) < 0) := by omega
 have s0 : ¬ ((s : Int) < 2) := by omega
 have s1 : ¬ ((65 : Int) < (s : Int)) := by omega
 have f1 : ¬ ((n : Int) < (f : Int)) := by omega
 have f1n : ¬ (n < f) := by omega
 have f2 : ¬ ((n : Int) - (f : Int) < (s : Int)) := by omega
 have f3 : (f : Int) ≤ 4096 := by omega
 have f4 : (n : Int) ≤ 4096 := by omega
 have m63 : m ≤ 64 := by rw [← hm];omega
 have hbz1 := Lib.hid hbz
 have KZ0 := KZ w (Below.refl _ _)
 clear hD hD1 hWL hbX hbz hR hr1 hr2 hx hm hn hf hs hs2 ho hS hT hw hxc hms hsm hxl
 by_cases hx0 : m = 0
 ·have HR := Lib.hid (show R = (0,ds) by rw [hop,if_pos (HXX.out hx0)])
  obtain rfl := HR.out
  subst hx0
  clear hop KMK KSY hn1 hn2 HR HXX HXN
  go_enter Tryz.func58,Tryz.ntmps58
  go_wp2_with (first
   | (go_at_call 53;refine KZ0.mono ?_;rintro e w1 ⟨rfl,hw⟩;obtain rfl := hw.symm)
   | (go_at_call 96;refine KSD.mono ?_;rintro e w2 ⟨⟨A,c,rfl,hr⟩,hb⟩;have HB := Lib.hid hb;clear hb hr))
  go_ret3
  have hba := hbz1.out.trans (HB.out.mono (by simp))
  exact ⟨X,HD.out.below hba,Mv.of_below X hba,fun _ => ⟨w.heap.size,0,rfl,Nat.le_refl _,HBX.out,Blk.below HWL.out (by simpa using HB.out)⟩,fun h => absurd rfl h⟩
 ·have m0 : (0 : Int) < (m : Int) := by omega
  have m0n : 0 < m := by omega
  rw [if_neg (HXN.out hx0)] at hop
  clear HXX HXN hx0
  rcases hn1 with rfl | rfl
  ·rw [if_pos rfl] at hop
   subst hop
   rcases hn2 with rfl | rfl
   ·
    go_enter Tryz.func58,Tryz.ntmps58
    go_wp2_with (first
     | (go_at_call 53;refine KZ0.mono ?_;rintro e w1 ⟨rfl,hw⟩;obtain rfl := hw.symm)
     | (go_at_call 96;refine KSD.mono ?_;rintro e w2 ⟨⟨A,c,rfl,hr⟩,hb⟩;have K97 := KMK A c w2 hb hr;have HB := Lib.hid hb;clear hb hr KMK KSD)
     | (go_at_call 97;refine K97.mono ?_;rintro e w3 ⟨rfl,X1,hD2,hM2⟩;have HB97 := Lib.hid (mk_log HWL.out HBX.out HB.out hM2);have HM2 := Lib.hid hM2;have HD2 := Lib.hid hD2;have K98 := KSY X1 w3 hD2 HB97.out.1 HB97.out.2;clear hM2 hD2 K97 KSY)
     | (go_at_call 98;refine K98.mono ?_;rintro e w4 ⟨rfl,X2,hD3,hM3⟩;have HM3 := Lib.hid hM3;have HD3 := Lib.hid hD3;clear hM3 hD3 K98))
    go_ret3
    have hba := (hbz1.out.trans (HB.out.mono (by simp)))
    have hlog := mk_log HB97.out.1 HB97.out.2 (Below.refl _ _) HM3.out
    exact ⟨X2,HD3.out,(Mv.of_below X hba).trans (HM2.out.trans HM3.out),fun _ => ⟨w.heap.size,m,rfl,Nat.le_refl _,hlog.2,hlog.1⟩,fun h => absurd rfl h⟩
   ·
    go_enter Tryz.func58,Tryz.ntmps58
    go_wp2_with (first
     | (go_at_call 53;refine KZ0.mono ?_;rintro e w1 ⟨rfl,hw⟩;obtain rfl := hw.symm)
     | (go_at_call 96;refine KSD.mono ?_;rintro e w2 ⟨⟨A,c,rfl,hr⟩,hb⟩;have K97 := KMK A c w2 hb hr;have HB := Lib.hid hb;clear hb hr KMK KSD)
     | (go_at_call 97;refine K97.mono ?_;rintro e w3 ⟨rfl,X1,hD2,hM2⟩;have HB97 := Lib.hid (mk_log HWL.out HBX.out HB.out hM2);have HM2 := Lib.hid hM2;have HD2 := Lib.hid hD2;have K98 := KSY X1 w3 hD2 HB97.out.1 HB97.out.2;clear hM2 hD2 K97 KSY)
     | (go_at_call 98;refine K98.mono ?_;rintro e w4 ⟨rfl,X2,hD3,hM3⟩;have HM3 := Lib.hid hM3;have HD3 := Lib.hid hD3;clear hM3 hD3 K98))
    go_ret3
    have hba := (hbz1.out.trans (HB.out.mono (by simp)))
    exact ⟨X2,HD3.out,(Mv.of_below X hba).trans (HM2.out.trans HM3.out),(fun h => by cases h),fun _ => rfl⟩
  ·rw [if_neg (by decide)] at hop
   subst hop
   go_enter Tryz.func58,Tryz.ntmps58
   go_wp2_with (first
    | (go_at_call 53;refine KZ0.mono ?_;rintro e w1 ⟨rfl,hw⟩;obtain rfl := hw.symm)
    | (go_at_call 96;refine KSD.mono ?_;rintro e w2 ⟨⟨A,c,rfl,hr⟩,hb⟩;have K97 := KMK A c w2 hb hr;have HB := Lib.hid hb;clear hb hr KMK KSD)
    | (go_at_call 97;refine K97.mono ?_;rintro e w3 ⟨rfl,X1,hD2,hM2⟩;have HB97 := Lib.hid (mk_log HWL.out HBX.out HB.out hM2);have HM2 := Lib.hid hM2;have HD2 := Lib.hid hD2;have K98 := KSY X1 w3 hD2 HB97.out.1 HB97.out.2;clear hM2 hD2 K97 KSY)
    | (go_at_call 98;refine K98.mono ?_;rintro e w4 ⟨rfl,X2,hD3,hM3⟩;have HM3 := Lib.hid hM3;have HD3 := Lib.hid hD3;clear hM3 hD3 K98))
   go_ret3
   have hba := (hbz1.out.trans (HB.out.mono (by simp)))
   exact ⟨X1,HD2.out,(Mv.of_below X hba).trans HM2.out,(fun h => by cases h),fun _ => rfl⟩
open Go.RowKit
def imgs (x : List (Nat × Bs)) (f : Nat) : List (Nat × Bs) := x.zipIdx.map fun c => (f + 1 + c.2,c.1.2)
theorem imgs_length (x : List (Nat × Bs)) (f : Nat) : (imgs x f).length = x.length := by simp [imgs]
theorem imgs_at (x : List (Nat × Bs)) (f k : Nat) (h : k < x.length) (h2 : k < (imgs x f).length) : (imgs x f)[k] = (f + 1 + k,x[k].2) := by simp [imgs]
def commitC (x : List (Nat × Bs)) (f : Nat) : List Cmd := (wrs (imgs x f) ++ [.sy]) ++ ([.wr f (headW x), .sy] ++ ((wrs x ++ [.sy]) ++ [.wr f [], .sy]))
def RunP (l : List Cmd) (X : List Nat) (D : Nat) (ds : DS) (w : World) (e : Ending) (w' : World) : Prop :=
 e = .returned (.int .i64 ((DS.run l ds).1 : Nat)) ∧ ∃ X',Dsk w' X' D (DS.run l ds).2 ∧ Mv X X' w w'
theorem TB.mv {w w' : World} {X Y : List Nat} (h : TB w) (hm : Mv X Y w w') (hw : 0 < w.heap.size) (h0 : 0 ∉ X) : TB w' ∧ 0 < w'.heap.size ∧ 0 ∉ Y :=
 ⟨fun k hk => (hm.frm.cell (p := ⟨0,k,none⟩) hw h0).trans (h k hk),Nat.lt_of_lt_of_le hw hm.size,hm.apart h0 hw⟩
set_option maxRecDepth 100000 in
set_option maxHeartbeats 4000000 in
theorem commit_any (X : List Nat) (D : Nat) (ds : DS) (b f s : Nat) (A : Option Addr) (cap : Nat) (x : List (Nat × Bs)) (w : World) (hD : Dsk w X D ds) (hW : WLog w b D f s) (hb : b ∉ X) (hA : Lies w A (scells x)) (hAX : ∀ a,A = some a → a.block ∉ X)
  (hx : ∀ c ∈ x,mayB ds.L.length f s c.1 = true ∧ c.2.length ≤ 512) (hn : x.length ≤ 64) (hn1 : 1 ≤ x.length) (hns : x.length < s) (hf : f + s ≤ ds.L.length) (hS : ds.S.length ≤ 980000) (hT : TB w) (hw : 0 < w.heap.size) (h0X : 0 ∉ X) :
  Calls Tryz.prog 90 #[.pointer (some ⟨b,0,none⟩), .slice A x.length cap] w (RunP (commitC x f) X D ds w) := by
 have hsm := hD.good.small
 have hxm : ∀ c ∈ x,c.1 < ds.L.length ∧ c.2.length ≤ 512 := fun c hc => by
  have := (hx c hc).1
  unfold mayB at this
  simp only [Bool.and_eq_true,decide_eq_true_eq] at this
  exact ⟨this.1,(hx c hc).2⟩
 have hwrs := run_len (wrs (imgs x f)) ds
 rw [wrs_length,imgs_length] at hwrs
 unfold RunP
 have hcm : DS.run (commitC x f) ds = if (DS.run (wrs (imgs x f) ++ [.sy]) ds).1 = 0 then (if (DS.run [.wr f (headW x), .sy] (DS.run (wrs (imgs x f) ++ [.sy]) ds).2).1 = 0 then (if (DS.run (wrs x ++ [.sy]) (DS.run [.wr f (headW x), .sy] (DS.run (wrs (imgs x f) ++ [.sy]) ds).2).2).1 = 0 then DS.run [.wr f [], .sy] (DS.run (wrs x ++ [.sy]) (DS.run [.wr f (headW x), .sy] (DS.run (wrs (imgs x f) ++ [.sy]) ds).2).2).2 else DS.run (wrs x ++ [.sy]) (DS.run [.wr f (headW x), .sy] (DS.run (wrs (imgs x f) ++ [.sy]) ds).2).2) else DS.run [.wr f (headW x), .sy] (DS.run (wrs (imgs x f) ++ [.sy]) ds).2) else DS.run (wrs (imgs x f) ++ [.sy]) ds := by
  unfold commitC
  rw [run_append (wrs (imgs x f) ++ [Cmd.sy]) _ ds,run_append [Cmd.wr f (headW x),Cmd.sy],run_append (wrs x ++ [Cmd.sy])]
 have HNX := Lib.hid (fun k hk h0 => wrs_next (imgs x f) [.sy] ds k hk h0)
 have HAL := Lib.hid (wrs_all (imgs x f) ds)
 have HLN := Lib.hid (fun k => wrs_len (imgs x f) k ds)
 have hl1 := run_len (wrs (imgs x f) ++ [.sy]) ds
 rw [List.length_append,wrs_length,imgs_length] at hl1
 have hl2 := run_len [.wr f (headW x), .sy] (DS.run (wrs (imgs x f) ++ [.sy]) ds).2
 have hl3 := run_len (wrs x ++ [.sy]) (DS.run [.wr f (headW x), .sy] (DS.run (wrs (imgs x f) ++ [.sy]) ds).2).2
 rw [List.length_append,wrs_length] at hl3
 simp only [List.length_cons,List.length_nil] at hl1 hl2 hl3
 have hn2 := run_num (wrs (imgs x f) ++ [.sy]) ds
 have hfl : (headW x).length ≤ 512 := by rw [headW_length];omega
 have KSAY := fun (X1 : List Nat) (w1 : World) hD1 hW1 hb1 => say_any X1 D (DS.run (wrs (imgs x f) ++ [.sy]) ds).2 b f s (headW x) w1 hD1 hW1 hb1 (by rw [hl1.1];omega) hfl (by omega)
 have KMAKE := fun (X1 : List Nat) (w1 : World) hD1 hW1 hb1 hA1 hX1 => make_any X1 D (DS.run [.wr f (headW x), .sy] (DS.run (wrs (imgs x f) ++ [.sy]) ds).2).2 b f s A cap x w1 hD1 hW1 hb1 hA1 hX1 (fun c hc => by rw [hl2.1,hl1.1];exact hxm c hc) hn (by omega)
 have KEND := fun (X1 : List Nat) (w1 : World) hD1 hW1 hb1 => say_any X1 D (DS.run (wrs x ++ [.sy]) (DS.run [.wr f (headW x), .sy] (DS.run (wrs (imgs x f) ++ [.sy]) ds).2).2).2 b f s [] w1 hD1 hW1 hb1 (by rw [hl3.1,hl2.1,hl1.1];omega) (by simp) (by omega)
 rw [show mk [] = ⟨#[]⟩ from rfl] at KEND
 obtain ⟨R,hR⟩ : ∃ q,DS.run (commitC x f) ds = q := ⟨_,rfl⟩
 rw [hR] at hcm ⊢
 obtain ⟨r1,hr1⟩ : ∃ q,DS.run (wrs (imgs x f) ++ [.sy]) ds = q := ⟨_,rfl⟩
 rw [hr1] at hcm hn2 HNX HAL
 simp only [hr1] at KSAY KMAKE KEND
 obtain ⟨n1,d1⟩ := r1
 dsimp only at KSAY KMAKE KEND hcm hn2
 have hn3 := run_num [.wr f (headW x), .sy] d1
 obtain ⟨r2,hr2⟩ : ∃ q,DS.run [.wr f (headW x), .sy] d1 = q := ⟨_,rfl⟩
 rw [hr2] at hcm hn3
 simp only [hr2] at KSAY KMAKE KEND
 obtain ⟨n2,d2⟩ := r2
 dsimp only at KSAY KMAKE KEND hcm hn3
 have hn4 := run_num (wrs x ++ [.sy]) d2
 obtain ⟨r3,hr3⟩ : ∃ q,DS.run (wrs x ++ [.sy]) d2 = q := ⟨_,rfl⟩
 rw [hr3] at hcm hn4
 simp only [hr3] at KMAKE KEND
 obtain ⟨n3,d3⟩ := r3
 dsimp only at KMAKE KEND hcm hn4
 obtain ⟨r4,hr4⟩ : ∃ q,DS.run [.wr f [], .sy] d3 = q := ⟨_,rfl⟩
 rw [hr4] at hcm
 simp only [hr4] at KEND
 obtain ⟨n4,d4⟩ := r4
 dsimp only at KEND
 have HX := Lib.hid hx
 have HXM := Lib.hid hxm
 have HSZ := Lib.hid (And.intro hn hf)
 have HSL := Lib.hid hS
 have KH := fun (w1 : World) (hA1 : Lies w1 A (scells x)) (hT1 : TB w1) (hw1 : 0 < w1.heap.size) => whead_any A cap x w1 hA1 hn (fun c hc => ⟨by have := (hxm c hc).1;omega,(hxm c hc).2⟩) hT1 hw1
 obtain ⟨HS,hHS⟩ : ∃ q,mk (headW x) = q := ⟨_,rfl⟩
 simp only [hHS] at KH KSAY
 have HA := Lib.hid (And.intro hA hAX)
 have HWB := Lib.hid (And.intro hW hb)
 have HD := Lib.hid hD
 have HTW := Lib.hid (And.intro hT (And.intro hw h0X))
 have KMO := most_any b D f s w hW (by omega)
 obtain ⟨s1,hs1⟩ : ∃ q,s - 1 = q := ⟨_,rfl⟩
 rw [hs1] at KMO
 obtain ⟨n,hnn⟩ : ∃ q,x.length = q := ⟨_,rfl⟩
 rw [hnn] at hn hn1 hns
 simp only [hnn] at KMAKE KH
 rw [hnn]
 have HN := Lib.hid hnn
 have b0 : ¬ ((s1 : Int) < (n : Int)) := by omega
 have b0n : ¬ (s1 < n) := by omega
 have b1 : ¬ ((n : Int) = 0) := by omega
 have b1b : ((n : Int) == 0) = false := by simp;omega
 have b2 : ¬ (n = 0) := by omega
 have hfb : f ≤ 5000 := by omega
 have hsb : s ≤ 5000 := by omega
 have mixed := mixedT
 clear hD hW hb hA hAX hx hxm hf hS hT hw h0X hsm hwrs hl1 hl2 hl3 hfl hR hr1 hr2 hr3 hr4 hHS hs1 hnn
 go_enter Tryz.func90,Tryz.ntmps90
 go_wp2_with (go_at_call 115;refine KMO.mono ?_;rintro e w1 ⟨rfl,hw⟩;obtain rfl := hw.symm)
 go_loopw [29] (fun i wr => ∃ k : Nat,k ≤ n ∧ i = .int .i64 k ∧ Below w.heap.size w wr) (fun i _ => n - (intOf i).toNat)
 case atStart => exact ⟨0,Nat.zero_le _,rfl,Below.refl _ _⟩
 case round =>
  obtain ⟨k,hk,rfl,hb⟩ := hrel
  by_cases hlt : k < n
  ·have hkl : k < x.length := by rw [HN.out];exact hlt
   obtain ⟨g,off,rfl,hgl,hcs⟩ := HA.out.1 (by rw [scells_length];omega)
   obtain ⟨s0,s1'⟩ := scells_at x k hkl
   have d0 := (hb.cell (p := ⟨g,off + k * 2,none⟩) hgl).trans (hcs _ _ s0)
   have d1' := (hb.cell (p := ⟨g,off + (k * 2 + 1),none⟩) hgl).trans (hcs _ _ s1')
   have hgr : g < wr.heap.size := Nat.lt_of_lt_of_le hgl hb.size
   obtain ⟨hm,hq⟩ := HX.out x[k] (List.getElem_mem hkl)
   obtain ⟨z,hz⟩ : ∃ z,x[k].1 = z := ⟨_,rfl⟩
   obtain ⟨y,hy⟩ : ∃ z,x[k].2 = z := ⟨_,rfl⟩
   rw [hz] at d0 hm
   rw [hy, ← Nat.add_assoc] at d1'
   rw [hy] at hq
   have zy := mk_size y
   obtain ⟨Y,hY⟩ : ∃ z,mk y = z := ⟨_,rfl⟩
   obtain ⟨yl,hyl⟩ : ∃ z,y.length = z := ⟨_,rfl⟩
   rw [hY,hyl] at zy
   rw [hY] at d1'
   rw [hyl] at hq
   have hbw2 := hb.alloc hb.size (.cells #[.int .i64 z, .string Y] 156)
   have KY := may_any X D ds b f s z (wr.alloc (.cells #[.int .i64 z, .string Y] 156)) (HD.out.below hbw2) (HWB.out.1.below hbw2) (by omega) (by omega)
   rw [hm] at KY
   have hqq : ¬ ((512 : Int) < (yl : Int)) := by omega
   have hqn : ¬ (512 < yl) := by omega
   have HBW := Lib.hid hbw2
   have k0 : (0 : Int) ≤ (k : Int) := by omega
   have k1 : (k : Int) < (n : Int) := by omega
   clear hb hbw2 hcs hz hy hY hyl s0 s1' hm hq hkl
   go_wp2_with (go_at_call 116;refine KY.mono ?_;rintro e w1 ⟨rfl,q,rfl⟩)
   go_roundw
   case rel => exact ⟨k + 1,by omega,by go_num,bdN HBW.out _⟩
   case measure => simp [intOf];omega
  ·obtain rfl : n = k := by omega
   have HB0 := Lib.hid hb
   clear hb hlt
   rename World => wA
   go_wp2
   go_loopw [47] (fun i wr => ∃ k : Nat,k ≤ n ∧ i = .int .i64 k ∧ (DS.run (wrs ((imgs x f).take k)) ds).1 = 0 ∧ ∃ X',Dsk wr X' D (DS.run (wrs ((imgs x f).take k)) ds).2 ∧ Mv X X' w wr) (fun i _ => n - (intOf i).toNat)
   case atStart => exact ⟨0,Nat.zero_le _,rfl,rfl,X,HD.out.below HB0.out,Mv.of_below _ HB0.out⟩
   case round =>
    obtain ⟨k,hk,rfl,h0,X1,hD1,hM1⟩ := hrel
    by_cases hlt : k < n
    ·have hkl : k < x.length := by rw [HN.out];exact hlt
     have hki : k < (imgs x f).length := by rw [imgs_length];exact hkl
     have hat := imgs_at x f k hkl hki
     obtain ⟨g,off,rfl,hgl,hcs⟩ := HA.out.1 (by rw [scells_length];omega)
     obtain ⟨s0,s1'⟩ := scells_at x k hkl
     have hgX : g ∉ X := HA.out.2 _ rfl
     have d0 := (hM1.frm.cell (p := ⟨g,off + k * 2,none⟩) hgl hgX).trans (hcs _ _ s0)
     have d1' := (hM1.frm.cell (p := ⟨g,off + (k * 2 + 1),none⟩) hgl hgX).trans (hcs _ _ s1')
     have hgr : g < wr.heap.size := Nat.lt_of_lt_of_le hgl hM1.size
     have hq := (HX.out x[k] (List.getElem_mem hkl)).2
     obtain ⟨hnx,hst⟩ := HNX.out k hki h0
     obtain ⟨hl1,hl2⟩ := HLN.out k
     rw [hat] at hnx hst
     have HRK := Lib.hid hnx
     have HST := Lib.hid hst
     obtain ⟨dk,hdk⟩ : ∃ q,(DS.run (wrs ((imgs x f).take k)) ds).2 = q := ⟨_,rfl⟩
     rw [hdk] at hD1 HRK HST hl1 hl2
     obtain ⟨z,hz⟩ : ∃ z,x[k].1 = z := ⟨_,rfl⟩
     obtain ⟨y,hy⟩ : ∃ z,x[k].2 = z := ⟨_,rfl⟩
     rw [hz] at d0
     rw [hy, ← Nat.add_assoc] at d1'
     rw [hy] at hq HRK HST
     dsimp only at HRK HST
     have hW1 := hM1.blk HWB.out.1 HWB.out.2
     have hbX1 := hM1.apart HWB.out.2 (Blk.lt HWB.out.1)
     have hnum := write_num dk (f + 1 + k) y
     obtain ⟨Y,hY⟩ : ∃ q,mk y = q := ⟨_,rfl⟩
     rw [hY] at d1'
     have hD2 := (hD1.below (below_alloc wr (.cells #[.int .i64 z, .string Y] 156))).drew
     have hsz := HSZ.out
     have hsl := HSL.out
     have KW := write_any X1 D dk (f + 1 + k) y _ hD2 (by omega) hq (by omega)
     rw [hY,show ((f + 1 + k : Nat) : Int) = (f : Int) + 1 + (k : Int) by omega] at KW
     obtain ⟨d1p,hd1p⟩ : ∃ q,dk.write (f + 1 + k) y = q := ⟨_,rfl⟩
     rw [hd1p] at KW hnum HRK HST
     obtain ⟨num,dn⟩ := d1p
     dsimp only at KW hnum HST
     have HM1 := Lib.hid hM1
     have HLT := Lib.hid hD1.lt
     have k0 : (0 : Int) ≤ (k : Int) := by omega
     have k1 : (k : Int) < (n : Int) := by omega
     have w1 : IntKind.i64.wrap ((f : Int) + 1) = (f : Int) + 1 := by rw [Go.IntWalk.i64_left,Go.IntWalk.wrap64_in _ (by omega)]
     have w2 : IntKind.i64.wrap ((f : Int) + 1 + (k : Int)) = (f : Int) + 1 + (k : Int) := by rw [Go.IntWalk.i64_left,Go.IntWalk.wrap64_in _ (by omega)]
     have HW1 := Lib.hid w1
     have HW2 := Lib.hid w2
     clear hnx hst hdk hz hy hD1 hM1 hcs s0 s1' hq hl1 hl2 hY hD2 hd1p h0 hgX hkl hki hat hsz hsl w1 w2
     go_wp2
     have hW2 : WLog (wr.alloc (.cells #[.int .i64 z, .string Y] 156)).drew b D f s := Blk.alloc hW1 _
     have hZ1 := Blk.new wr #[.int .i64 z, .string Y] 156
     have hA2 := ((below_alloc wr (.cells #[.int .i64 z, .string Y] 156))).drew
     obtain ⟨V,hV⟩ : ∃ V,wr.heap.size = V := ⟨_,rfl⟩
     rw [hV] at hZ1
     simp only [hV]
     refine wp_region_held (S := fun w' => WLog w' b D f s ∧ Blk w' V #[.int .i64 z, .string Y] 156) mixed ?_
     change wpAnyH _ _ _ _ _ _ _ _ (wr.alloc (.cells #[.int .i64 z, .string Y] 156)).drew
     have hZ2 : Blk (wr.alloc (.cells #[.int .i64 z, .string Y] 156)).drew V _ 156 := hZ1
     obtain ⟨W,hWW⟩ : ∃ u,(wr.alloc (.cells #[.int .i64 z, .string Y] 156)).drew = u := ⟨_,rfl⟩
     rw [hWW] at hZ2 hA2 hW2 KW ⊢
     have HV := Lib.hid hV
     have hVX : V ∉ X1 := fun hx => by have := HLT.out V hx;have := HV.out;omega
     clear hWW hZ1 d0 d1' hV
     have hS0 := And.intro hW2 hZ2
     refine tkQ 0 (.pointer (some ⟨b,0,none⟩)) rfl hS0 ?_
     try go_simp
     refine tkQ 1 (.pointer (some ⟨b,0,none⟩)) rfl hS0 ?_
     try go_simp
     refine tkQ 2 (.pointer (some ⟨b,0,none⟩)) rfl hS0 ?_
     try go_simp
     refine tkH 3 (.pointer (some ⟨D,0,none⟩)) rfl hS0 (fun w' hS => ?_) ?_
     ·have q0 := Blk.cell hS.1 0;simp at q0;go_simp
     try go_simp
     refine tkQ 4 (.pointer (some ⟨b,0,none⟩)) rfl hS0 ?_
     try go_simp
     refine tkQ 5 (.pointer (some ⟨b,0,none⟩)) rfl hS0 ?_
     try go_simp
     refine tkQ 6 (.pointer (some ⟨b,1,none⟩)) rfl hS0 ?_
     try go_simp
     refine tkH 7 (.int .i64 (f : Int)) rfl hS0 (fun w' hS => ?_) ?_
     ·have q0 := Blk.cell hS.1 1;simp at q0;go_simp
     try go_simp
     refine tkH 8 (.int .i64 ((f : Int) + 1)) rfl hS0 (fun w' hS => ?_) ?_
     ·clear hS;have w1 := HW1.out;go_simp
     try go_simp
     refine tkQ 9 (.int .i64 (k : Int)) rfl hS0 ?_
     try go_simp
     refine tkH 10 (.int .i64 ((f : Int) + 1 + (k : Int))) rfl hS0 (fun w' hS => ?_) ?_
     ·clear hS;have w2 := HW2.out;go_simp
     try go_simp
     refine tkQ 11 (.pointer (some ⟨V,1,none⟩)) rfl hS0 ?_
     try go_simp
     refine tkH 12 (.string Y) rfl hS0 (fun w' hS => ?_) ?_
     ·have q0 := Blk.cell hS.2 1;simp at q0;go_simp
     try go_simp
     refine alH 13 ?_
     unfold wpOp
     go_simp
     refine .inl ?_
     go_at_call 56
     refine KW.mono ?_
     rintro e W1 ⟨rfl,X2,hD3,hM2⟩
     have hS1 : WLog W1 b D f s ∧ Blk W1 V #[.int .i64 z, .string Y] 156 := ⟨hM2.blk hW2 hbX1,hM2.blk hZ2 hVX⟩
     refine ⟨hS1, ?_⟩
     rcases hnum with rfl | rfl
     ·
      refine tkQ 14 (.int .i64 0) rfl hS1 ?_
      try go_simp
      refine wpAnyH_done (by kernel_rfl) ?_ _
      have HD3 := Lib.hid hD3
      have HMF := Lib.hid (HM1.out.trans ((Mv.of_below X1 hA2).trans hM2))
      clear hW2 hZ2 hS0 hS1 hD3 hM2 hA2 KW hW1 hVX HST
      go_wp2
      go_roundw
      case rel => exact ⟨k + 1,by omega,by go_num,by rw [HRK.out],X2,by rw [HRK.out];exact HD3.out,HMF.out⟩
      case measure => simp [intOf];omega
     ·
      refine tkQ 14 (.int .i64 7) rfl hS1 ?_
      try go_simp
      refine wpAnyH_done (by kernel_rfl) ?_ _
      have HD3 := Lib.hid hD3
      have HMF := Lib.hid (HM1.out.trans ((Mv.of_below X1 hA2).trans hM2))
      have h7 := HST.out (by decide)
      injection h7 with h71 h72
      subst h71 h72
      rw [if_neg (by decide)] at hcm
      subst hcm
      clear hW2 hZ2 hS0 hS1 hD3 hM2 hA2 KW hW1 hVX HST
      go_wp2
      go_ret
      exact ⟨rfl,X2,HD3.out,HMF.out⟩
    ·obtain rfl : n = k := by omega
     have hil : (imgs x f).length = n := by rw [imgs_length];exact HN.out
     have hal := HAL.out (by rw [hil];exact h0)
     rw [hil] at hal
     obtain ⟨dk,hdk⟩ : ∃ q,(DS.run (wrs ((imgs x f).take n)) ds).2 = q := ⟨_,rfl⟩
     rw [hdk] at hD1 hal
     have KS := sync_any X1 D dk wr hD1
     rw [← hal] at KS
     dsimp only at KS
     have hW1 := hM1.blk HWB.out.1 HWB.out.2
     have hbX1 := hM1.apart HWB.out.2 (Blk.lt HWB.out.1)
     have hbl := Blk.lt hW1
     have hLA := hM1.lies HA.out.1 HA.out.2
     have hAX1 : ∀ a,A = some a → a.block ∉ X1 ∧ a.block < wr.heap.size := fun a ha => by
      obtain ⟨g,o,hA,hg,_⟩ := HA.out.1 (by rw [scells_length,HN.out];omega)
      rw [ha] at hA
      cases hA
      exact ⟨hM1.apart (HA.out.2 _ ha) hg,Nat.lt_of_lt_of_le hg hM1.size⟩
     have x0 := Blk.cell hW1 0
     simp at x0
     have HM := Lib.hid hM1
     have HW1 := Lib.hid (And.intro hW1 hbX1)
     have HLA := Lib.hid (And.intro hLA hAX1)
     clear hM1 hD1 hW1 hbX1 hLA hAX1 hal hdk h0 hil HNX HAL HLN
     rcases hn2 with rfl | rfl
     case inr =>
      rw [if_neg (by decide)] at hcm
      subst hcm
      go_wp2_with (go_at_call 57;refine KS.mono ?_;rintro e W2 ⟨rfl,hD2,hF2⟩)
      go_ret
      exact ⟨rfl,X1,hD2,HM.out.trans (.of_frm hF2)⟩
     rw [if_pos rfl] at hcm
     go_upto_region 19 with (go_at_call 57;refine KS.mono ?_;rintro e W2 ⟨rfl,hD2,hF2⟩)
     have hMF := HM.out.trans (.of_frm hF2)
     have hT2 := HTW.out.1.mv hMF HTW.out.2.1 HTW.out.2.2
     have hm2 : Mv X1 X1 wr W2 := .of_frm hF2
     have hLA2 := hm2.lies HLA.out.1 (fun a ha => (HLA.out.2 a ha).1)
     have K117 := KH W2 hLA2 hT2.1 hT2.2.1
     have HW2 := Lib.hid (And.intro (show WLog W2 b D f s from hm2.blk HW1.out.1 HW1.out.2) HW1.out.2)
     have K98 := fun (w3 : World) (hb3 : Below W2.heap.size W2 w3) => KSAY X1 w3 (hD2.below hb3) (Blk.below HW2.out.1 hb3) HW2.out.2
     have HSZ2 := Lib.hid hm2.size
     have HMF := Lib.hid hMF
     have HLA2 := Lib.hid hLA2
     clear hMF hT2 hm2 hLA2 hD2 hF2 KH KSAY KS
     rcases hn3 with rfl | rfl
     case inr =>
      rw [if_neg (by decide)] at hcm
      subst hcm
      go_wp2_with (first
       | (go_at_call 117;refine K117.mono ?_;rintro e w3 ⟨rfl,hb3⟩;have K := K98 w3 hb3;have HB3 := Lib.hid hb3;clear hb3 K98 K117)
       | (go_at_call 98;refine K.mono ?_;rintro e w4 ⟨rfl,X2,hD4,hM4⟩))
      go_ret
      exact ⟨rfl,X2,hD4,(HMF.out.below HB3.out).trans hM4⟩
     rw [if_pos rfl] at hcm
     go_upto_region 22 with (first
       | (go_at_call 117;refine K117.mono ?_;rintro e w3 ⟨rfl,hb3⟩;have K := K98 w3 hb3;have HB3 := Lib.hid hb3;clear hb3 K98 K117)
       | (go_at_call 98;refine K.mono ?_;rintro e w4 ⟨rfl,X2,hD4,hM4⟩))
     have hM24 := (Mv.of_below X1 HB3.out).trans hM4
     have hW4 : WLog w4 b D f s := hM24.blk HW2.out.1 HW2.out.2
     have hbX2 := hM24.apart HW2.out.2 (Blk.lt HW2.out.1)
     have hmF := HMF.out.trans hM24
     have hLA4 := hM24.lies HLA2.out (fun a ha => (HLA.out.2 a ha).1)
     have hAX2 : ∀ a,A = some a → a.block ∉ X2 := fun a ha => hM24.apart (HLA.out.2 a ha).1 (Nat.lt_of_lt_of_le (HLA.out.2 a ha).2 HSZ2.out)
     have K97 := KMAKE X2 w4 hD4 hW4 hbX2 hLA4 hAX2
     have HW4 := Lib.hid (And.intro hW4 hbX2)
     have HMF4 := Lib.hid hmF
     clear hM24 hW4 hbX2 hmF hLA4 hAX2 hD4 hM4 KMAKE K
     rcases hn4 with rfl | rfl
     case inr =>
      rw [if_neg (by decide)] at hcm
      subst hcm
      go_wp2_with (go_at_call 97;refine K97.mono ?_;rintro e w5 ⟨rfl,X3,hD5,hM5⟩)
      go_ret
      exact ⟨rfl,X3,hD5,HMF4.out.trans hM5⟩
     rw [if_pos rfl] at hcm
     subst hcm
     go_wp2_with (first
      | (go_at_call 97;refine K97.mono ?_;rintro e w5 ⟨rfl,X3,hD5,hM5⟩;have K6 := KEND X3 w5 hD5 (hM5.blk HW4.out.1 HW4.out.2) (hM5.apart HW4.out.2 (Blk.lt HW4.out.1));have HM5 := Lib.hid hM5;clear hD5 hM5 K97 KEND)
      | (go_at_call 98;refine K6.mono ?_;rintro e w6 ⟨rfl,X4,hD6,hM6⟩))
     go_ret
     exact ⟨rfl,X4,hD6,(HMF4.out.trans HM5.out).trans hM6⟩
end Go.Proofs.YtcmcdddnckcpcaaGreatDoor
namespace Go.Proofs
open Go.RowKit Go.Maps Go.Sort Go.Shelf
def Tryz.keys52_ren : Go.Shelf.Ren := ⟨fun | 7 => 52 | 10 => 93 | n => n,fun | 23 => 77 | 26 => 9 | 3 => 69 | 28 => 107 | 0 => 0 | 27 => 106 | 33 => 23 | 4 => 4 | n => n,fun | n => n⟩
theorem Tryz.keys52 : Go.Proofs.SlLaysZ.n7 Tryz.prog Tryz.keys52_ren := {
 mixed := by kernel_rfl
 f7 := ⟨Tryz.f52.name,by decide,Tryz.func52.trans (congrArg some (by kernel_rfl))⟩
 f10 := ⟨Tryz.f93.name,by decide,Tryz.func93.trans (congrArg some (by kernel_rfl))⟩
 t0 := Tryz.underlying0
 a0 := Tryz.isAgg0
 z0 := Tryz.sizeOf0
 v0 := Tryz.zeroValue0
 t4 := Tryz.underlying4
 a4 := Tryz.isAgg4
 z4 := Tryz.sizeOf4
 v4 := Tryz.zeroValue4
 t23 := Tryz.underlying77
 a23 := Tryz.isAgg77
 z23 := Tryz.sizeOf77
 v23 := Tryz.zeroValue77
 t26 := Tryz.underlying9
 a26 := Tryz.isAgg9
 z26 := Tryz.sizeOf9
 v26 := Tryz.zeroValue9
 t27 := Tryz.underlying106
 a27 := Tryz.isAgg106
 z27 := Tryz.sizeOf106
 v27 := Tryz.zeroValue106
 t28 := Tryz.underlying107
 a28 := Tryz.isAgg107
 z28 := Tryz.sizeOf107
 v28 := Tryz.zeroValue107
 t33 := Tryz.underlying23
 a33 := Tryz.isAgg23
 z33 := Tryz.sizeOf23
 v33 := Tryz.zeroValue23 }
def Tryz.sorted51_ren : Go.Shelf.Ren := ⟨fun | 6 => 51 | 8 => 91 | 9 => 92 | 11 => 118 | 13 => 120 | 12 => 119 | 23 => 144 | 24 => 145 | 14 => 135 | 15 => 136 | 16 => 137 | 17 => 138 | 18 => 139 | 19 => 140 | 20 => 141 | 21 => 142 | 22 => 143 | 25 => 160 | 26 => 161 | 27 => 162 | 28 => 163 | 29 => 164 | 30 => 165 | 31 => 173 | n => n,fun | 26 => 9 | 28 => 107 | 24 => 42 | 0 => 0 | 3 => 3 | 37 => 87 | 48 => 153 | 50 => 199 | 4 => 4 | 40 => 210 | 39 => 209 | 45 => 72 | 5 => 5 | 9 => 9 | 51 => 229 | 55 => 233 | 57 => 238 | 58 => 39 | 33 => 23 | n => n,fun | n => n⟩
theorem Tryz.sorted51 : Go.Proofs.SlLaysZ.n6 Tryz.prog Tryz.sorted51_ren := {
 mixed := by kernel_rfl
 f6 := ⟨Tryz.f51.name,by decide,Tryz.func51.trans (congrArg some (by kernel_rfl))⟩
 f8 := ⟨Tryz.f91.name,by decide,Tryz.func91.trans (congrArg some (by kernel_rfl))⟩
 f11 := ⟨Tryz.f118.name,by decide,Tryz.func118.trans (congrArg some (by kernel_rfl))⟩
 t0 := Tryz.underlying0
 a0 := Tryz.isAgg0
 z0 := Tryz.sizeOf0
 v0 := Tryz.zeroValue0
 t24 := Tryz.underlying42
 a24 := Tryz.isAgg42
 z24 := Tryz.sizeOf42
 v24 := Tryz.zeroValue42
 t26 := Tryz.underlying9
 a26 := Tryz.isAgg9
 z26 := Tryz.sizeOf9
 v26 := Tryz.zeroValue9
 t28 := Tryz.underlying107
 a28 := Tryz.isAgg107
 z28 := Tryz.sizeOf107
 v28 := Tryz.zeroValue107
 i26 := by kernel_rfl }
def Tryz.sort92_ren : Go.Shelf.Ren := ⟨fun | 6 => 92 | 8 => 120 | 9 => 119 | 19 => 144 | 20 => 145 | 21 => 135 | 22 => 136 | 23 => 137 | 24 => 138 | 25 => 139 | 26 => 140 | 27 => 141 | 28 => 142 | 29 => 143 | 36 => 160 | 31 => 161 | 32 => 162 | 37 => 163 | 38 => 164 | 39 => 165 | 41 => 173 | n => n,fun | 27 => 42 | 29 => 9 | 3 => 3 | 32 => 87 | 26 => 42 | 0 => 0 | 44 => 153 | 46 => 199 | 4 => 4 | 36 => 210 | 35 => 209 | 41 => 72 | 5 => 5 | 9 => 9 | 53 => 229 | 57 => 233 | 63 => 238 | 64 => 39 | n => n,fun | n => n⟩
theorem Tryz.sort92 : Go.Proofs.SlLaysM.n6 Tryz.prog Tryz.sort92_ren := {
 mixed := by kernel_rfl
 f6 := ⟨Tryz.f92.name,by decide,Tryz.func92.trans (congrArg some (by kernel_rfl))⟩
 f8 := Tryz.func120.trans (congrArg some (by kernel_rfl))
 f9 := ⟨Tryz.f119.name,by decide,Tryz.func119.trans (congrArg some (by kernel_rfl))⟩
 f19 := Tryz.func144.trans (congrArg some (by kernel_rfl))
 f20 := Tryz.func145.trans (congrArg some (by kernel_rfl))
 f21 := ⟨Tryz.f135.name,by decide,Tryz.func135.trans (congrArg some (by kernel_rfl))⟩
 f22 := ⟨Tryz.f136.name,by decide,Tryz.func136.trans (congrArg some (by kernel_rfl))⟩
 f23 := ⟨Tryz.f137.name,by decide,Tryz.func137.trans (congrArg some (by kernel_rfl))⟩
 f24 := ⟨Tryz.f138.name,by decide,Tryz.func138.trans (congrArg some (by kernel_rfl))⟩
 f25 := ⟨Tryz.f139.name,by decide,Tryz.func139.trans (congrArg some (by kernel_rfl))⟩
 f26 := ⟨Tryz.f140.name,by decide,Tryz.func140.trans (congrArg some (by kernel_rfl))⟩
 f27 := ⟨Tryz.f141.name,by decide,Tryz.func141.trans (congrArg some (by kernel_rfl))⟩
 f28 := ⟨Tryz.f142.name,by decide,Tryz.func142.trans (congrArg some (by kernel_rfl))⟩
 f29 := ⟨Tryz.f143.name,by decide,Tryz.func143.trans (congrArg some (by kernel_rfl))⟩
 f31 := Tryz.func161.trans (congrArg some (by kernel_rfl))
 f32 := Tryz.func162.trans (congrArg some (by kernel_rfl))
 f36 := ⟨Tryz.f160.name,by decide,Tryz.func160.trans (congrArg some (by kernel_rfl))⟩
 f37 := ⟨Tryz.f163.name,by decide,Tryz.func163.trans (congrArg some (by kernel_rfl))⟩
 f38 := ⟨Tryz.f164.name,by decide,Tryz.func164.trans (congrArg some (by kernel_rfl))⟩
 f39 := ⟨Tryz.f165.name,by decide,Tryz.func165.trans (congrArg some (by kernel_rfl))⟩
 f41 := ⟨Tryz.f173.name,by decide,Tryz.func173.trans (congrArg some (by kernel_rfl))⟩
 t0 := Tryz.underlying0
 a0 := Tryz.isAgg0
 z0 := Tryz.sizeOf0
 v0 := Tryz.zeroValue0
 t3 := Tryz.underlying3
 a3 := Tryz.isAgg3
 z3 := Tryz.sizeOf3
 v3 := Tryz.zeroValue3
 t4 := Tryz.underlying4
 a4 := Tryz.isAgg4
 z4 := Tryz.sizeOf4
 v4 := Tryz.zeroValue4
 t5 := Tryz.underlying5
 a5 := Tryz.isAgg5
 z5 := Tryz.sizeOf5
 v5 := Tryz.zeroValue5
 t9 := Tryz.underlying9
 a9 := Tryz.isAgg9
 z9 := Tryz.sizeOf9
 v9 := Tryz.zeroValue9
 t26 := Tryz.underlying42
 a26 := Tryz.isAgg42
 z26 := Tryz.sizeOf42
 v26 := Tryz.zeroValue42
 t27 := Tryz.underlying42
 a27 := Tryz.isAgg42
 z27 := Tryz.sizeOf42
 v27 := Tryz.zeroValue42
 t29 := Tryz.underlying9
 a29 := Tryz.isAgg9
 z29 := Tryz.sizeOf9
 v29 := Tryz.zeroValue9
 t32 := Tryz.underlying87
 a32 := Tryz.isAgg87
 z32 := Tryz.sizeOf87
 v32 := Tryz.zeroValue87
 t35 := Tryz.underlying209
 a35 := Tryz.isAgg209
 z35 := Tryz.sizeOf209
 v35 := Tryz.zeroValue209
 t36 := Tryz.underlying210
 a36 := Tryz.isAgg210
 z36 := Tryz.sizeOf210
 v36 := Tryz.zeroValue210
 t41 := Tryz.underlying72
 a41 := Tryz.isAgg72
 z41 := Tryz.sizeOf72
 v41 := Tryz.zeroValue72
 t44 := Tryz.underlying153
 a44 := Tryz.isAgg153
 z44 := Tryz.sizeOf153
 v44 := Tryz.zeroValue153
 t46 := Tryz.underlying199
 a46 := Tryz.isAgg199
 z46 := Tryz.sizeOf199
 v46 := Tryz.zeroValue199
 t53 := Tryz.underlying229
 a53 := Tryz.isAgg229
 z53 := Tryz.sizeOf229
 v53 := Tryz.zeroValue229
 t57 := Tryz.underlying233
 a57 := Tryz.isAgg233
 z57 := Tryz.sizeOf233
 v57 := Tryz.zeroValue233
 t63 := Tryz.underlying238
 a63 := Tryz.isAgg238
 z63 := Tryz.sizeOf238
 v63 := Tryz.zeroValue238
 t64 := Tryz.underlying39
 a64 := Tryz.isAgg39
 z64 := Tryz.sizeOf39
 v64 := Tryz.zeroValue39 }
def Tryz.keys89_ren : Go.Shelf.Ren := ⟨fun | 7 => 89 | 10 => 114 | n => n,fun | 23 => 102 | 26 => 3 | 3 => 9 | 28 => 160 | 0 => 0 | 27 => 159 | 33 => 139 | 4 => 4 | n => n,fun | n => n⟩
theorem Tryz.keys89 : Go.Proofs.SlLaysZI.n7 Tryz.prog Tryz.keys89_ren := {
 mixed := by kernel_rfl
 f7 := ⟨Tryz.f89.name,by decide,Tryz.func89.trans (congrArg some (by kernel_rfl))⟩
 f10 := ⟨Tryz.f114.name,by decide,Tryz.func114.trans (congrArg some (by kernel_rfl))⟩
 t0 := Tryz.underlying0
 a0 := Tryz.isAgg0
 z0 := Tryz.sizeOf0
 v0 := Tryz.zeroValue0
 t4 := Tryz.underlying4
 a4 := Tryz.isAgg4
 z4 := Tryz.sizeOf4
 v4 := Tryz.zeroValue4
 t23 := Tryz.underlying102
 a23 := Tryz.isAgg102
 z23 := Tryz.sizeOf102
 v23 := Tryz.zeroValue102
 t26 := Tryz.underlying3
 a26 := Tryz.isAgg3
 z26 := Tryz.sizeOf3
 v26 := Tryz.zeroValue3
 t27 := Tryz.underlying159
 a27 := Tryz.isAgg159
 z27 := Tryz.sizeOf159
 v27 := Tryz.zeroValue159
 t28 := Tryz.underlying160
 a28 := Tryz.isAgg160
 z28 := Tryz.sizeOf160
 v28 := Tryz.zeroValue160
 t33 := Tryz.underlying139
 a33 := Tryz.isAgg139
 z33 := Tryz.sizeOf139
 v33 := Tryz.zeroValue139 }
def Tryz.sorted88_ren : Go.Shelf.Ren := ⟨fun | 6 => 88 | 8 => 112 | 9 => 113 | 11 => 132 | 13 => 120 | 12 => 133 | 23 => 144 | 24 => 145 | 14 => 151 | 15 => 152 | 16 => 153 | 17 => 154 | 18 => 155 | 19 => 156 | 20 => 157 | 21 => 158 | 22 => 159 | 25 => 169 | 26 => 161 | 27 => 162 | 28 => 170 | 29 => 171 | 30 => 172 | 31 => 174 | n => n,fun | 26 => 3 | 28 => 160 | 24 => 58 | 0 => 0 | 3 => 3 | 37 => 87 | 48 => 153 | 50 => 199 | 4 => 4 | 40 => 210 | 39 => 209 | 45 => 72 | 5 => 5 | 9 => 9 | 51 => 229 | 55 => 233 | 57 => 238 | 58 => 39 | 33 => 139 | n => n,fun | n => n⟩
theorem Tryz.sorted88 : Go.Proofs.SlLaysZI.n6 Tryz.prog Tryz.sorted88_ren := {
 mixed := by kernel_rfl
 f6 := ⟨Tryz.f88.name,by decide,Tryz.func88.trans (congrArg some (by kernel_rfl))⟩
 f8 := ⟨Tryz.f112.name,by decide,Tryz.func112.trans (congrArg some (by kernel_rfl))⟩
 f11 := ⟨Tryz.f132.name,by decide,Tryz.func132.trans (congrArg some (by kernel_rfl))⟩
 t0 := Tryz.underlying0
 a0 := Tryz.isAgg0
 z0 := Tryz.sizeOf0
 v0 := Tryz.zeroValue0
 t24 := Tryz.underlying58
 a24 := Tryz.isAgg58
 z24 := Tryz.sizeOf58
 v24 := Tryz.zeroValue58
 t26 := Tryz.underlying3
 a26 := Tryz.isAgg3
 z26 := Tryz.sizeOf3
 v26 := Tryz.zeroValue3
 t28 := Tryz.underlying160
 a28 := Tryz.isAgg160
 z28 := Tryz.sizeOf160
 v28 := Tryz.zeroValue160
 i26 := by kernel_rfl }
def Tryz.sort113_ren : Go.Shelf.Ren := ⟨fun | 5 => 113 | 8 => 120 | 7 => 133 | 19 => 144 | 20 => 145 | 10 => 151 | 11 => 152 | 12 => 153 | 13 => 154 | 14 => 155 | 15 => 156 | 16 => 157 | 17 => 158 | 18 => 159 | 30 => 169 | 31 => 161 | 32 => 162 | 33 => 170 | 34 => 171 | 35 => 172 | 40 => 174 | n => n,fun | 23 => 58 | 25 => 3 | 3 => 3 | 32 => 87 | 22 => 58 | 0 => 0 | 44 => 153 | 46 => 199 | 4 => 4 | 36 => 210 | 35 => 209 | 41 => 72 | 5 => 5 | 9 => 9 | 53 => 229 | 57 => 233 | 63 => 238 | 64 => 39 | n => n,fun | n => n⟩
theorem Tryz.sort113 : Go.Proofs.SlLaysM.n5 Tryz.prog Tryz.sort113_ren := {
 mixed := by kernel_rfl
 f5 := ⟨Tryz.f113.name,by decide,Tryz.func113.trans (congrArg some (by kernel_rfl))⟩
 f7 := ⟨Tryz.f133.name,by decide,Tryz.func133.trans (congrArg some (by kernel_rfl))⟩
 f8 := Tryz.func120.trans (congrArg some (by kernel_rfl))
 f10 := ⟨Tryz.f151.name,by decide,Tryz.func151.trans (congrArg some (by kernel_rfl))⟩
 f11 := ⟨Tryz.f152.name,by decide,Tryz.func152.trans (congrArg some (by kernel_rfl))⟩
 f12 := ⟨Tryz.f153.name,by decide,Tryz.func153.trans (congrArg some (by kernel_rfl))⟩
 f13 := ⟨Tryz.f154.name,by decide,Tryz.func154.trans (congrArg some (by kernel_rfl))⟩
 f14 := ⟨Tryz.f155.name,by decide,Tryz.func155.trans (congrArg some (by kernel_rfl))⟩
 f15 := ⟨Tryz.f156.name,by decide,Tryz.func156.trans (congrArg some (by kernel_rfl))⟩
 f16 := ⟨Tryz.f157.name,by decide,Tryz.func157.trans (congrArg some (by kernel_rfl))⟩
 f17 := ⟨Tryz.f158.name,by decide,Tryz.func158.trans (congrArg some (by kernel_rfl))⟩
 f18 := ⟨Tryz.f159.name,by decide,Tryz.func159.trans (congrArg some (by kernel_rfl))⟩
 f19 := Tryz.func144.trans (congrArg some (by kernel_rfl))
 f20 := Tryz.func145.trans (congrArg some (by kernel_rfl))
 f30 := ⟨Tryz.f169.name,by decide,Tryz.func169.trans (congrArg some (by kernel_rfl))⟩
 f31 := Tryz.func161.trans (congrArg some (by kernel_rfl))
 f32 := Tryz.func162.trans (congrArg some (by kernel_rfl))
 f33 := ⟨Tryz.f170.name,by decide,Tryz.func170.trans (congrArg some (by kernel_rfl))⟩
 f34 := ⟨Tryz.f171.name,by decide,Tryz.func171.trans (congrArg some (by kernel_rfl))⟩
 f35 := ⟨Tryz.f172.name,by decide,Tryz.func172.trans (congrArg some (by kernel_rfl))⟩
 f40 := ⟨Tryz.f174.name,by decide,Tryz.func174.trans (congrArg some (by kernel_rfl))⟩
 t0 := Tryz.underlying0
 a0 := Tryz.isAgg0
 z0 := Tryz.sizeOf0
 v0 := Tryz.zeroValue0
 t3 := Tryz.underlying3
 a3 := Tryz.isAgg3
 z3 := Tryz.sizeOf3
 v3 := Tryz.zeroValue3
 t4 := Tryz.underlying4
 a4 := Tryz.isAgg4
 z4 := Tryz.sizeOf4
 v4 := Tryz.zeroValue4
 t5 := Tryz.underlying5
 a5 := Tryz.isAgg5
 z5 := Tryz.sizeOf5
 v5 := Tryz.zeroValue5
 t9 := Tryz.underlying9
 a9 := Tryz.isAgg9
 z9 := Tryz.sizeOf9
 v9 := Tryz.zeroValue9
 t22 := Tryz.underlying58
 a22 := Tryz.isAgg58
 z22 := Tryz.sizeOf58
 v22 := Tryz.zeroValue58
 t23 := Tryz.underlying58
 a23 := Tryz.isAgg58
 z23 := Tryz.sizeOf58
 v23 := Tryz.zeroValue58
 t25 := Tryz.underlying3
 a25 := Tryz.isAgg3
 z25 := Tryz.sizeOf3
 v25 := Tryz.zeroValue3
 t32 := Tryz.underlying87
 a32 := Tryz.isAgg87
 z32 := Tryz.sizeOf87
 v32 := Tryz.zeroValue87
 t35 := Tryz.underlying209
 a35 := Tryz.isAgg209
 z35 := Tryz.sizeOf209
 v35 := Tryz.zeroValue209
 t36 := Tryz.underlying210
 a36 := Tryz.isAgg210
 z36 := Tryz.sizeOf210
 v36 := Tryz.zeroValue210
 t41 := Tryz.underlying72
 a41 := Tryz.isAgg72
 z41 := Tryz.sizeOf72
 v41 := Tryz.zeroValue72
 t44 := Tryz.underlying153
 a44 := Tryz.isAgg153
 z44 := Tryz.sizeOf153
 v44 := Tryz.zeroValue153
 t46 := Tryz.underlying199
 a46 := Tryz.isAgg199
 z46 := Tryz.sizeOf199
 v46 := Tryz.zeroValue199
 t53 := Tryz.underlying229
 a53 := Tryz.isAgg229
 z53 := Tryz.sizeOf229
 v53 := Tryz.zeroValue229
 t57 := Tryz.underlying233
 a57 := Tryz.isAgg233
 z57 := Tryz.sizeOf233
 v57 := Tryz.zeroValue233
 t63 := Tryz.underlying238
 a63 := Tryz.isAgg238
 z63 := Tryz.sizeOf238
 v63 := Tryz.zeroValue238
 t64 := Tryz.underlying39
 a64 := Tryz.isAgg39
 z64 := Tryz.sizeOf39
 v64 := Tryz.zeroValue39 }
theorem Tryz.sorts51 (m : Nat) : AnyZ.SortsIn Tryz.prog Tryz.sorted51_ren Fence.wide m :=
 ⟨fun blk off cap ss W hH hblk hsz => callsIn_wide.2 (AnyM.slices_Sort_string Tryz.sort92 blk off cap ss W hH hblk hsz),
  fun p cap W => callsIn_wide.2 (AnyM.slices_Sort_string_none Tryz.sort92 p cap W)⟩

theorem Tryz.maps_Keys_52 (mb : Option Nat) (W : World) : CallsIn Fence.wide 5 Tryz.prog 52 #[.map mb] W fun e w' => e = .returned (.func (.func 93) #[] #[.pointer (some ⟨W.heap.size,0,none⟩)]) ∧ w' = W.alloc (.cells #[.map mb] 77) :=
 AnyZ.keys_in Tryz.keys52 Fence.wide 5 trivial rfl mb W

set_option maxHeartbeats 1000000 in
theorem Tryz.slices_Sorted_keys_51_52 {H : Type} (b nn : Nat) (D0 : DataW H) (R : Value → Option (DataW H × List MemPlace)) (w : World) (hown : w.ownsMap Tryz.prog 9 R b nn D0) (hmax : Maps.size D0 ≤ maxLen) (hbytes : Maps.size D0 * 16 ≤ 140737488355328) :
  CallsIn Fence.wide 5 Tryz.prog 51 #[.func (.func 93) #[] #[.pointer (some ⟨w.heap.size,0,none⟩)]] (w.alloc (.cells #[.map (some b)] 77)) fun e w' => ∃ (v : Value) (ss : List (List UInt8)),e = .returned v ∧ ss.Perm (strKeys D0) ∧
   w'.ownsRow (w.alloc (.cells #[.map (some b)] 77)).heap.size 9 1 v ss.length ((ss.mergeSort (fun x y => decide (x ≤ y))).map encStr) ∧ (v = .slice none 0 0 ↔ ss = []) ∧ Below (w.alloc (.cells #[.map (some b)] 77)).heap.size (w.alloc (.cells #[.map (some b)] 77)) w' := by
 have hbl := hown.lt
 have hseq : SeqGives Fence.wide 2 Tryz.prog 93 #[.pointer (some ⟨w.heap.size,0,none⟩)] encStr (fun ss => ss.Perm (strKeys D0)) (Maps.size D0) (w.alloc (.cells #[.map (some b)] 77)) :=
  AnyZ.keys_gives (ρ := Tryz.keys52_ren) { Tryz.keys52 with } Fence.wide _ trivial rfl (by omega) w.heap.size b nn D0 _ (by simp) (by simp) (by
   obtain ⟨es,clock,hb,Ft,hs,hD⟩ := hown
   exact ⟨es,clock,(Below.heap_alloc _ _ b hbl).trans hb,Ft,hs,hD⟩)
 exact AnyZ.sorted_in Tryz.sorted51 Fence.wide 5 trivial trivial trivial trivial rfl (by omega) (Tryz.sorts51 _) (enters_of Tryz.func92 (by kernel_rfl) rfl) 93 #[.pointer (some ⟨w.heap.size,0,none⟩)] trivial (enters_of Tryz.func93 (by kernel_rfl) rfl) _ _ hmax hbytes _ hseq

theorem Tryz.sorts88 (m : Nat) : AnyZI.SortsIn Tryz.prog Tryz.sorted88_ren Fence.wide m :=
 ⟨fun blk off cap ss W hH hblk hsz => callsIn_wide.2 (AnyM.slices_Sort_int Tryz.sort113 blk off cap ss W hH hblk hsz),
  fun p cap W => callsIn_wide.2 (AnyM.slices_Sort_int_none Tryz.sort113 p cap W)⟩

theorem Tryz.maps_Keys_89 (mb : Option Nat) (W : World) : CallsIn Fence.wide 5 Tryz.prog 89 #[.map mb] W fun e w' => e = .returned (.func (.func 114) #[] #[.pointer (some ⟨W.heap.size,0,none⟩)]) ∧ w' = W.alloc (.cells #[.map mb] 102) :=
 AnyZI.keys_in Tryz.keys89 Fence.wide 5 trivial rfl mb W

set_option maxHeartbeats 1000000 in
theorem Tryz.slices_Sorted_keys_88_89 {H : Type} (b nn : Nat) (D0 : DataW H) (R : Value → Option (DataW H × List MemPlace)) (w : World) (hown : w.ownsMap Tryz.prog 3 R b nn D0) (hmax : Maps.size D0 ≤ maxLen) (hbytes : Maps.size D0 * 8 ≤ 140737488355328) :
  CallsIn Fence.wide 5 Tryz.prog 88 #[.func (.func 114) #[] #[.pointer (some ⟨w.heap.size,0,none⟩)]] (w.alloc (.cells #[.map (some b)] 102)) fun e w' => ∃ (v : Value) (ss : List Int),e = .returned v ∧ ss.Perm (intKeys D0) ∧
   w'.ownsRow (w.alloc (.cells #[.map (some b)] 102)).heap.size 3 1 v ss.length ((ss.mergeSort (fun x y => decide (x ≤ y))).map encZ) ∧ (v = .slice none 0 0 ↔ ss = []) ∧ Below (w.alloc (.cells #[.map (some b)] 102)).heap.size (w.alloc (.cells #[.map (some b)] 102)) w' := by
 have hbl := hown.lt
 have hseq : SeqGives Fence.wide 2 Tryz.prog 114 #[.pointer (some ⟨w.heap.size,0,none⟩)] encZ (fun ss => ss.Perm (intKeys D0)) (Maps.size D0) (w.alloc (.cells #[.map (some b)] 102)) :=
  AnyZI.keys_gives (ρ := Tryz.keys89_ren) { Tryz.keys89 with } Fence.wide _ trivial rfl (by omega) w.heap.size b nn D0 _ (by simp) (by simp) (by
   obtain ⟨es,clock,hb,Ft,hs,hD⟩ := hown
   exact ⟨es,clock,(Below.heap_alloc _ _ b hbl).trans hb,Ft,hs,hD⟩)
 exact AnyZI.sorted_in Tryz.sorted88 Fence.wide 5 trivial trivial trivial trivial rfl (by omega) (Tryz.sorts88 _) (enters_of Tryz.func113 (by kernel_rfl) rfl) 114 #[.pointer (some ⟨w.heap.size,0,none⟩)] trivial (enters_of Tryz.func114 (by kernel_rfl) rfl) _ _ hmax hbytes _ hseq

end Go.Proofs
namespace Go.Proofs.YtcmcdddnckcpcaaGreatDoor
open Go.RowKit
def signC (c : UInt8) : Bool := 33 ≤ c && c ≤ 126
def goodF (s : Bs) : Bool := decide (1 ≤ s.length) && decide (s.length ≤ 80) && s.all signC
theorem signC_nat (c : UInt8) : signC c = true ↔ 33 ≤ c.toNat ∧ c.toNat ≤ 126 := by
 unfold signC
 simp only [Bool.and_eq_true,decide_eq_true_eq,UInt8.le_iff_toNat_le]
 simp
theorem all_take_succ (p : UInt8 → Bool) (l : Bs) (k : Nat) (h : k < l.length) (h0 : (l.take k).all p = true) : (l.take (k + 1)).all p = p l[k] := by
 rw [List.take_succ_eq_append_getElem h,List.all_append,h0]
 simp
theorem all_false (p : UInt8 → Bool) (l : Bs) (k : Nat) (h : k < l.length) (h0 : p l[k] = false) : l.all p = false := by
 rw [List.all_eq_false]
 exact ⟨l[k],List.getElem_mem h,by simp [h0]⟩
theorem rune_good (r : Int) (w : World) (h0 : 33 ≤ r) (h1 : r ≤ 126) : Calls Tryz.prog 36 #[.int .i32 r] w fun e w' => e = .returned (.bool false) ∧ w' = w := by
 have h2 : ¬ r < 33 := by omega
 have h3 : ¬ 126 < r := by omega
 go_enter Tryz.func36,Tryz.ntmps36
 go_wp2
 go_ret
 exact ⟨rfl,rfl⟩
theorem rune_bad (r : Int) (w : World) (h : r < 33 ∨ 126 < r) : Calls Tryz.prog 36 #[.int .i32 r] w fun e w' => e = .returned (.bool true) ∧ w' = w := by
 by_cases h2 : r < 33
 ·clear h
  go_enter Tryz.func36,Tryz.ntmps36
  go_wp2
  go_ret
  exact ⟨rfl,rfl⟩
 ·have h3 : 126 < r := by omega
  clear h
  go_enter Tryz.func36,Tryz.ntmps36
  go_wp2
  go_ret
  exact ⟨rfl,rfl⟩
def IdxP (s : ByteArray) (w : World) (e : Ending) (w' : World) : Prop := (∃ i : Int,e = .returned (.int .i64 i) ∧ decide (i < 0) = s.data.toList.all signC ∧ -1 ≤ i) ∧ Below w.heap.size w w'
set_option maxHeartbeats 1000000 in
theorem idx_any (s : ByteArray) (w : World) (hs : s.size ≤ 9223372036854775807) : Calls Tryz.prog 75 #[.string s, .func (.func 36) #[] #[], .bool true] w (IdxP s w) := by
 have hsl : s.data.toList.length = s.size := by simp
 unfold IdxP
 go_enter Tryz.func75,Tryz.ntmps75
 go_wp2
 go_loopw [12] (fun _ wr => ∃ k : Nat,k ≤ s.size ∧ (s.data.toList.take k).all signC = true ∧ wr.heap[w.heap.size]? = some (.stringIter s k) ∧ Below w.heap.size w wr) (fun _ wr => match wr.heap[w.heap.size]? with | some (.stringIter _ k) => s.size - k | _ => 0)
 case atStart => exact ⟨0,Nat.zero_le _,rfl,heap_alloc_new _ _,below_alloc _ _⟩
 case round =>
  obtain ⟨k,hk,hall,hit,hb⟩ := hrel
  by_cases hlt : k < s.size
  ·have hnx := fun ty => Lib.run_next_any_at (P := Tryz.prog) wr w.heap.size s k ty hit hlt
   have hlt' : k < s.data.toList.length := by rw [hsl];exact hlt
   have H1 := Lib.hid (all_take_succ signC s.data.toList k hlt' hall)
   have H2 := Lib.hid (fun h => all_false signC s.data.toList k hlt' h)
   have hget : s.data.toList[k] = s[k] := rfl
   rw [hget] at H1 H2
   have hsg := signC_nat s[k]
   have hk63 : wrap64 (k : Int) = (k : Int) := Go.IntWalk.wrap64_in _ (by omega)
   by_cases hc : signC s[k] = true
   ·obtain ⟨c1,c2⟩ := hsg.1 hc
    have hda := decode_ascii s k hlt (by omega)
    simp only [hda] at hnx
    have HI := Lib.hid (Lib.iterAt_heap wr w.heap.size s k (k + 1) hit)
    have HB := Lib.hid (Lib.below_iterAt hb (Nat.le_refl _) s (k + 1))
    have HA := Lib.hid (H1.out.trans hc)
    obtain ⟨r,hr⟩ : ∃ r,s[k].toNat = r := ⟨_,rfl⟩
    rw [hr] at hnx c1 c2
    have KG := rune_good (r : Int) (wr.iterAt w.heap.size s (k + 1)) (by omega) (by omega)
    obtain ⟨W1,hW1⟩ : ∃ q,wr.iterAt w.heap.size s (k + 1) = q := ⟨_,rfl⟩
    rw [hW1] at HI HB KG
    simp only [hW1] at hnx
    have HIT := Lib.hid hit
    clear hall hit hb hsl hsg hc hda hr hW1 hget hk63
    go_wp2_with (go_at_call 36;refine KG.mono ?_;rintro e w1 ⟨rfl,hw⟩;obtain rfl := hw.symm)
    go_roundw
    case rel => exact ⟨k + 1,by omega,HA.out,HI.out,HB.out⟩
    case measure => rw [HI.out,HIT.out];simp;omega
   ·have hc' : signC s[k] = false := by simpa using hc
    have HAF := Lib.hid (H2.out hc')
    have hbad : ∃ (r q : Nat),Utf8.decode s k = (r,q) ∧ ((r : Int) < 33 ∨ 126 < (r : Int)) := by
     by_cases h128 : s[k].toNat < 128
     ·refine ⟨_,_,decode_ascii s k hlt h128, ?_⟩
      rcases Nat.lt_or_ge (s[k].toNat) 33 with h | h
      ·exact .inl (by omega)
      ·exact .inr (by
        have : ¬ (33 ≤ s[k].toNat ∧ s[k].toNat ≤ 126) := fun h => hc (hsg.2 h)
        omega)
     ·have h1 := (decode_high s k hlt (Nat.le_of_not_lt h128)).1
      obtain ⟨d,hd⟩ : ∃ d,Utf8.decode s k = d := ⟨_,rfl⟩
      rw [hd] at h1
      obtain ⟨a,b⟩ := d
      exact ⟨a,b,hd, .inr (by have h1' : 128 ≤ a := h1;omega)⟩
    obtain ⟨r,q,hde,hrb⟩ := hbad
    simp only [hde] at hnx
    have HB := Lib.hid (Lib.below_iterAt hb (Nat.le_refl _) s (k + q))
    obtain ⟨W1,hW1⟩ : ∃ u,wr.iterAt w.heap.size s (k + q) = u := ⟨_,rfl⟩
    rw [hW1] at HB
    simp only [hW1] at hnx
    have KB := rune_bad (r : Int) W1 hrb
    have HN := Lib.hid (show decide ((k : Int) < 0) = s.data.toList.all signC by rw [HAF.out];simp)
    clear hall hit hb hsl hsg hc hc' hW1 hget hde hrb hk63
    go_wp2_with (go_at_call 36;refine KB.mono ?_;rintro e w1 ⟨rfl,hw⟩;obtain rfl := hw.symm)
    go_ret
    exact ⟨⟨k,rfl,HN.out,by omega⟩,HB.out⟩
  ·have hnx := fun ty => Lib.run_next_end_at (P := Tryz.prog) wr w.heap.size s k ty hit hlt
   obtain rfl : k = s.size := by omega
   have HA := Lib.hid (show decide ((-1 : Int) < 0) = s.data.toList.all signC by rw [List.take_of_length_le (by omega)] at hall;rw [hall];rfl)
   have HB := Lib.hid hb
   clear hall hit hb hlt hsl
   go_wp2
   go_ret
   exact ⟨⟨-1,rfl,HA.out,by omega⟩,HB.out⟩
theorem idxf_any (s : ByteArray) (w : World) (hs : s.size ≤ 9223372036854775807) : Calls Tryz.prog 35 #[.string s, .func (.func 36) #[] #[]] w (IdxP s w) := by
 have K := idx_any s w hs
 unfold IdxP at K ⊢
 go_enter Tryz.func35,Tryz.ntmps35
 go_wp2_with (go_at_call 75;refine K.mono ?_;rintro e w1 ⟨⟨i,rfl,h1,h2⟩,hb⟩;have H1 := Lib.hid (And.intro h1 h2);clear h1 h2)
 go_ret
 exact ⟨⟨i,rfl,H1.out⟩,hb⟩
set_option maxHeartbeats 1000000 in
theorem good_any (s : Bs) (w : World) (hs : s.length ≤ 9223372036854775807) : Calls Tryz.prog 11 #[.string (mk s)] w fun e w' => e = .returned (.bool (goodF s)) ∧ Below w.heap.size w w' := by
 have hz := mk_size s
 have K := idxf_any (mk s) w (by omega)
 unfold IdxP at K
 rw [mk_data] at K
 have HG := Lib.hid (show goodF s = (decide (1 ≤ s.length) && decide (s.length ≤ 80) && s.all signC) from rfl)
 obtain ⟨X,hX⟩ : ∃ q,mk s = q := ⟨_,rfl⟩
 rw [hX] at hz K ⊢
 obtain ⟨n,hn⟩ : ∃ q,s.length = q := ⟨_,rfl⟩
 rw [hn] at hz HG hs
 obtain ⟨g,hg⟩ : ∃ q,goodF s = q := ⟨_,rfl⟩
 rw [hg] at HG ⊢
 clear hX hn hg
 by_cases h1 : 1 ≤ n
 ·by_cases h2 : n ≤ 80
  ·have i1 : (0 : Int) < (n : Int) := by omega
   have i1n : 0 < n := by omega
   have i2 : (n : Int) ≤ 80 := by omega
   have HG2 := Lib.hid (show g = s.all signC by rw [HG.out,decide_eq_true h1,decide_eq_true h2];rfl)
   clear HG h1 hs
   go_enter Tryz.func11,Tryz.ntmps11
   go_wp2_with (go_at_call 35;refine K.mono ?_;rintro e w1 ⟨⟨i,rfl,h1,h2⟩,hb⟩;have H1 := Lib.hid h1;clear h1 h2)
   go_ret
   refine ⟨?_,hb⟩
   rw [HG2.out, ← H1.out]
   rfl
  ·have i2 : ¬ ((n : Int) ≤ 80) := by omega
   have i1 : (0 : Int) < (n : Int) := by omega
   have i1n : 0 < n := by omega
   have HG2 := Lib.hid (show g = false by rw [HG.out,decide_eq_false h2];simp)
   clear HG h1 K hs
   go_enter Tryz.func11,Tryz.ntmps11
   go_wp2
   go_ret
   obtain rfl := HG2.out
   exact ⟨rfl,Below.refl _ _⟩
 ·have i1 : ¬ ((0 : Int) < (n : Int)) := by omega
  obtain rfl : n = 0 := by omega
  have HG2 := Lib.hid (show g = false by rw [HG.out];simp)
  clear HG h1 K hs
  go_enter Tryz.func11,Tryz.ntmps11
  go_wp2
  go_ret
  obtain rfl := HG2.out
  exact ⟨rfl,Below.refl _ _⟩
def bitN (T : List Bool) (i : Nat) : Nat := if T.getD i false then 1 else 0
def byteN (T : List Bool) (j : Nat) : Nat :=
 bitN T (8 * j) + 2 * bitN T (8 * j + 1) + 4 * bitN T (8 * j + 2) + 8 * bitN T (8 * j + 3) + 16 * bitN T (8 * j + 4) + 32 * bitN T (8 * j + 5) + 64 * bitN T (8 * j + 6) + 128 * bitN T (8 * j + 7)
def packB (T : List Bool) : Bs := (List.range ((T.length + 7) / 8)).map fun j => UInt8.ofNat (byteN T j)
theorem packB_length (T : List Bool) : (packB T).length = (T.length + 7) / 8 := by simp [packB]
theorem bitN_le (T : List Bool) (i : Nat) : bitN T i ≤ 1 := by unfold bitN;split <;> omega
theorem byteN_lt (T : List Bool) (j : Nat) : byteN T j < 256 := by
 unfold byteN
 have h := bitN_le T
 have a0 := h (8 * j);have a1 := h (8 * j + 1);have a2 := h (8 * j + 2);have a3 := h (8 * j + 3)
 have a4 := h (8 * j + 4);have a5 := h (8 * j + 5);have a6 := h (8 * j + 6);have a7 := h (8 * j + 7)
 omega
theorem packB_at (T : List Bool) (j : Nat) (h : j < (T.length + 7) / 8) : (packB T)[j]? = some (UInt8.ofNat (byteN T j)) := by simp [packB,h]
theorem byteN_bit (T : List Bool) (j k : Nat) (hk : k < 8) : byteN T j / 2 ^ k % 2 = bitN T (8 * j + k) := by
 unfold byteN
 have h := bitN_le T
 have a0 := h (8 * j);have a1 := h (8 * j + 1);have a2 := h (8 * j + 2);have a3 := h (8 * j + 3)
 have a4 := h (8 * j + 4);have a5 := h (8 * j + 5);have a6 := h (8 * j + 6);have a7 := h (8 * j + 7)
 have hk' : k = 0 ∨ k = 1 ∨ k = 2 ∨ k = 3 ∨ k = 4 ∨ k = 5 ∨ k = 6 ∨ k = 7 := by omega
 rcases hk' with rfl | rfl | rfl | rfl | rfl | rfl | rfl | rfl <;> simp only [Nat.reducePow,Nat.add_zero] <;> omega
theorem bitN_set_same (T : List Bool) (i : Nat) (v : Bool) (h : i < T.length) : bitN (T.set i v) i = if v then 1 else 0 := by
 unfold bitN;simp [h]
theorem bitN_set_other (T : List Bool) (i k : Nat) (v : Bool) (h : i ≠ k) : bitN (T.set i v) k = bitN T k := by
 unfold bitN;simp [h]
theorem turn8 : ∀ b0 b1 b2 b3 b4 b5 b6 b7 : Bool, ∀ k : Fin 8,
  (let f := fun (i : Nat) (b : Bool) => if (if k.val = i then !b else b) then 1 else 0
   f 0 b0 + 2 * f 1 b1 + 4 * f 2 b2 + 8 * f 3 b3 + 16 * f 4 b4 + 32 * f 5 b5 + 64 * f 6 b6 + 128 * f 7 b7) =
  ((if b0 then 1 else 0) + 2 * (if b1 then 1 else 0) + 4 * (if b2 then 1 else 0) + 8 * (if b3 then 1 else 0) + 16 * (if b4 then 1 else 0) + 32 * (if b5 then 1 else 0) + 64 * (if b6 then 1 else 0) + 128 * (if b7 then 1 else 0)) ^^^ 2 ^ k.val := by decide +kernel
theorem bitN_turn (T : List Bool) (i m : Nat) (hi : i < T.length) : bitN (T.set i (!T.getD i false)) m = if (if i = m then !T.getD m false else T.getD m false) then 1 else 0 := by
 by_cases h : i = m
 ·subst h
  rw [bitN_set_same _ _ _ hi,if_pos rfl]
 ·rw [bitN_set_other _ _ _ _ h,if_neg h];rfl
theorem byteN_turn (T : List Bool) (j k : Nat) (hk : k < 8) (hi : 8 * j + k < T.length) : byteN (T.set (8 * j + k) (!T.getD (8 * j + k) false)) j = byteN T j ^^^ 2 ^ k := by
 have h := turn8 (T.getD (8 * j) false) (T.getD (8 * j + 1) false) (T.getD (8 * j + 2) false) (T.getD (8 * j + 3) false) (T.getD (8 * j + 4) false) (T.getD (8 * j + 5) false) (T.getD (8 * j + 6) false) (T.getD (8 * j + 7) false) ⟨k,hk⟩
 simp only at h
 have e : ∀ m,(8 * j + k = 8 * j + m) = (k = m) := fun m => by simp
 have e0 : (8 * j + k = 8 * j) = (k = 0) := by simp
 unfold byteN
 simp only [bitN_turn T _ _ hi,e,e0]
 unfold bitN
 exact h
theorem byteN_other (T : List Bool) (i j : Nat) (v : Bool) (h : i / 8 ≠ j) : byteN (T.set i v) j = byteN T j := by
 unfold byteN
 rw [bitN_set_other _ _ _ _ (by omega),bitN_set_other _ _ _ _ (by omega),bitN_set_other _ _ _ _ (by omega),bitN_set_other _ _ _ _ (by omega),bitN_set_other _ _ _ _ (by omega),bitN_set_other _ _ _ _ (by omega),bitN_set_other _ _ _ _ (by omega),bitN_set_other _ _ _ _ (by omega)]
theorem packB_turn (T : List Bool) (i : Nat) (hi : i < T.length) : packB (T.set i (!T.getD i false)) = (packB T).set (i / 8) (UInt8.ofNat (byteN T (i / 8) ^^^ 2 ^ (i % 8))) := by
 apply List.ext_getElem?
 intro j
 rcases Nat.lt_or_ge j ((T.length + 7) / 8) with hj | hj
 ·rw [packB_at _ _ (by rw [List.length_set];exact hj)]
  by_cases e : i / 8 = j
  ·subst e
   rw [List.getElem?_set_self (by rw [packB_length];exact hj)]
   have := byteN_turn T (i / 8) (i % 8) (by omega) (by omega)
   rw [show 8 * (i / 8) + i % 8 = i by omega] at this
   rw [this]
  ·rw [List.getElem?_set_ne e,packB_at _ _ hj,byteN_other _ _ _ _ e]
 ·rw [List.getElem?_eq_none (by rw [packB_length,List.length_set];exact hj),List.getElem?_eq_none (by rw [List.length_set,packB_length];exact hj)]
theorem packB_zero (n : Nat) : packB (List.replicate n false) = List.replicate ((n + 7) / 8) 0 := by
 apply List.ext_getElem?
 intro j
 rcases Nat.lt_or_ge j ((n + 7) / 8) with hj | hj
 ·have h0 : ∀ i,bitN (List.replicate n false) i = 0 := fun i => by
   unfold bitN
   rw [List.getD_eq_getElem?_getD,List.getElem?_replicate]
   by_cases h : i < n <;> simp [h]
  rw [packB_at _ _ (by simpa using hj),List.getElem?_replicate,if_pos hj]
  unfold byteN
  simp [h0]
 ·rw [List.getElem?_eq_none (by rw [packB_length];simpa using hj),List.getElem?_replicate,if_neg (by omega)]
open Go.RowKit
def spv (T : List Bool) : Value := .agg #[.int .i64 T.length, .string (mk (packB T))]
set_option maxRecDepth 100000 in
theorem spnew_any (n : Nat) (w : World) (h : n ≤ 4096) : Calls Tryz.prog 100 #[.int .i64 n] w fun e w' => e = .returned (.tuple #[spv (List.replicate n false), .int .i64 0]) ∧ Below w.heap.size w w' := by
 obtain ⟨i5,hi0,hi1,hi2,hi3⟩ := info_parts info5n
 have h0 : (0 : Int) ≤ (n : Int) := by omega
 have h1 : ¬ ((4096 : Int) < (n : Int)) := by omega
 have h2 : (n : Int) ≤ 4096 := by omega
 obtain ⟨m,hm⟩ : ∃ m,(n + 7) / 8 = m := ⟨_,rfl⟩
 have ht : ((n : Int) + 7).tdiv 8 = (m : Int) := by rw [Int.tdiv_eq_ediv_of_nonneg (by omega)];omega
 have hed : ((n : Int) + 7) / 8 = (m : Int) := by omega
 have hmk := fun (w : World) => run_make (P := Tryz.prog) w 62 5 i5 _ Tryz.underlying62 hi0 hi1 .i64 .i64 (m : Int) (m : Int) (by omega) (by omega) (by rw [hi3];omega) (by omega)
 have hmc : madeCells (Value.cells (.int .u8 0)) ((m : Int).toNat * i5.size) = (bcells (List.replicate m 0)).toArray := by rw [hi2,Nat.mul_one,Int.toNat_natCast];exact made_zero m
 rw [hmc,Int.toNat_natCast] at hmk
 have hcv := fun (w : World) => conv_blk (w := w.alloc (.cells (bcells (List.replicate m 0)).toArray 5)) (b := w.heap.size) (c := m) (l := List.replicate m 0) (Blk.new w _ 5) (fun j hj => by simp [bcells] at hj ⊢;simp [hj])
 rw [List.length_replicate] at hcv
 have HV := Lib.hid (show spv (List.replicate n false) = .agg #[.int .i64 n, .string (mk (List.replicate m 0))] by unfold spv;rw [List.length_replicate,packB_zero,hm])
 obtain ⟨X,hX⟩ : ∃ X,mk (List.replicate m (0 : UInt8)) = X := ⟨_,rfl⟩
 rw [hX] at hcv HV
 have hcv := hcv (w.alloc (.cells #[.int .i64 0, .string ⟨#[]⟩] 76))
 rw [World.size_alloc] at hcv
 clear hX hm hmc
 go_enter Tryz.func100,Tryz.ntmps100
 go_wp2
 refine bodyPost_ret (v := .tuple #[.agg #[.int .i64 n, .string X], .int .i64 0]) ?_ rfl ?_
 ·rw [results_cell_tmp Tryz.results100]
  go_simp
 ·exact ⟨by rw [HV.out],((Below.refl _ w).alloc (Nat.le_refl _) _).alloc (by simp) _⟩
theorem bytes_any (T : List Bool) (w : World) : Calls Tryz.prog 87 #[spv T] w fun e w' => e = .returned (.string (mk (packB T))) ∧ Below w.heap.size w w' := by
 unfold spv
 obtain ⟨X,hX⟩ : ∃ X,mk (packB T) = X := ⟨_,rfl⟩
 obtain ⟨n,hn⟩ : ∃ n,T.length = n := ⟨_,rfl⟩
 rw [hX,hn]
 clear hX hn
 go_enter Tryz.func87,Tryz.ntmps87
 go_wp2
 go_ret
 exact ⟨rfl,below_alloc _ _⟩
theorem pack_byte (T : List Bool) (i : Nat) (hi : i < T.length) : ∃ h : i / 8 < (mk (packB T)).size,(mk (packB T))[i / 8]'h = UInt8.ofNat (byteN T (i / 8)) := by
 have hl : (mk (packB T)).size = (T.length + 7) / 8 := by rw [mk_size,packB_length]
 refine ⟨by omega, ?_⟩
 have h1 := packB_at T (i / 8) (by omega)
 have h2 : (mk (packB T)).data.toList[i / 8]? = some (UInt8.ofNat (byteN T (i / 8))) := by rw [mk_data];exact h1
 rw [Array.getElem?_toList,Array.getElem?_eq_getElem (by show i / 8 < (mk (packB T)).size;omega)] at h2
 exact Option.some.inj h2
theorem and_one8 : ∀ m : Fin 256,bits .and .u8 (m.val : Int) 1 = ((m.val % 2 : Nat) : Int) := by decide +kernel
theorem bit_at (c : UInt8) (k : Nat) : bits .and .u8 ((c.toNat : Int) / 2 ^ k) 1 = ((c.toNat / 2 ^ k % 2 : Nat) : Int) := by
 have e : (c.toNat : Int) / 2 ^ k = ((c.toNat / 2 ^ k : Nat) : Int) := by push_cast;rfl
 rw [e]
 exact and_one8 ⟨c.toNat / 2 ^ k,Nat.lt_of_le_of_lt (Nat.div_le_self _ _) c.toNat_lt⟩
theorem bitN_eq (T : List Bool) (i : Nat) : (((bitN T i : Nat) : Int) == 1) = T.getD i false := by
 unfold bitN
 cases T.getD i false <;> rfl
set_option maxRecDepth 100000 in
theorem has_sp (T : List Bool) (i : Nat) (w : World) (hi : i < T.length) (hn : T.length ≤ 4096) : Calls Tryz.prog 109 #[spv T, .int .i64 i] w fun e w' => e = .returned (.bool (T.getD i false)) ∧ Below w.heap.size w w' := by
 unfold spv
 obtain ⟨j,hjj⟩ : ∃ j,i / 8 = j := ⟨_,rfl⟩
 obtain ⟨k,hkk⟩ : ∃ k,i % 8 = k := ⟨_,rfl⟩
 obtain ⟨c,X,hX,hcT,hj,hb⟩ : ∃ (c : UInt8) (X : ByteArray),mk (packB T) = X ∧ c.toNat = byteN T j ∧ ∃ h : j < X.size,X[j]'h = c := by
  obtain ⟨h1,h2⟩ := pack_byte T i hi
  subst hjj
  exact ⟨_,_,rfl,by rw [UInt8.toNat_ofNat',Nat.mod_eq_of_lt (byteN_lt T _)],h1,h2⟩
 obtain ⟨n,hn2⟩ : ∃ n,T.length = n := ⟨_,rfl⟩
 rw [hX]
 rw [hn2] at hi hn ⊢
 have hk8 : k < 8 := by omega
 have h0 : (0 : Int) ≤ (i : Int) := by omega
 have h1 : (i : Int) < (n : Int) := by omega
 have ht : (i : Int).tdiv 8 = (j : Int) := by rw [Int.tdiv_eq_ediv_of_nonneg (by omega)];omega
 have hm : (i : Int).tmod 8 = (k : Int) := by rw [Int.tmod_eq_emod_of_nonneg (by omega)];omega
 have j0 : (0 : Int) ≤ (j : Int) := by omega
 have j1 : (j : Int) < (X.size : Int) := by omega
 have k0 : (0 : Int) ≤ (k : Int) := by omega
 have k1 : (k : Int) ≤ 8 := by omega
 have j2 : (j : Int) ≤ 512 := by omega
 have wj : wrap64 (j : Int) = (j : Int) := Go.IntWalk.wrap64_in _ (by omega)
 have wk : wrap64 (k : Int) = (k : Int) := Go.IntWalk.wrap64_in _ (by omega)
 have HB := Lib.hid (show c.toNat / 2 ^ k % 2 = bitN T i by rw [hcT,byteN_bit T j k hk8,show 8 * j + k = i by omega])
 clear hX hn2 hjj hkk hcT
 go_enter Tryz.func109,Tryz.ntmps109
 go_wp2
 go_ret
 refine ⟨?_,below_alloc _ _⟩
 show Ending.returned (.bool (bits .and .u8 ((c.toNat : Int) / 2 ^ k) 1 == 1)) = _
 rw [bit_at,HB.out,bitN_eq]
open Go.RowKit
def Buf (w : World) (g : Nat) (e : TypeId) (bs : List Nat) : Prop :=
 ∃ (pad : List Value) (lo hi : Nat),w.heap[g]? = some (.cells ((bs.map (fun b : Nat => Value.int .u8 (b : Int))) ++ pad).toArray e (lo,hi)) ∧ (lo = hi ∨ bs.length ≤ lo)

theorem Buf.lt {w : World} {g : Nat} {e : TypeId} {bs : List Nat} (h : Buf w g e bs) : g < w.heap.size := by
 obtain ⟨pad,lo,hi,h,_⟩ := h
 rcases Nat.lt_or_ge g w.heap.size with hlt | hge
 ·exact hlt
 ·rw [Array.getElem?_eq_none hge] at h;cases h
theorem Buf.keep {w w' : World} {g : Nat} {e : TypeId} {bs : List Nat} (h : Buf w g e bs) (hk : w'.heap[g]? = w.heap[g]?) : Buf w' g e bs := by
 obtain ⟨pad,lo,hi,h,hf⟩ := h
 exact ⟨pad,lo,hi,hk.trans h,hf⟩
theorem Buf.drew {w : World} {g : Nat} {e : TypeId} {bs : List Nat} (h : Buf w g e bs) : Buf w.drew g e bs := h
theorem Buf.alloc {w : World} {g : Nat} {e : TypeId} {bs : List Nat} (h : Buf w g e bs) (o : Obj) : Buf (w.alloc o) g e bs := h.keep (Below.heap_alloc w o g h.lt)
theorem Buf.far {w : World} {g : Nat} {e : TypeId} {bs : List Nat} (h : Buf w g e bs) {p : Addr} (hp : g ≠ p.block) (u : Value) : Buf (w.setCell p u) g e bs := h.keep (Below.heap_setCell w p u g hp)
theorem Buf.cell {w : World} {g : Nat} {e : TypeId} {bs : List Nat} (h : Buf w g e bs) {i : Nat} (hi : i < bs.length) : w.cell? ⟨g,i,none⟩ = some (.int .u8 (bs[i] : Int)) := by
 obtain ⟨pad,lo,hi',h,_⟩ := h
 unfold World.cell?
 rw [h]
 simp [List.getElem?_append_left,hi]
theorem Buf.frozen {w : World} {g : Nat} {e : TypeId} {bs : List Nat} (h : Buf w g e bs) {i : Nat} (hi : i < bs.length) : w.frozen? ⟨g,i,none⟩ = false := by
 obtain ⟨pad,lo,hi',h,hf⟩ := h
 unfold World.frozen?
 rw [h]
 simp
 omega
theorem Buf.set {w : World} {g : Nat} {e : TypeId} {bs : List Nat} (h : Buf w g e bs) {i : Nat} (hi : i < bs.length) (b : Nat) : Buf (w.setCell ⟨g,i,none⟩ (.int .u8 (b : Int))) g e (bs.set i b) := by
 obtain ⟨pad,lo,hi',h,hf⟩ := h
 refine ⟨pad,lo,hi', ?_,by simpa using hf⟩
 simp only [World.setCell,Array.getElem?_modify,h]
 simp [List.map_set,hi]

theorem bytesRow_eq (s : ByteArray) (cap : Nat) : bytesRow s cap = (((s.data.toList.map UInt8.toNat).map (fun b : Nat => Value.int .u8 (b : Int))) ++ List.replicate (cap - s.size) (Value.int .u8 0)).toArray := by
 unfold bytesRow
 apply Array.ext'
 simp [Function.comp_def]

theorem wpList_bytes {P : Program} {w : World} {ops : Array Oper} {rest : List Oper} {o : Oper} {a : Act} {Q : Exit → Act → World → Prop} (hgd : o.guard = none) (x : Operand) (src dst e : TypeId)
  (ho : o.op = .convert src dst x) (hs : P.underlying src = some .string) (hd : P.underlying dst = some (.slice e)) (he : P.underlying e = some (.int .u8))
  (s : ByteArray) (hx : a.eval x = .string s)
  (h : ∀ (cap : Nat) (w' : World),Buf w' w.heap.size e (s.data.toList.map UInt8.toNat) → Below w.heap.size w w' → w'.heap.size = w.heap.size + 1 →
   wpList P ops Q rest (a.put o.dst (.slice (some ⟨w.heap.size,0,none⟩) s.size cap)) w') : wpList P ops Q (o :: rest) a w := by
 refine wpList_plain hgd fun _ hK => ?_
 unfold Oper.wp execOp
 simp only [ho,hx,Sem.run_bind,run_bytes_of_string w src dst e s hs hd he,Result.andThen_ok,Sem.run_pure]
 refine hK _ _ (h _ _ ?_ ?_ ?_)
 ·refine ⟨List.replicate (grownCap w s.size 0 e - s.size) (Value.int .u8 0),(bytesRow s (grownCap w s.size 0 e)).size,(bytesRow s (grownCap w s.size 0 e)).size + 1, ?_, .inr ?_⟩
  ·rw [← bytesRow_eq]
   exact heap_alloc_new w.drew _
  ·rw [bytesRow_eq];simp
 ·exact ((Below.refl _ _).drew).alloc (by simp) _
 ·simp

open Go.RowKit
def turn1 (taken : Bool) : List Bool → Nat → Nat → Option (List Bool)
 | T,_,0 => some T
 | T,i,m + 1 => if T.getD i false = taken then none else turn1 taken (T.set i (!T.getD i false)) (i + 1) m
def turnS (taken : Bool) : List Bool → List (Nat × Nat) → Option (List Bool)
 | T,[] => some T
 | T,x :: l => if x.2 < 1 ∨ T.length < x.1 ∨ T.length - x.1 < x.2 then none else (turn1 taken T x.1 x.2).bind fun T' => turnS taken T' l
def ecells (l : List (Nat × Nat)) : List Value := l.flatMap fun x => [.int .i64 x.1, .int .i64 x.2]
theorem turn1_len (taken : Bool) : ∀ (m : Nat) (T : List Bool) (i : Nat) (T' : List Bool),turn1 taken T i m = some T' → T'.length = T.length := by
 intro m
 induction m with
 | zero => intro T i T' h;cases h;rfl
 | succ m ih =>
  intro T i T' h
  rw [turn1] at h
  split at h
  ·cases h
  ·have := ih _ _ _ h
   rw [this,List.length_set]
theorem ecells_at (l : List (Nat × Nat)) : ∀ j (h : j < l.length),(ecells l)[j * 2]? = some (.int .i64 l[j].1) ∧ (ecells l)[j * 2 + 1]? = some (.int .i64 l[j].2) := by
 induction l with
 | nil => intro j h;simp at h
 | cons x S ih =>
  intro j h
  have e : ecells (x :: S) = .int .i64 x.1 :: .int .i64 x.2 :: ecells S := by unfold ecells;rfl
  rw [e]
  cases j with
  | zero => exact ⟨rfl,rfl⟩
  | succ j =>
   have := ih j (by simpa using h)
   rw [show (j + 1) * 2 = j * 2 + 1 + 1 by omega]
   simpa using this
theorem ecells_length (l : List (Nat × Nat)) : (ecells l).length = l.length * 2 := by
 induction l with
 | nil => rfl
 | cons x S ih => unfold ecells at ih ⊢;rw [List.flatMap_cons,List.length_append,ih];simp;omega
theorem and_oneN (m : Nat) (h : m < 256) : bits .and .u8 (m : Int) 1 = ((m % 2 : Nat) : Int) := and_one8 ⟨m,h⟩
theorem xor_8 (a b : Nat) (ha : a < 256) (hb : b < 256) : bits .xor .u8 (a : Int) (b : Int) = ((a ^^^ b : Nat) : Int) := by
 have hx : a ^^^ b < 2 ^ 8 := Nat.xor_lt_two_pow (by omega) (by omega)
 have h1 : (BitVec.ofInt 8 (a : Int)).toNat = a := by rw [BitVec.ofInt_natCast,BitVec.toNat_ofNat];exact Nat.mod_eq_of_lt (by omega)
 have h2 : (BitVec.ofInt 8 (b : Int)).toNat = b := by rw [BitVec.ofInt_natCast,BitVec.toNat_ofNat];exact Nat.mod_eq_of_lt (by omega)
 show IntKind.u8.wrap ((BitVec.ofInt 8 (a : Int) ^^^ BitVec.ofInt 8 (b : Int)).toNat : Int) = _
 rw [BitVec.toNat_xor,h1,h2]
 simp [IntKind.wrap,IntKind.bits,IntKind.signed]
 omega
theorem pack_nat (T : List Bool) (j : Nat) (h : j < (T.length + 7) / 8) : ((packB T).map UInt8.toNat)[j]? = some (byteN T j) := by
 rw [List.getElem?_map,packB_at T j h,Option.map_some,UInt8.toNat_ofNat',Nat.mod_eq_of_lt (byteN_lt T j)]
theorem xor_lt (T : List Bool) (j k : Nat) (hk : k < 8) : byteN T j ^^^ 2 ^ k < 256 := Nat.xor_lt_two_pow (n := 8) (byteN_lt T j) (Nat.pow_lt_pow_right (by omega) hk)
theorem pack_turn_nat (T : List Bool) (i : Nat) (hi : i < T.length) : (packB (T.set i (!T.getD i false))).map UInt8.toNat = ((packB T).map UInt8.toNat).set (i / 8) (byteN T (i / 8) ^^^ 2 ^ (i % 8)) := by
 rw [packB_turn T i hi,List.map_set,UInt8.toNat_ofNat',Nat.mod_eq_of_lt (xor_lt T _ _ (by omega))]
def turnV : Option (List Bool) → Value
 | some T => .tuple #[spv T, .int .i64 0]
 | none => .tuple #[.agg #[.int .i64 0, .string ⟨#[]⟩], .int .i64 1]
set_option maxRecDepth 100000 in
set_option maxHeartbeats 2000000 in
theorem turn_any (taken : Bool) (T : List Bool) (l : List (Nat × Nat)) (A : Option Addr) (cap : Nat) (w : World) (hn : T.length ≤ 4096) (hl : Lies w A (ecells l)) (hb : ∀ x ∈ l,x.1 ≤ 2199023255552 ∧ x.2 ≤ 2199023255552) (hll : l.length ≤ 1000000) :
  Calls Tryz.prog 79 #[spv T, .slice A l.length cap, .bool taken] w fun e w' => e = .returned (turnV (turnS taken T l)) ∧ Below w.heap.size w w' := by
 obtain ⟨R,hR⟩ : ∃ R,turnS taken T l = R := ⟨_,rfl⟩
 rw [hR]
 have HRR := Lib.hid hR
 unfold spv
 obtain ⟨X,hX⟩ : ∃ X,mk (packB T) = X := ⟨_,rfl⟩
 obtain ⟨n,hn2⟩ : ∃ n,T.length = n := ⟨_,rfl⟩
 obtain ⟨q,hq⟩ : ∃ n,l.length = n := ⟨_,rfl⟩
 rw [hn2] at hn
 rw [hq] at hll
 rw [hX,hn2,hq]
 have HX := Lib.hid hX
 have HN := Lib.hid hn2
 have HQ := Lib.hid hq
 have HL := Lib.hid hl
 have HBB := Lib.hid hb
 clear hR hX hn2 hq hl hb
 go_enter Tryz.func79,Tryz.ntmps79
 have mixed := mixedT
 have HD0 : Hid (X.data.toList.map UInt8.toNat = (packB T).map UInt8.toNat) := Lib.hid (by rw [← HX.out,mk_data])
 go_wp2_with (with_reducible refine wpList_bytes rfl (.tmp 13) 9 62 5 rfl Tryz.underlying9 Tryz.underlying62 Tryz.underlying5 X rfl ?_;intro cp w1 hbuf hbel hsz)
 have hbW : Below w.heap.size w w1 := (((Below.refl _ w).alloc (Nat.le_refl _) _).alloc (by simp) _).trans (hbel.mono (by simp;omega))
 have hB0 : Blk w1 w.heap.size #[.int .i64 n, .string X] 76 := ((Blk.new w #[.int .i64 n, .string X] 76).alloc _).below hbel
 have hB1 : Blk w1 (w.heap.size + 1) #[.int .i64 0, .string ⟨#[]⟩] 76 := by
  have := (Blk.new (w.alloc (.cells #[.int .i64 n, .string X] 76)) #[.int .i64 0, .string ⟨#[]⟩] 76).below hbel
  rwa [World.size_alloc] at this
 rw [HD0.out] at hbuf
 simp only [World.size_alloc] at hbuf
 obtain ⟨H,hH⟩ : ∃ H,w.heap.size = H := ⟨_,rfl⟩
 obtain ⟨G,hG⟩ : ∃ G,H + 1 + 1 = G := ⟨_,rfl⟩
 have HH := Lib.hid hH
 have hxz : (X.size : Int) = ((n + 7) / 8 : Nat) := by rw [← HX.out,mk_size,packB_length,HN.out]
 obtain ⟨xz,hxz2⟩ : ∃ z,X.size = z := ⟨_,rfl⟩
 have HXZ := Lib.hid (show xz = (n + 7) / 8 by omega)
 simp only [hH,hG,hxz2] at hB0 hB1 hbuf hbW ⊢
 have HB0 := Lib.hid hB0
 have HB1 := Lib.hid hB1
 have HBU := Lib.hid hbuf
 have HBW := Lib.hid hbW
 clear hB0 hB1 hbuf hbW hbel hsz hxz hxz2 HD0 hH
 go_loopw [17] (fun kv wr => ∃ (k : Nat) (U : List Bool),k ≤ q ∧ kv = .int .i64 k ∧ U.length = n ∧ turnS taken U (l.drop k) = R ∧ Buf wr G 5 ((packB U).map UInt8.toNat) ∧ Blk wr H #[.int .i64 n, .string X] 76 ∧ Blk wr (H + 1) #[.int .i64 0, .string ⟨#[]⟩] 76 ∧ Below H w wr) (fun kv _ => q - (intOf kv).toNat)
 case atStart => exact ⟨0,T,by omega,rfl,HN.out,by rw [List.drop_zero];exact HRR.out,HBU.out,HB0.out,HB1.out,HBW.out⟩
 case round =>
  clear HBU HB0 HB1 HBW
  obtain ⟨k,U,hk,rfl,hU,hR,hbu,hB0,hB1,hb⟩ := hrel
  have hwr := hb.size
  have hHw : H ≤ w.heap.size := by rw [HH.out];exact Nat.le_refl _
  have k0 : (0 : Int) ≤ (k : Int) := by omega
  by_cases hkq : k < q
  ·have k1 : (k : Int) < (q : Int) := by omega
   have hkl : k < l.length := by rw [HQ.out];exact hkq
   have hlies := (HL.out.below (B := H) (by rw [HH.out];exact Nat.le_refl _) hb)
   obtain ⟨g,o,rfl,hgl,hcs⟩ := hlies (by rw [ecells_length];omega)
   obtain ⟨e0,e1⟩ := ecells_at l k hkl
   have c0 := hcs _ _ e0
   have c1 := hcs _ _ e1
   obtain ⟨b1,b2⟩ := HBB.out _ (List.getElem_mem hkl)
   have hdr : l.drop k = l[k] :: l.drop (k + 1) := List.drop_eq_getElem_cons hkl
   rw [hdr,turnS] at hR
   obtain ⟨f,hf⟩ : ∃ f,l[k].1 = f := ⟨_,rfl⟩
   obtain ⟨N,hN⟩ : ∃ f,l[k].2 = f := ⟨_,rfl⟩
   rw [hf] at c0 b1 hR
   rw [hN] at c1 b2 hR
   rw [hU] at hR
   rw [← Nat.add_assoc] at c1
   have f0 : (0 : Int) ≤ (f : Int) := by omega
   have N0 : (0 : Int) ≤ (N : Int) := by omega
   have hB1c0 := hB1.cell 0
   have hB1c1 := hB1.cell 1
   have hB1f0 := hB1.frozen 0
   have hB1f1 := hB1.frozen 1
   have hB0c := hB0.cell 0
   have hHl := hB0.lt
   have hH1l := hB1.lt
   simp at hB1c0 hB1c1 hB0c
   by_cases hbad : N < 1 ∨ n < f ∨ n - f < N
   ·rw [if_pos hbad] at hR
    have HRN := Lib.hid hR
    have HB := Lib.hid hb
    clear hR hbu hB0 hB1 hb hlies hcs e0 e1 hdr hf hN
    have fin : ∀ W,Below H w W → Below w.heap.size w W := fun W h => by rw [HH.out];exact h
    have HFI := Lib.hid fin
    by_cases h1 : N < 1
    ·have h1' : (N : Int) < 1 := by omega
     clear hbad fin
     go_wp2
     refine bodyPost_ret (v := .tuple #[.agg #[.int .i64 0, .string ⟨#[]⟩], .int .i64 1]) ?_ rfl ?_
     ·rw [results_cell_tmp Tryz.results79]
      go_simp
     ·refine ⟨by rw [← HRN.out];rfl,HFI.out _ ?_⟩
      exact ((HB.out.setCell (p := ⟨H + 1,0,none⟩) (by simp) _).setCell (p := ⟨H + 1,1,none⟩) (by simp) _).alloc (by simp;omega) _
    ·have h1' : ¬ ((N : Int) < 1) := by omega
     by_cases h2 : n < f
     ·have h2' : (n : Int) < (f : Int) := by omega
      clear hbad fin
      go_wp2
      refine bodyPost_ret (v := .tuple #[.agg #[.int .i64 0, .string ⟨#[]⟩], .int .i64 1]) ?_ rfl ?_
      ·rw [results_cell_tmp Tryz.results79]
       go_simp
      ·refine ⟨by rw [← HRN.out];rfl,HFI.out _ ?_⟩
       exact ((HB.out.setCell (p := ⟨H + 1,0,none⟩) (by simp) _).setCell (p := ⟨H + 1,1,none⟩) (by simp) _).alloc (by simp;omega) _
     ·have h2' : ¬ ((n : Int) < (f : Int)) := by omega
      have h3' : (n : Int) - (f : Int) < (N : Int) := by omega
      clear hbad fin
      go_wp2
      refine bodyPost_ret (v := .tuple #[.agg #[.int .i64 0, .string ⟨#[]⟩], .int .i64 1]) ?_ rfl ?_
      ·rw [results_cell_tmp Tryz.results79]
       go_simp
      ·refine ⟨by rw [← HRN.out];rfl,HFI.out _ ?_⟩
       exact ((HB.out.setCell (p := ⟨H + 1,0,none⟩) (by simp) _).setCell (p := ⟨H + 1,1,none⟩) (by simp) _).alloc (by simp;omega) _
   ·rw [if_neg hbad] at hR
    have n1 : ¬ ((N : Int) < 1) := by omega
    have n2 : ¬ ((n : Int) < (f : Int)) := by omega
    have n3 : ¬ ((n : Int) - (f : Int) < (N : Int)) := by omega
    have hfN : f + N ≤ n := by omega
    have HR1 := Lib.hid hR
    have HBU := Lib.hid (hbu.alloc (.cells #[.int .i64 f, .int .i64 N] 90))
    have HB0 := Lib.hid (hB0.alloc (.cells #[.int .i64 f, .int .i64 N] 90))
    have HB1 := Lib.hid (hB1.alloc (.cells #[.int .i64 f, .int .i64 N] 90))
    have HB := Lib.hid (hb.alloc (by omega) (.cells #[.int .i64 f, .int .i64 N] 90))
    have HZ := Lib.hid (Blk.new wr #[.int .i64 f, .int .i64 N] 90)
    have hGl := hbu.lt
    clear hR hbu hB0 hB1 hb hlies hcs e0 e1 hdr hf hN hbad
    go_wp2
    obtain ⟨Z,hZ⟩ : ∃ Z,wr.heap.size = Z := ⟨_,rfl⟩
    obtain ⟨W2,hW2⟩ : ∃ u,wr.alloc (.cells #[.int .i64 f, .int .i64 N] 90) = u := ⟨_,rfl⟩
    rw [hW2] at HBU HB0 HB1 HB HZ ⊢
    rw [hZ] at HZ hwr hHl hH1l hGl
    simp only [hZ]
    have hUt := Lib.hid hU
    clear hW2 hZ c0 c1 hB1c0 hB1c1 hB1f0 hB1f1 hB0c
    go_loopw [11] (fun iv wx => ∃ (m : Nat) (V : List Bool),m ≤ N ∧ iv = .int .i64 ((f : Int) + (m : Int)) ∧ V.length = n ∧ ((turn1 taken V (f + m) (N - m)).bind fun T' => turnS taken T' (l.drop (k + 1))) = R ∧ Buf wx G 5 ((packB V).map UInt8.toNat) ∧ Blk wx H #[.int .i64 n, .string X] 76 ∧ Blk wx (H + 1) #[.int .i64 0, .string ⟨#[]⟩] 76 ∧ Blk wx Z #[.int .i64 f, .int .i64 N] 90 ∧ Below H w wx) (fun iv _ => N - ((intOf iv).toNat - f))
    case atStart => exact ⟨0,U,by omega,by simp,hUt.out,HR1.out,HBU.out,HB0.out,HB1.out,HZ.out,HB.out⟩
    case round =>
     clear HR1 HBU HB0 HB1 HB HZ
     obtain ⟨m,V,hm,rfl,hV,hR,hbu,hB0,hB1,hZ,hb⟩ := hrel
     have z0 := hZ.cell 0
     have z1 := hZ.cell 1
     have o0 := hB1.cell 0
     have o1 := hB1.cell 1
     have p0 := hB1.frozen 0
     have p1 := hB1.frozen 1
     simp at z0 z1 o0 o1
     have hZl := hZ.lt
     have hH1l := hB1.lt
     obtain ⟨i,hi⟩ : ∃ i,f + m = i := ⟨_,rfl⟩
     have hii : (f : Int) + (m : Int) = (i : Int) := by omega
     rw [hii]
     rw [hi] at hR
     by_cases hmN : m < N
     ·have i0 : (0 : Int) ≤ (i : Int) := by omega
      have i1 : (i : Int) < (f : Int) + (N : Int) := by omega
      rw [show N - m = (N - (m + 1)) + 1 by omega,turn1] at hR
      have hiV : i < V.length := by omega
      obtain ⟨j,hj⟩ : ∃ j,i / 8 = j := ⟨_,rfl⟩
      obtain ⟨t,ht⟩ : ∃ t,i % 8 = t := ⟨_,rfl⟩
      have ht8 : t < 8 := by omega
      have hjl : j < (V.length + 7) / 8 := by omega
      have hjb : j < ((packB V).map UInt8.toNat).length := by rw [List.length_map,packB_length];exact hjl
      have hbv : ((packB V).map UInt8.toNat)[j] = byteN V j := by
       have := pack_nat V j hjl
       rw [List.getElem?_eq_getElem hjb] at this
       exact Option.some.inj this
      have cb := hbu.cell hjb
      have fb := hbu.frozen hjb
      rw [hbv] at cb
      obtain ⟨B,hB⟩ : ∃ B,byteN V j = B := ⟨_,rfl⟩
      have hB256 : B < 256 := by rw [← hB];exact byteN_lt V j
      have hbt : B / 2 ^ t % 2 = bitN V i := by rw [← hB,byteN_bit V j t ht8,show 8 * j + t = i by omega]
      rw [hB] at cb
      have td : (i : Int).tdiv 8 = (j : Int) := by rw [Int.tdiv_eq_ediv_of_nonneg (by omega)];omega
      have tm : (i : Int).tmod 8 = (t : Int) := by rw [Int.tmod_eq_emod_of_nonneg (by omega)];omega
      have j0 : (0 : Int) ≤ (j : Int) := by omega
      have j1 : (j : Int) < (xz : Int) := by have := HXZ.out;omega
      have j2 : (j : Int) ≤ 512 := by omega
      have t0 : (0 : Int) ≤ (t : Int) := by omega
      have t1 : (t : Int) ≤ 8 := by omega
      have hand : bits .and .u8 ((B : Int) / 2 ^ t) 1 = ((bitN V i : Nat) : Int) := by
       rw [show (B : Int) / 2 ^ t = ((B / 2 ^ t : Nat) : Int) by push_cast;rfl,and_oneN _ (Nat.lt_of_le_of_lt (Nat.div_le_self _ _) hB256),hbt]
      have hbit := bitN_eq V i
      obtain ⟨b,hbb⟩ : ∃ b,V.getD i false = b := ⟨_,rfl⟩
      rw [hbb] at hbit hR
      obtain ⟨bn,hbn⟩ : ∃ b,((bitN V i : Nat) : Int) = b := ⟨_,rfl⟩
      rw [hbn] at hand hbit
      have HTN := Lib.hid (pack_turn_nat V i hiV)
      have HBB2 := Lib.hid hbb
      have HJT := Lib.hid (And.intro hj (And.intro ht hB))
      clear hbv hB hj ht hbt hbb hbn
      have HID := Lib.hid (show m < N ∧ V.length = n ∧ f + m = i ∧ i < V.length ∧ B < 256 ∧ t < 8 ∧ j < ((packB V).map UInt8.toNat).length ∧ f + N ≤ n ∧ k < q ∧ k < l.length ∧ G < Z from ⟨hmN,hV,hi,hiV,hB256,ht8,hjb,hfN,hkq,hkl,hGl⟩)
      clear hmN hV hi hiV hB256 ht8 hjb hjl hkq hkl hk hm hU hUt n1 n2 n3 hgl hHw k0 k1 hwr hGl hii
      by_cases he : b = taken
      ·rw [if_pos he] at hR
       subst he
       have HRN := Lib.hid hR
       have HB := Lib.hid hb
       clear hR hbu hB0 hB1 hZ hb
       go_wp2
       refine bodyPost_ret (v := .tuple #[.agg #[.int .i64 0, .string ⟨#[]⟩], .int .i64 1]) ?_ rfl ?_
       ·rw [results_cell_tmp Tryz.results79]
        go_simp
       ·refine ⟨by rw [← HRN.out];rfl, ?_⟩
        rw [HH.out]
        exact (HB.out.setCell (p := ⟨H + 1,0,none⟩) (by simp) _).setCell (p := ⟨H + 1,1,none⟩) (by simp) _
      ·rw [if_neg he] at hR
       have hne : (b == taken) = false := by cases b <;> cases taken <;> simp_all
       have HRN := Lib.hid hR
       have HBU := Lib.hid hbu
       have HB0 := Lib.hid hB0
       have HB1 := Lib.hid hB1
       have HZ := Lib.hid hZ
       have HB := Lib.hid hb
       clear hR hbu hB0 hB1 hZ hb he
       go_upto_region 12 with fail
       have wi : IntKind.i64.wrap (j : Int) = (j : Int) := by rw [Go.IntWalk.i64_left,Go.IntWalk.wrap64_in _ (by omega)]
       obtain ⟨e1,e2,e3,e4,hB256,ht8,hjb,e5,e6,e7,hGZ⟩ := HID.out
       have h256 : 2 ^ t < 2 ^ 8 := Nat.pow_lt_pow_right (by omega) ht8
       have h256 : 2 ^ t < 256 := h256
       have wsh : IntKind.u8.wrap ((2 : Int) ^ t) = ((2 ^ t : Nat) : Int) := by
        rw [show ((2 : Int) ^ t) = ((2 ^ t : Nat) : Int) by push_cast;rfl]
        generalize 2 ^ t = z at h256
        simp [IntKind.wrap,IntKind.bits,IntKind.signed]
        omega
       have hx8 := xor_8 B (2 ^ t) hB256 h256
       have HX8 := Lib.hid (show ((packB (V.set i (!b))).map UInt8.toNat) = ((packB V).map UInt8.toNat).set j (B ^^^ 2 ^ t) by
        have h1 := HTN.out
        rw [HBB2.out,HJT.out.1,HJT.out.2.1,HJT.out.2.2] at h1
        exact h1)
       obtain ⟨Q,hQ⟩ : ∃ Q,2 ^ t = Q := ⟨_,rfl⟩
       rw [hQ] at hx8 HX8
       have wq : IntKind.u8.wrap (Q : Int) = (Q : Int) := by
        have h256 : Q < 256 := by rw [← hQ];exact h256
        simp [IntKind.wrap,IntKind.bits,IntKind.signed]
        omega
       have hq2 : ((2 : Int) ^ t) = (Q : Int) := by rw [← hQ];push_cast;rfl
       clear wsh
       obtain ⟨M,hM⟩ : ∃ M,B ^^^ Q = M := ⟨_,rfl⟩
       rw [hM] at hx8 HX8
       clear hQ hM h256 e1 e2 e3 e4 e5 e6 e7 hB256 ht8
       refine wp_region_S 10 (fun _ => True) (fun w' => w'.cell? ⟨G,j,none⟩ = some (.int .u8 (B : Int))) mixed ?_
       change wpAnyS _ _ _ _ _ _ _ _ _ _ wr.drew
       have cbd : wr.drew.cell? ⟨G,j,none⟩ = some (.int .u8 (B : Int)) := cb
       have fbd : wr.drew.frozen? ⟨G,j,none⟩ = false := fb
       have HBU := Lib.hid (show Buf wr.drew G 5 ((packB V).map UInt8.toNat) from HBU.out)
       have HB0 := Lib.hid (show Blk wr.drew H #[.int .i64 n, .string X] 76 from HB0.out)
       have HB1 := Lib.hid (show Blk wr.drew (H + 1) #[.int .i64 0, .string ⟨#[]⟩] 76 from HB1.out)
       have HZ := Lib.hid (show Blk wr.drew Z #[.int .i64 f, .int .i64 N] 90 from HZ.out)
       have HB := Lib.hid (HB.out.drew)
       obtain ⟨W5,hW5⟩ : ∃ u,wr.drew = u := ⟨_,rfl⟩
       rw [hW5] at cbd fbd HBU HB0 HB1 HZ HB ⊢
       clear hW5 cb fb z0 z1 o0 o1 p0 p1
       have HE0 : ∀ L : Array Bool,HeldS 10 (fun _ => True) (fun w' => w'.cell? ⟨G,j,none⟩ = some (.int .u8 (B : Int))) L W5 := fun L => ⟨trivial,fun _ => cbd⟩
       refine tkS 0 (.slice (some ⟨G,0,none⟩) xz cp) rfl (HE0 _) (fun w' hS => ?_) ?_
       ·clear hS;go_simp
       try go_simp
       refine tkS 1 (.int .i64 i) rfl (HE0 _) (fun w' hS => ?_) ?_
       ·clear hS;go_simp
       try go_simp
       refine tkS 2 (.int .i64 j) rfl (HE0 _) (fun w' hS => ?_) ?_
       ·clear hS;go_simp
       try go_simp
       refine tkS 3 (.pointer (some ⟨G,j,none⟩)) rfl (HE0 _) (fun w' hS => ?_) ?_
       ·clear hS;go_simp
       try go_simp
       refine wpAnyS_take2 (i := 4) (v := .int .u8 B) rfl (by decide) rfl (by kernel_rfl) (by kernel_rfl) (by kernel_rfl) (by kernel_rfl) (by kernel_rfl) (fun c a w h => h) (.inl ⟨by kernel_rfl,fun w' hS => ?_⟩) (HE0 _) ?_
       ·have hS0 := hS.2;go_simp
       try go_simp
       refine tkS 5 (.int .i64 i) rfl (HE0 _) (fun w' hS => ?_) ?_
       ·clear hS;go_simp
       try go_simp
       refine tkS 6 (.int .i64 t) rfl (HE0 _) (fun w' hS => ?_) ?_
       ·clear hS;go_simp
       try go_simp
       refine tkS 7 (.int .u8 Q) rfl (HE0 _) (fun w' hS => ?_) ?_
       ·clear hS;go_simp
       try go_simp
       refine tkS 8 (.int .u8 M) rfl (HE0 _) (fun w' hS => ?_) ?_
       ·clear hS;go_simp
       try go_simp
       refine tkS 9 (.pointer (some ⟨G,j,none⟩)) rfl (HE0 _) (fun w' hS => ?_) ?_
       ·clear hS;go_simp
       try go_simp
       refine wpAnyS_all (rs := [10]) (by kernel_rfl) (by simp) ?_
       intro ix hix
       simp only [List.mem_cons,List.not_mem_nil,or_false] at hix
       subst hix
       unfold wpOp
       go_simp
       have hBU2 := HBU.out.set (i := j) hjb M
       rw [← HX8.out] at hBU2
       have hB02 : Blk (W5.setCell ⟨G,j,none⟩ (.int .u8 (M : Int))) H #[.int .i64 n, .string X] 76 := (Below.heap_setCell W5 ⟨G,j,none⟩ _ H (by simp only;omega)).trans HB0.out
       have hB12 : Blk (W5.setCell ⟨G,j,none⟩ (.int .u8 (M : Int))) (H + 1) #[.int .i64 0, .string ⟨#[]⟩] 76 := (Below.heap_setCell W5 ⟨G,j,none⟩ _ (H + 1) (by simp only;omega)).trans HB1.out
       have hZ2 : Blk (W5.setCell ⟨G,j,none⟩ (.int .u8 (M : Int))) Z #[.int .i64 f, .int .i64 N] 90 := (Below.heap_setCell W5 ⟨G,j,none⟩ _ Z (by simp only;omega)).trans HZ.out
       have hBe2 := HB.out.setCell (p := ⟨G,j,none⟩) (by simp only;omega) (.int .u8 (M : Int))
       have HFN := Lib.hid (And.intro hBU2 (And.intro hB02 (And.intro hB12 (And.intro hZ2 hBe2))))
       have HE1 : ∀ L : Array Bool,L.getD 10 false = true → HeldS 10 (fun _ => True) (fun w' => w'.cell? ⟨G,j,none⟩ = some (.int .u8 (B : Int))) L (W5.setCell ⟨G,j,none⟩ (.int .u8 (M : Int))) := fun L hL => ⟨trivial,fun e => by rw [hL] at e;cases e⟩
       first | refine .inl ⟨HE1 _ (by kernel_rfl), ?_⟩ | refine ⟨HE1 _ (by kernel_rfl), ?_⟩
       refine wpAnyS_done (by kernel_rfl) ?_ _
       clear hBU2 hB02 hB12 hZ2 hBe2 HE0 HE1 cbd fbd hx8 wq hq2 wi hjb td tm
       go_wp2
       go_roundw
       case rel => exact ⟨m + 1,V.set i (!b),by have := HID.out;omega,by rw [show ((f : Int) + ((m + 1 : Nat) : Int)) = (i : Int) + 1 by have := HID.out.2.2.1;omega],by rw [List.length_set];exact HID.out.2.1,by rw [show f + (m + 1) = i + 1 by have := HID.out.2.2.1;omega];exact HRN.out,HFN.out.1,HFN.out.2.1,HFN.out.2.2.1,HFN.out.2.2.2.1,HFN.out.2.2.2.2⟩
       case measure => have := HID.out;simp [intOf];omega
     ·obtain rfl : m = N := by omega
      have i0 : (0 : Int) ≤ (i : Int) := by omega
      have i1 : ¬ ((i : Int) < (f : Int) + (m : Int)) := by omega
      rw [Nat.sub_self,turn1,Option.bind_some] at hR
      have HRN := Lib.hid hR
      have HBU := Lib.hid hbu
      have HB0 := Lib.hid hB0
      have HB1 := Lib.hid hB1
      have HB := Lib.hid hb
      have HVV := Lib.hid hV
      clear hR hbu hB0 hB1 hb hV hZ hii
      go_wp2
      go_roundw
      case rel => exact ⟨k + 1,V,by omega,by go_num,HVV.out,HRN.out,HBU.out,HB0.out,HB1.out,HB.out⟩
      case measure => simp [intOf];omega
  ·obtain rfl : k = q := by omega
   rw [List.drop_eq_nil_of_le (by rw [HQ.out];exact Nat.le_refl _),turnS] at hR
   have o0 := hB1.cell 0
   have o1 := hB1.cell 1
   have p0 := hB1.frozen 0
   have p1 := hB1.frozen 1
   have s0 := hB0.cell 0
   simp at o0 o1 s0
   have hH1l := hB1.lt
   have hHl := hB0.lt
   have hcv : (convert 62 9 (.slice (some ⟨G,0,none⟩) xz cp)).run Tryz.prog wr = .ok (.string (mk (packB U))) wr := by
    have hl : (packB U).length = xz := by rw [packB_length,HXZ.out,hU]
    rw [← hl]
    exact run_convert_bytes_back (P := Tryz.prog) wr 62 9 5 ⟨G,0,none⟩ cp (packB U) Tryz.underlying62 Tryz.underlying5 Tryz.underlying9 (fun j hj => by
     rw [add_lit',Nat.zero_add,hbu.cell (by rw [List.length_map];exact hj),List.getElem_map])
   have HV := Lib.hid (show turnV R = .tuple #[.agg #[.int .i64 n, .string (mk (packB U))], .int .i64 0] by rw [← hR, ← hU];rfl)
   obtain ⟨Y,hY⟩ : ∃ Y,mk (packB U) = Y := ⟨_,rfl⟩
   rw [hY] at hcv HV
   have HB := Lib.hid hb
   clear hR hbu hB0 hB1 hb hY hU
   go_wp2
   refine bodyPost_ret (v := .tuple #[.agg #[.int .i64 n, .string Y], .int .i64 0]) ?_ rfl ?_
   ·rw [results_cell_tmp Tryz.results79]
    go_simp
   ·refine ⟨by rw [HV.out], ?_⟩
    rw [HH.out]
    exact (HB.out.setCell (p := ⟨H + 1,0,none⟩) (by simp) _).setCell (p := ⟨H + 1,1,none⟩) (by simp) _
open Go.RowKit
def extB (l : List (Nat × Nat)) : Bs := l.flatMap fun x => putB x.1 ++ putB x.2
def bodyB (name : Bs) (size : Nat) (l : List (Nat × Nat)) : Bs := (joinB [name] ++ putB size ++ putB l.length) ++ extB l
def entryB (name : Bs) (size : Nat) (l : List (Nat × Nat)) : Bs := fullB (bodyB name size l ++ sumB (crcI (bodyB name size l)))
theorem extB_snoc (l : List (Nat × Nat)) (x : Nat × Nat) : extB (l ++ [x]) = extB l ++ (putB x.1 ++ putB x.2) := by simp [extB]
theorem extB_take (l : List (Nat × Nat)) (k : Nat) : (extB (l.take k)).length ≤ (extB l).length := by
 have : extB l = extB (l.take k) ++ extB (l.drop k) := by unfold extB;rw [← List.flatMap_append,List.take_append_drop]
 rw [this,List.length_append];omega
set_option maxRecDepth 100000 in
set_option maxHeartbeats 4000000 in
theorem entry_any (name : Bs) (en size : Nat) (A : Option Addr) (cap : Nat) (l : List (Nat × Nat)) (w : World) (hA : Lies w A (ecells l)) (hs : size ≤ 1099511627776) (hn : l.length ≤ 1000) (hl : ∀ x ∈ l,x.1 ≤ 1099511627776 ∧ x.2 ≤ 1099511627776) (hb : (bodyB name size l).length ≤ 508) (hT : TB w) (hw : 0 < w.heap.size) :
  Calls Tryz.prog 49 #[.string (mk name), .agg #[.int .i64 en, .int .i64 size, .slice A l.length cap]] w fun e w' => e = .returned (.string (mk (entryB name size l))) ∧ Below w.heap.size w w' := by
 have HBB := Lib.hid (show bodyB name size l = (joinB [name] ++ putB size ++ putB l.length) ++ extB l from rfl)
 have HEB := Lib.hid (show entryB name size l = fullB (bodyB name size l ++ sumB (crcI (bodyB name size l))) from rfl)
 have hlen := hb
 rw [HBB.out,List.length_append,List.length_append,List.length_append] at hlen
 have KJ := fun (B : Nat) (w : World) (hc : w.cell? ⟨B,0,none⟩ = some (.string (mk name))) (hB : B < w.heap.size) => join_any (some ⟨B,0,none⟩) 1 [name] w (fun _ => ⟨B,0,rfl,hB,fun j u hj => by
  have : j = 0 := by
   have := (List.getElem?_eq_some_iff.1 hj).1
   simp [txc] at this
   exact this
  subst this
  simp [txc] at hj
  subst hj
  exact hc⟩) (by simp) (by omega)
 rw [show ([name] : List Bs).length = 1 from rfl] at KJ
 have KP1 := fun w => put_any size w hs
 have KP2 := fun w => put_any l.length w (by omega)
 have hs1 := run_sum (joinB [name]) (putB size) (by omega)
 have hs2 := run_sum (joinB [name] ++ putB size) (putB l.length) (by rw [List.length_append];omega)
 obtain ⟨P,hP⟩ : ∃ q,joinB [name] ++ putB size ++ putB l.length = q := ⟨_,rfl⟩
 rw [hP] at hs2
 have HP := Lib.hid (And.intro hP (show P.length ≤ 508 by rw [← hP,List.length_append,List.length_append];omega))
 have zP := mk_size P
 obtain ⟨X,hX⟩ : ∃ q,mk name = q := ⟨_,rfl⟩
 obtain ⟨J,hJ⟩ : ∃ q,mk (joinB [name]) = q := ⟨_,rfl⟩
 obtain ⟨P1,hP1⟩ : ∃ q,mk (putB size) = q := ⟨_,rfl⟩
 obtain ⟨P2,hP2⟩ : ∃ q,mk (putB l.length) = q := ⟨_,rfl⟩
 obtain ⟨Q,hQ⟩ : ∃ q,mk (joinB [name] ++ putB size) = q := ⟨_,rfl⟩
 obtain ⟨PP,hPP⟩ : ∃ q,mk P = q := ⟨_,rfl⟩
 simp only [hX,hJ] at KJ
 rw [hP1] at KP1
 rw [hP2] at KP2
 rw [hJ,hP1,hQ] at hs1
 rw [hQ,hP2,hPP] at hs2
 rw [hPP] at zP
 rw [hX]
 have HPP := Lib.hid hPP
 obtain ⟨R,hR⟩ : ∃ q,mk (entryB name size l) = q := ⟨_,rfl⟩
 rw [hR]
 have HR := Lib.hid hR
 obtain ⟨n,hnn⟩ : ∃ q,l.length = q := ⟨_,rfl⟩
 rw [hnn] at hn KP2 ⊢
 have HN := Lib.hid hnn
 have HL := Lib.hid hA
 have HLX := Lib.hid hl
 have HT := Lib.hid (And.intro hT hw)
 have HBL := Lib.hid hb
 obtain ⟨B,hBe⟩ : ∃ q,bodyB name size l = q := ⟨_,rfl⟩
 have HBL2 := Lib.hid (show B.length ≤ 508 by rw [← hBe];exact HBL.out)
 have HBS := Lib.hid (show P ++ extB l = B by rw [← hBe,HBB.out,HP.out.1])
 have HEB2 := Lib.hid (show entryB name size l = fullB (B ++ sumB (crcI B)) by rw [← hBe];exact HEB.out)
 clear hBe HEB
 have mixed := mixedT
 clear hA hs hl hb hlen hP hX hJ hP1 hP2 hQ hPP hR hnn hT hw
 go_enter Tryz.func49,Tryz.ntmps49
 go_upto_region 2 with (fail)
 have hB0 := (Blk.new w #[.int .i64 en, .int .i64 size, .slice A n cap] 69).alloc (.cells #[.pointer none, .slice none 0 0] 93)
 have hBu0 := Lib.fresh_isBuilder 93 5 (w.alloc (.cells #[.int .i64 en, .int .i64 size, .slice A n cap] 69))
 rw [World.size_alloc] at hBu0
 have hbw0 := (below_alloc w (.cells #[.int .i64 en, .int .i64 size, .slice A n cap] 69)).alloc (by simp) (.cells #[.pointer none, .slice none 0 0] 93)
 refine wp_region_held (S := fun w' => Blk w' w.heap.size #[.int .i64 en, .int .i64 size, .slice A n cap] 69) mixed ?_
 change wpAnyH _ _ _ _ _ _ _ _ (World.alloc _ _).drew
 have hB1 : Blk ((w.alloc (.cells #[.int .i64 en, .int .i64 size, .slice A n cap] 69)).alloc (.cells #[.pointer none, .slice none 0 0] 93)).drew w.heap.size #[.int .i64 en, .int .i64 size, .slice A n cap] 69 := hB0
 have hBu1 : Lib.IsBuilder 93 5 (w.heap.size + 1) (w.heap.size + 1) [] ((w.alloc (.cells #[.int .i64 en, .int .i64 size, .slice A n cap] 69)).alloc (.cells #[.pointer none, .slice none 0 0] 93)).drew := hBu0
 have hbw1 : Below w.heap.size w ((w.alloc (.cells #[.int .i64 en, .int .i64 size, .slice A n cap] 69)).alloc (.cells #[.pointer none, .slice none 0 0] 93)).drew := hbw0.drew
 have hsz1 : ((w.alloc (.cells #[.int .i64 en, .int .i64 size, .slice A n cap] 69)).alloc (.cells #[.pointer none, .slice none 0 0] 93)).drew.heap.size = w.heap.size + 1 + 1 := by
  show ((w.alloc _).alloc _).heap.size = _
  simp
 obtain ⟨W0,hW0⟩ : ∃ q,((w.alloc (.cells #[.int .i64 en, .int .i64 size, .slice A n cap] 69)).alloc (.cells #[.pointer none, .slice none 0 0] 93)).drew = q := ⟨_,rfl⟩
 rw [hW0] at hB1 hBu1 hbw1 hsz1 ⊢
 clear hW0 hB0 hBu0 hbw0
 obtain ⟨H,hH⟩ : ∃ q,w.heap.size = q := ⟨_,rfl⟩
 rw [hH] at hB1 hBu1 hbw1 hsz1
 have HSZ1 := Lib.hid hsz1
 have hge1 : H ≤ W0.heap.size := by omega
 clear hsz1
 have HH := Lib.hid hH
 try simp only [hH]
 clear hH
 refine tkQ 0 (.string X) rfl hB1 ?_
 try go_simp
 refine tkQ 3 (.pointer (some ⟨H,1,none⟩)) rfl hB1 ?_
 try go_simp
 refine tkH 4 (.int .i64 (size : Int)) rfl hB1 (fun w' hS => ?_) ?_
 ·have q0 := hS.cell 1;simp at q0;go_simp
 try go_simp
 refine tkQ 7 (.pointer (some ⟨H,2,none⟩)) rfl hB1 ?_
 try go_simp
 refine tkH 8 (.slice A n cap) rfl hB1 (fun w' hS => ?_) ?_
 ·have q0 := hS.cell 2;simp at q0;go_simp
 try go_simp
 refine tkQ 9 (.int .i64 (n : Int)) rfl hB1 ?_
 try go_simp
 refine alH 1 ?_
 unfold wpOp
 go_simp
 have hB2 := hB1.alloc (.cells #[.string X] 9)
 have hBu2 := isb_below hBu1 (below_alloc W0 (.cells #[.string X] 9))
 have hbw2 := hbw1.alloc hge1 (.cells #[.string X] 9)
 have hX2 : (W0.alloc (.cells #[.string X] 9)).cell? ⟨W0.heap.size,0,none⟩ = some (.string X) := (Blk.new W0 #[.string X] 9).cell 0
 have hXl : W0.heap.size < (W0.alloc (.cells #[.string X] 9)).heap.size := by simp
 obtain ⟨Z,hZ⟩ : ∃ q,W0.heap.size = q := ⟨_,rfl⟩
 rw [hZ] at hX2 hXl
 try rw [hZ]
 obtain ⟨W1,hW1⟩ : ∃ q,W0.alloc (.cells #[.string X] 9) = q := ⟨_,rfl⟩
 rw [hW1] at hB2 hBu2 hbw2 hX2 hXl ⊢
 clear hW1 hB1 hBu1 hbw1
 first | refine .inl ⟨hB2, ?_⟩ | refine ⟨hB2, ?_⟩ | skip
 refine alH 2 ?_
 unfold wpOp
 go_simp
 refine .inl ?_
 go_at_call 83
 refine (KJ Z W1 hX2 hXl).mono ?_
 rintro e W2 ⟨rfl,hb2⟩
 have hB3 := hB2.below hb2
 have hBu3 := isb_below hBu2 hb2
 have hbw3 := hbw2.trans (hb2.mono (by rw [← HH.out];exact hbw2.size))
 refine ⟨hB3, ?_⟩
 refine alH 5 ?_
 unfold wpOp
 go_simp
 refine .inl ?_
 go_at_call 84
 refine (KP1 W2).mono ?_
 rintro e W3 ⟨rfl,hb3⟩
 have hB4 := hB3.below hb3
 have hBu4 := isb_below hBu3 hb3
 have hbw4 := hbw3.trans (hb3.mono (by rw [← HH.out];exact hbw3.size))
 refine ⟨hB4, ?_⟩
 refine tkQ 6 (.string Q) rfl hB4 ?_
 try go_simp
 refine alH 10 ?_
 unfold wpOp
 go_simp
 refine .inl ?_
 go_at_call 84
 refine (KP2 W3).mono ?_
 rintro e W4 ⟨rfl,hb4⟩
 have hB5 := hB4.below hb4
 have hBu5 := isb_below hBu4 hb4
 have hbw5 := hbw4.trans (hb4.mono (by rw [← HH.out];exact hbw4.size))
 refine ⟨hB5, ?_⟩
 refine tkQ 11 (.string PP) rfl hB5 ?_
 try go_simp
 have hpl := HP.out.2
 have KW := bwrite_any (H + 1) (H + 1) [] PP W4 hBu5 (by rw [zP];simp;omega) (by rcases hBu5 with h | h <;> exact Nat.le_of_lt h.lt)
 refine alH 12 ?_
 unfold wpOp
 go_simp
 refine .inl ?_
 go_at_call 45
 refine KW.mono ?_
 rintro e W5 ⟨rfl,hBu6,hb6,hoth⟩
 have hB6 : Blk W5 H #[.int .i64 en, .int .i64 size, .slice A n cap] 69 := hoth H _ _ _ (by decide) (by omega) hB5
 refine ⟨hB6, ?_⟩
 refine wpAnyH_done (by kernel_rfl) ?_ _
 have hbw6 := hbw5.trans (hb6.mono (by omega))
 have hsc : [] ++ Lib.strCells PP = Lib.byteCells P := by rw [← HPP.out];simp [Lib.strCells,Lib.byteCells,mk_data]
 rw [hsc] at hBu6
 have HBU := Lib.hid hBu6
 have HBW := Lib.hid hbw6
 have HB := Lib.hid hB6
 have c2 := hB6.cell 2
 simp at c2
 clear KJ KP1 KP2 KW hs1 hs2 zP hB2 hBu2 hbw2 hX2 hXl hb2 hB3 hBu3 hbw3 hb3 hB4 hBu4 hbw4 hb4 hB5 hBu5 hbw5 hBu6 hb6 hoth hB6 hbw6 hsc hpl hZ hge1
 go_upto_region 3 with (fail)
 go_wp2
 clear c2
 go_loopw [27] (fun i wr => ∃ k : Nat,k ≤ n ∧ i = .int .i64 k ∧ Lib.IsBuilder 93 5 (H + 1) (H + 1) (Lib.byteCells (P ++ extB (l.take k))) wr ∧ Below H w wr) (fun i _ => n - (intOf i).toNat)
 case atStart => exact ⟨0,Nat.zero_le _,rfl, .inr (by simpa [extB] using HBU.out),HBW.out⟩
 case round =>
  obtain ⟨k,hk,rfl,hbu,hb⟩ := hrel
  have hsz2 : H ≤ wr.heap.size := by have := hb.size;rw [HH.out] at this;exact this
  by_cases hlt2 : k < n
  ·have hkl : k < l.length := by rw [HN.out];exact hlt2
   obtain ⟨g,off,rfl,hgl,hcs⟩ := HL.out (by rw [ecells_length];omega)
   rw [HH.out] at hgl
   obtain ⟨s0,s1⟩ := ecells_at l k hkl
   have d0 := (hb.cell (p := ⟨g,off + k * 2,none⟩) hgl).trans (hcs _ _ s0)
   have d1 := (hb.cell (p := ⟨g,off + (k * 2 + 1),none⟩) hgl).trans (hcs _ _ s1)
   have hgr : g < wr.heap.size := by omega
   obtain ⟨hq1,hq2⟩ := HLX.out l[k] (List.getElem_mem hkl)
   have hsn : P ++ extB (l.take (k + 1)) = (P ++ extB (l.take k)) ++ (putB l[k].1 ++ putB l[k].2) := by
    rw [List.take_succ_eq_append_getElem hkl,extB_snoc,List.append_assoc]
   have hln : (P ++ extB (l.take (k + 1))).length ≤ 508 := by
    have h1 := extB_take l (k + 1)
    have h2 := HBL.out
    rw [HBB.out,List.length_append,HP.out.1] at h2
    rw [List.length_append];omega
   rw [hsn,List.length_append,List.length_append,List.length_append] at hln
   obtain ⟨a,ha⟩ : ∃ z,l[k].1 = z := ⟨_,rfl⟩
   obtain ⟨c,hc⟩ : ∃ z,l[k].2 = z := ⟨_,rfl⟩
   rw [ha] at d0 hq1 hsn hln
   rw [hc, ← Nat.add_assoc] at d1
   rw [hc] at hq2 hsn hln
   have hsum := run_sum (putB a) (putB c) (by omega)
   have KA := fun w => put_any a w hq1
   have KC := fun w => put_any c w hq2
   obtain ⟨T,hT⟩ : ∃ q,P ++ extB (l.take k) = q := ⟨_,rfl⟩
   have hln := (by rw [← hT,List.length_append];exact hln : T.length + ((putB a).length + (putB c).length) ≤ 508)
   rw [hT] at hbu hsn
   have zf := mk_size (putB a ++ putB c)
   obtain ⟨F,hF⟩ : ∃ q,mk (putB a ++ putB c) = q := ⟨_,rfl⟩
   obtain ⟨A1,hA1⟩ : ∃ q,mk (putB a) = q := ⟨_,rfl⟩
   obtain ⟨C1,hC1⟩ : ∃ q,mk (putB c) = q := ⟨_,rfl⟩
   rw [hA1,hC1,hF] at hsum
   rw [hA1] at KA
   rw [hC1] at KC
   rw [hF,List.length_append] at zf
   have hfz : T.length + F.size ≤ 508 := by omega
   have KW := fun (w4 : World) (h4 : Below wr.heap.size wr w4) => bwrite_any (H + 1) (H + 1) (Lib.byteCells T) F w4 (isb_below hbu h4) (by simp [Lib.byteCells];omega) (Nat.le_trans (by rcases hbu with h | h <;> exact Nat.le_of_lt h.lt) h4.size)
   have HFC := Lib.hid (show Lib.byteCells T ++ Lib.strCells F = Lib.byteCells (P ++ extB (l.take (k + 1))) by
    rw [hsn, ← hF];simp [Lib.byteCells,Lib.strCells,mk_data])
   have HZL := Lib.hid (show H + 1 < wr.heap.size from by rcases hbu with h | h <;> exact h.lt)
   have HB := Lib.hid hb
   have k0 : (0 : Int) ≤ (k : Int) := by omega
   have k1 : (k : Int) < (n : Int) := by omega
   clear hb hcs s0 s1 hsn hln ha hc hF hA1 hC1 hT hkl hbu zf hfz hq1 hq2
   go_wp2
   have hZ1 := Blk.new wr #[.int .i64 a, .int .i64 c] 90
   have hA2 := (below_alloc wr (.cells #[.int .i64 a, .int .i64 c] 90)).drew
   obtain ⟨V,hV⟩ : ∃ V,wr.heap.size = V := ⟨_,rfl⟩
   rw [hV] at hZ1
   simp only [hV]
   refine wp_region_held (S := fun w' => Blk w' V #[.int .i64 a, .int .i64 c] 90) mixed ?_
   change wpAnyH _ _ _ _ _ _ _ _ (wr.alloc (.cells #[.int .i64 a, .int .i64 c] 90)).drew
   have hZ2 : Blk (wr.alloc (.cells #[.int .i64 a, .int .i64 c] 90)).drew V _ 90 := hZ1
   obtain ⟨W,hW⟩ : ∃ u,(wr.alloc (.cells #[.int .i64 a, .int .i64 c] 90)).drew = u := ⟨_,rfl⟩
   rw [hW] at hZ2 hA2 ⊢
   have HV := Lib.hid hV
   clear hW hZ1 d0 d1 hV
   refine tkQ 0 (.pointer (some ⟨V,0,none⟩)) rfl hZ2 ?_
   try go_simp
   refine tkH 1 (.int .i64 (a : Int)) rfl hZ2 (fun w' hS => ?_) ?_
   ·have q0 := hS.cell 0;simp at q0;go_simp
   try go_simp
   refine tkQ 3 (.pointer (some ⟨V,1,none⟩)) rfl hZ2 ?_
   try go_simp
   refine tkH 4 (.int .i64 (c : Int)) rfl hZ2 (fun w' hS => ?_) ?_
   ·have q0 := hS.cell 1;simp at q0;go_simp
   try go_simp
   refine alH 2 ?_
   unfold wpOp
   go_simp
   refine .inl ?_
   go_at_call 84
   refine (KA _).mono ?_
   rintro e W1 ⟨rfl,hb1⟩
   have hZ3 := hZ2.below hb1
   have hA3 := hA2.trans (hb1.mono hA2.size)
   refine ⟨hZ3, ?_⟩
   refine alH 5 ?_
   unfold wpOp
   go_simp
   refine .inl ?_
   go_at_call 84
   refine (KC _).mono ?_
   rintro e W2 ⟨rfl,hb2⟩
   have hZ4 := hZ3.below hb2
   have hA4 := hA3.trans (hb2.mono hA3.size)
   refine ⟨hZ4, ?_⟩
   refine tkQ 6 (.string F) rfl hZ4 ?_
   try go_simp
   refine alH 7 ?_
   unfold wpOp
   go_simp
   refine .inl ?_
   go_at_call 45
   refine (KW _ hA4).mono ?_
   rintro e W3 ⟨rfl,hbu3,hb3,hoth⟩
   have hZ5 : Blk W3 V #[.int .i64 a, .int .i64 c] 90 := hoth V _ _ _ (by decide) (by have := HZL.out;have := HV.out;omega) hZ4
   refine ⟨hZ5, ?_⟩
   refine wpAnyH_done (by kernel_rfl) ?_ _
   rw [HFC.out] at hbu3
   have HBU3 := Lib.hid hbu3
   have HBF := Lib.hid ((HB.out.trans (hA4.mono hsz2)).trans (hb3.mono (by omega)))
   clear hZ2 hA2 hb1 hZ3 hA3 hb2 hZ4 hA4 hbu3 hb3 hoth hZ5 KA KC KW hsum
   go_wp2
   go_roundw
   case rel => exact ⟨k + 1,by omega,by go_num, .inr HBU3.out,HBF.out⟩
   case measure => simp [intOf];omega
  ·obtain rfl : n = k := by omega
   rw [List.take_of_length_le (by rw [HN.out];exact Nat.le_refl _),HBS.out] at hbu
   have hzl : H + 1 ≤ wr.heap.size := by rcases hbu with h | h <;> exact Nat.le_of_lt h.lt
   have KS := Tryz.Builder_String_any (H + 1) (H + 1) B wr hbu hzl
   have KC := fun (w' : World) (hT' : TB w') => sum_any B w' hT' (by have := HBL2.out;omega)
   have hbd := crcI_bd B
   rw [show (⟨B.toArray⟩ : ByteArray) = mk B from rfl] at KS
   obtain ⟨C,hC⟩ : ∃ q,crcI B = q := ⟨_,rfl⟩
   rw [hC] at KC hbd HEB2
   obtain ⟨U,hU⟩ : ∃ q,mk B = q := ⟨_,rfl⟩
   rw [hU] at KS KC
   have hTw := HT.out.1.below (by rw [← HH.out];exact HT.out.2) hb
   have HB := Lib.hid hb
   have HTW := Lib.hid hTw
   have HU := Lib.hid hU
   have hH0 : 0 < H := by rw [← HH.out];exact HT.out.2
   obtain ⟨hc0,hc1⟩ := hbd
   clear hbu hb hTw hC hU
   go_wp2_with (first
    | (go_at_call 46;refine KS.mono ?_;rintro e w2 ⟨rfl,hb2⟩;have hT2 := HTW.out.below (by omega) hb2;have K2 := KC w2 hT2;have HB2 := Lib.hid (HB.out.trans (hb2.mono (by omega)));clear hb2 hT2)
    | (go_at_call 85;refine K2.mono ?_;rintro e w3 ⟨rfl,hw3⟩;obtain rfl := hw3.symm))
   go_loopw [8,43] (fun sv i wr => ∃ k : Nat,k ≤ 4 ∧ i = .int .i64 k ∧ sv = .string (mk (B ++ (sumB C).take k)) ∧ Below H w wr) (fun _ i _ => 4 - (intOf i).toNat)
   case atStart => exact ⟨0,by omega,rfl,by rw [List.take_zero,List.append_nil,HU.out],HB2.out⟩
   case round =>
    obtain ⟨k,hk,rfl,rfl,hb⟩ := hrel
    obtain ⟨S1,hS1⟩ : ∃ q,mk (B ++ (sumB C).take k) = q := ⟨_,rfl⟩
    rw [hS1]
    have hk4 : k = 0 ∨ k = 1 ∨ k = 2 ∨ k = 3 ∨ k = 4 := by omega
    have HB := Lib.hid hb
    have hln : B.length ≤ 508 := HBL2.out
    have hszw : H ≤ wr.heap.size := by have := hb.size;rw [HH.out] at this;exact this
    rcases hk4 with rfl | rfl | rfl | rfl | rfl
    ·have hcv := conv_one wr (UInt8.ofNat (C.toNat / 256 ^ 0)) (C % 256) (by rw [← byte_int];omega)
     have hst : B ++ (sumB C).take 1 = (B ++ (sumB C).take 0) ++ [UInt8.ofNat (C.toNat / 256 ^ 0)] := by rw [List.append_assoc];rfl
     have hsum := run_sum (B ++ (sumB C).take 0) [UInt8.ofNat (C.toNat / 256 ^ 0)] (by simp;omega)
     rw [← hst,hS1] at hsum
     obtain ⟨S2,hS2⟩ : ∃ q,mk (B ++ (sumB C).take 1) = q := ⟨_,rfl⟩
     obtain ⟨b1,hb1⟩ : ∃ q,mk [UInt8.ofNat (C.toNat / 256 ^ 0)] = q := ⟨_,rfl⟩
     rw [hb1] at hcv hsum
     rw [hS2] at hsum
     have HS2 := Lib.hid hS2
     clear hS1 hS2 hst hb1 hln hb
     go_wp2
     go_roundw
     case rel => exact ⟨1,by omega,rfl,by rw [HS2.out],HB.out.alloc hszw _⟩
     case measure => simp [intOf]
    ·have hcv := conv_one wr (UInt8.ofNat (C.toNat / 256 ^ 1)) (C / 256 % 256) (by rw [← byte_int];omega)
     have hst : B ++ (sumB C).take 2 = (B ++ (sumB C).take 1) ++ [UInt8.ofNat (C.toNat / 256 ^ 1)] := by rw [List.append_assoc];rfl
     have hsum := run_sum (B ++ (sumB C).take 1) [UInt8.ofNat (C.toNat / 256 ^ 1)] (by simp;omega)
     rw [← hst,hS1] at hsum
     obtain ⟨S2,hS2⟩ : ∃ q,mk (B ++ (sumB C).take 2) = q := ⟨_,rfl⟩
     obtain ⟨b1,hb1⟩ : ∃ q,mk [UInt8.ofNat (C.toNat / 256 ^ 1)] = q := ⟨_,rfl⟩
     rw [hb1] at hcv hsum
     rw [hS2] at hsum
     have HS2 := Lib.hid hS2
     clear hS1 hS2 hst hb1 hln hb
     go_wp2
     go_roundw
     case rel => exact ⟨2,by omega,rfl,by rw [HS2.out],HB.out.alloc hszw _⟩
     case measure => simp [intOf]
    ·have hcv := conv_one wr (UInt8.ofNat (C.toNat / 256 ^ 2)) (C / 65536 % 256) (by rw [← byte_int];omega)
     have hst : B ++ (sumB C).take 3 = (B ++ (sumB C).take 2) ++ [UInt8.ofNat (C.toNat / 256 ^ 2)] := by rw [List.append_assoc];rfl
     have hsum := run_sum (B ++ (sumB C).take 2) [UInt8.ofNat (C.toNat / 256 ^ 2)] (by simp;omega)
     rw [← hst,hS1] at hsum
     obtain ⟨S2,hS2⟩ : ∃ q,mk (B ++ (sumB C).take 3) = q := ⟨_,rfl⟩
     obtain ⟨b1,hb1⟩ : ∃ q,mk [UInt8.ofNat (C.toNat / 256 ^ 2)] = q := ⟨_,rfl⟩
     rw [hb1] at hcv hsum
     rw [hS2] at hsum
     have HS2 := Lib.hid hS2
     clear hS1 hS2 hst hb1 hln hb
     go_wp2
     go_roundw
     case rel => exact ⟨3,by omega,rfl,by rw [HS2.out],HB.out.alloc hszw _⟩
     case measure => simp [intOf]
    ·have hcv := conv_one wr (UInt8.ofNat (C.toNat / 256 ^ 3)) (C / 16777216) (by rw [← byte_int];omega)
     have hst : B ++ (sumB C).take 4 = (B ++ (sumB C).take 3) ++ [UInt8.ofNat (C.toNat / 256 ^ 3)] := by rw [List.append_assoc];rfl
     have hsum := run_sum (B ++ (sumB C).take 3) [UInt8.ofNat (C.toNat / 256 ^ 3)] (by simp;omega)
     rw [← hst,hS1] at hsum
     obtain ⟨S2,hS2⟩ : ∃ q,mk (B ++ (sumB C).take 4) = q := ⟨_,rfl⟩
     obtain ⟨b1,hb1⟩ : ∃ q,mk [UInt8.ofNat (C.toNat / 256 ^ 3)] = q := ⟨_,rfl⟩
     rw [hb1] at hcv hsum
     rw [hS2] at hsum
     have HS2 := Lib.hid hS2
     clear hS1 hS2 hst hb1 hln hb
     go_wp2
     go_roundw
     case rel => exact ⟨4,by omega,rfl,by rw [HS2.out],HB.out.alloc hszw _⟩
     case measure => simp [intOf]
    ·have KD := padded_any (B ++ sumB C) wr (by rw [List.length_append,sumB_length];omega)
     rw [← HEB2.out,HR.out] at KD
     have HS1 := Lib.hid (show mk (B ++ sumB C) = S1 by rw [← hS1];rfl)
     rw [HS1.out] at KD
     clear hS1 hln hb
     go_wp2_with (go_at_call 86;refine KD.mono ?_;rintro e w2 ⟨rfl,hb2⟩)
     go_ret
     refine ⟨rfl, ?_⟩
     rw [HH.out]
     exact HB.out.trans (hb2.mono hszw)
open Go.RowKit Go.Maps Go.WideMaps
structure FileM where
 name : Bs
 entry : Nat
 size : Nat
 ext : List (Nat × Nat)
def rawE (v : Value) : Option (DataW Value × List MemPlace) := some (.held v,[])
theorem rawE_inv {v : Value} {d : DataW Value} {ps : List MemPlace} (h : rawE v = some (d,ps)) : d = .held v := by
 unfold rawE at h
 simp at h
 exact h.1.symm
abbrev AdM := Bs → Option Addr × Nat
def inoV (ad : AdM) (f : FileM) : Value := .agg #[.int .i64 f.entry, .int .i64 f.size, .slice (ad f.name).1 f.ext.length (ad f.name).2]
def inoZ : Value := .agg #[.int .i64 0, .int .i64 0, .slice none 0 0]
theorem keyLaw9 : Keyed Tryz.prog 9 := string_keyed Tryz.underlying9
theorem zero69 (w : World) : (zeroValue 69).run Tryz.prog w = .ok inoZ w := by kernel_rfl
theorem own_tight {H : Type} {P : Program} {k : TypeId} {R : Value → Option (DataW H × List MemPlace)} {w : World} {b n : Nat} {Dm : DataW H} (h : w.ownsMap P k R b n Dm) : w.ownsMap P k R b (Maps.size Dm) Dm := by
 obtain ⟨es,clock,h1,h2,_,rfl⟩ := h
 exact ⟨es,clock,h1,h2,by simp [Maps.size,length_sorted],rfl⟩
def fileOf (F : List FileM) (t : Bs) : Option FileM := F.find? fun f => f.name == t
def FM (w : World) (M : Nat) (ad : AdM) (F : List FileM) : Prop :=
 ∃ Dm : DataW Value,w.ownsMap Tryz.prog 9 rawE M F.length Dm ∧ (F.map (·.name)).Nodup ∧ Maps.size Dm = F.length ∧
  ∀ t : Bs,Maps.has Dm (.string t) = (fileOf F t).isSome ∧ ∀ z,Dm.atKey (.string t) z = ((fileOf F t).map fun f => DataW.held (inoV ad f)).getD z
theorem FM.made (w : World) (ad : AdM) : FM (w.alloc (.map #[] 0)) w.heap.size ad [] := ⟨.map [],World.ownsMap_made _ _ _ _,by simp,rfl,fun t => ⟨rfl,fun z => rfl⟩⟩
theorem FM.kept {w w' : World} {M : Nat} {ad : AdM} {F : List FileM} {row : Option Nat} (h : FM w M ad F) (hg : w.grownBy w' row) (hne : some M ≠ row) : FM w' M ad F := by
 obtain ⟨Dm,h1,h2⟩ := h
 exact ⟨Dm,h1.kept hg hne,h2⟩
theorem FM.lt {w : World} {M : Nat} {ad : AdM} {F : List FileM} (h : FM w M ad F) : M < w.heap.size := by obtain ⟨Dm,h1,_⟩ := h;exact h1.lt
theorem FM.block {w w' : World} {M : Nat} {ad : AdM} {F : List FileM} (h : FM w M ad F) (hb : w'.heap[M]? = w.heap[M]?) : FM w' M ad F := by
 obtain ⟨Dm,⟨es,clock,h1,h3⟩,h2⟩ := h
 exact ⟨Dm,⟨es,clock,hb.trans h1,h3⟩,h2⟩
theorem FM.not_cells {w : World} {M g : Nat} {ad : AdM} {F : List FileM} (h : FM w M ad F) {cs : Array Value} {t : TypeId} {fr : Nat × Nat} (hg : w.heap[g]? = some (.cells cs t fr)) : g ≠ M := by
 obtain ⟨Dm,⟨es,clock,h1,_⟩,_⟩ := h
 rintro rfl
 rw [h1] at hg
 cases hg
theorem FM.nodup {w : World} {M : Nat} {ad : AdM} {F : List FileM} (h : FM w M ad F) : (F.map (·.name)).Nodup := by obtain ⟨_,_,h,_⟩ := h;exact h
theorem FM.look {w : World} {M : Nat} {ad : AdM} {F : List FileM} (h : FM w M ad F) (t : Bs) (ht : t.length ≤ maxLen) :
  (Instr.lookup 77 (.map (some M)) (.string (mk t)) true).run Tryz.prog w = .ok (.tuple #[((fileOf F t).map (inoV ad)).getD inoZ, .bool (fileOf F t).isSome]) w := by
 obtain ⟨Dm,h1,h2,h3,h4⟩ := h
 obtain ⟨v,ps,hrun,hv⟩ := h1.look_ok keyLaw9 Tryz.underlying77 (zero69 w) (zd := .held inoZ) (zp := []) rfl (keyOf_string_mk Tryz.underlying9 (by rw [mk_size];exact ht))
 rw [mk_data] at hrun hv
 rw [(h4 t).2] at hv
 have hv' := rawE_inv hv
 rw [hrun,(h4 t).1]
 cases hf : fileOf F t with
 | none => rw [hf] at hv';simp at hv';rw [hv'];rfl
 | some f =>
  rw [hf] at hv'
  simp only [Option.map_some,Option.getD_some,DataW.held.injEq] at hv'
  rw [← hv'];rfl
theorem FM.len {w : World} {M : Nat} {ad : AdM} {F : List FileM} (h : FM w M ad F) (ty : TypeId) : (Builtin.len_ #[77] ty #[.map (some M)]).run Tryz.prog w = .ok (.int .i64 (F.length : Nat)) w := by
 obtain ⟨Dm,h1,_,h3,_⟩ := h
 rw [h1.len Tryz.underlying77 ty,h3]
def putF (F : List FileM) (f : FileM) : List FileM := if (fileOf F f.name).isSome then F.map fun g => if g.name == f.name then f else g else F ++ [f]
def delF (F : List FileM) (t : Bs) : List FileM := F.filter fun g => !(g.name == t)
theorem fileOf_name {F : List FileM} {t : Bs} {f : FileM} (h : fileOf F t = some f) : f.name = t := by simpa using List.find?_some h
theorem fileOf_mem {F : List FileM} {t : Bs} {f : FileM} (h : fileOf F t = some f) : f ∈ F := List.mem_of_find?_eq_some h
theorem fileOf_none {F : List FileM} {t : Bs} : fileOf F t = none ↔ ∀ f ∈ F,f.name ≠ t := by unfold fileOf;simp [List.find?_eq_none]
theorem putF_names (F : List FileM) (f : FileM) : (putF F f).map (·.name) = if (fileOf F f.name).isSome then F.map (·.name) else F.map (·.name) ++ [f.name] := by
 unfold putF
 split
 ·rw [List.map_map]
  refine List.map_congr_left fun g _ => ?_
  simp only [Function.comp]
  split
  ·rename_i h;exact (by simpa using h : g.name = f.name).symm
  ·rfl
 ·simp
theorem putF_nodup {F : List FileM} {f : FileM} (h : (F.map (·.name)).Nodup) : ((putF F f).map (·.name)).Nodup := by
 rw [putF_names]
 split
 ·exact h
 ·rename_i hn
  rw [List.nodup_append]
  refine ⟨h,by simp,fun a ha b hb e => ?_⟩
  simp at hb
  subst hb
  obtain ⟨g,hg,he⟩ := List.mem_map.1 ha
  have := fileOf_none.1 (by simpa using hn) g hg
  exact this (he.trans e)
theorem putF_length (F : List FileM) (f : FileM) : (putF F f).length = if (fileOf F f.name).isSome then F.length else F.length + 1 := by
 unfold putF;split <;> simp
theorem fileOf_cons (g : FileM) (F : List FileM) (t : Bs) : fileOf (g :: F) t = if g.name = t then some g else fileOf F t := by
 unfold fileOf
 rw [List.find?_cons]
 by_cases h : g.name = t
 ·rw [if_pos h,h];simp
 ·rw [if_neg h,beq_eq_false_iff_ne.2 h]
theorem fileOf_append (F G : List FileM) (t : Bs) : fileOf (F ++ G) t = (fileOf F t).or (fileOf G t) := by unfold fileOf;rw [List.find?_append]
theorem fileOf_map_same (F : List FileM) (f : FileM) : (fileOf F f.name).isSome = true → fileOf (F.map fun g => if g.name == f.name then f else g) f.name = some f := by
 induction F with
 | nil => intro h;cases h
 | cons g F ih =>
  intro h
  rw [List.map_cons,fileOf_cons]
  rw [fileOf_cons] at h
  by_cases hg : g.name = f.name
  ·simp [hg]
  ·rw [if_neg hg] at h
   rw [beq_eq_false_iff_ne.2 hg]
   simp only [Bool.false_eq_true,if_false]
   rw [if_neg hg]
   exact ih h
theorem fileOf_map_other (F : List FileM) (f : FileM) (t : Bs) (h : t ≠ f.name) : fileOf (F.map fun g => if g.name == f.name then f else g) t = fileOf F t := by
 induction F with
 | nil => rfl
 | cons g F ih =>
  rw [List.map_cons,fileOf_cons,fileOf_cons,ih]
  by_cases hg : g.name = f.name
  ·have e : (if g.name == f.name then f else g) = f := if_pos (by simpa using hg)
   rw [e,if_neg (fun e => h e.symm),if_neg (by rw [hg];exact fun e => h e.symm)]
  ·have e : (if g.name == f.name then f else g) = g := if_neg (by simpa using hg)
   rw [e]
theorem fileOf_put_same (F : List FileM) (f : FileM) : fileOf (putF F f) f.name = some f := by
 unfold putF
 split
 ·rename_i h;exact fileOf_map_same F f h
 ·rename_i h
  rw [fileOf_append,show fileOf F f.name = none by simpa using h,fileOf_cons,if_pos rfl];rfl
theorem fileOf_put_other (F : List FileM) (f : FileM) (t : Bs) (h : t ≠ f.name) : fileOf (putF F f) t = fileOf F t := by
 unfold putF
 split
 ·exact fileOf_map_other F f t h
 ·rw [fileOf_append,fileOf_cons,if_neg (fun e => h e.symm)]
  cases fileOf F t <;> rfl
theorem fileOf_del_same (F : List FileM) (t : Bs) : fileOf (delF F t) t = none := by
 rw [fileOf_none]
 intro f hf e
 have := (List.mem_filter.1 hf).2
 simp [e] at this
theorem delF_cons (g : FileM) (F : List FileM) (t : Bs) : delF (g :: F) t = if g.name = t then delF F t else g :: delF F t := by
 unfold delF
 rw [List.filter_cons]
 by_cases h : g.name = t
 ·rw [if_pos h,h];simp
 ·rw [if_neg h,beq_eq_false_iff_ne.2 h];rfl
theorem fileOf_del_other (F : List FileM) (t u : Bs) (h : u ≠ t) : fileOf (delF F t) u = fileOf F u := by
 induction F with
 | nil => rfl
 | cons g F ih =>
  rw [delF_cons,fileOf_cons]
  by_cases hg : g.name = t
  ·rw [if_pos hg,if_neg (by rw [hg];exact fun e => h e.symm)];exact ih
  ·rw [if_neg hg,fileOf_cons,ih]
theorem delF_nodup {F : List FileM} {t : Bs} (h : (F.map (·.name)).Nodup) : ((delF F t).map (·.name)).Nodup := by
 unfold delF
 exact h.sublist ((List.filter_sublist).map _)
theorem delF_none {F : List FileM} {t : Bs} (h : fileOf F t = none) : delF F t = F := by
 unfold delF
 rw [List.filter_eq_self]
 intro f hf
 simpa using fileOf_none.1 h f hf
theorem delF_length {F : List FileM} {t : Bs} (h : (F.map (·.name)).Nodup) : (delF F t).length + (if (fileOf F t).isSome then 1 else 0) = F.length := by
 induction F with
 | nil => rfl
 | cons g F ih =>
  rw [List.map_cons,List.nodup_cons] at h
  have ih := ih h.2
  rw [delF_cons,fileOf_cons,List.length_cons]
  by_cases hg : g.name = t
  ·have hn : fileOf F t = none := fileOf_none.2 fun f hf e => h.1 (List.mem_map.2 ⟨f,hf,by rw [e,hg]⟩)
   rw [if_pos hg,if_pos hg,delF_none hn];rfl
  ·rw [if_neg hg,if_neg hg,List.length_cons];omega
def setAd (ad : AdM) (t : Bs) (p : Option Addr × Nat) : AdM := fun u => if u = t then p else ad u
theorem setAd_same (ad : AdM) (t : Bs) (p : Option Addr × Nat) : setAd ad t p t = p := if_pos rfl
theorem setAd_other (ad : AdM) (t u : Bs) (p : Option Addr × Nat) (h : u ≠ t) : setAd ad t p u = ad u := if_neg h
theorem inoV_other (ad : AdM) (t : Bs) (p : Option Addr × Nat) (f : FileM) (h : f.name ≠ t) : inoV (setAd ad t p) f = inoV ad f := by unfold inoV;rw [setAd_other _ _ _ _ h]
theorem FM.store {w : World} {M : Nat} {ad : AdM} {F : List FileM} (h : FM w M ad F) (f : FileM) (A : Option Addr) (c : Nat) (hn : F.length < maxLen) (ht : f.name.length ≤ maxLen) :
  ∃ w',(Instr.mapUpdate 77 (.map (some M)) (.string (mk f.name)) (.agg #[.int .i64 f.entry, .int .i64 f.size, .slice A f.ext.length c])).run Tryz.prog w = .ok () w' ∧ FM w' M (setAd ad f.name (A,c)) (putF F f) ∧ w.grownBy w' (some M) := by
 obtain ⟨Dm,h1,h2,h3,h4⟩ := h
 have hv : (Value.agg #[.int .i64 f.entry, .int .i64 f.size, .slice A f.ext.length c]) = inoV (setAd ad f.name (A,c)) f := by unfold inoV;rw [setAd_same]
 obtain ⟨w',hrun,hown,hg⟩ := h1.update keyLaw9 Tryz.underlying77 hn (keyOf_string_mk (s := mk f.name) Tryz.underlying9 (by rw [mk_size];exact ht)) (val := .agg #[.int .i64 f.entry, .int .i64 f.size, .slice A f.ext.length c]) (d := .held (inoV (setAd ad f.name (A,c)) f)) (ps := []) (by rw [hv];rfl)
 rw [mk_data] at hown
 have hsz : Maps.size (Dm.put (.string f.name) (.held (inoV (setAd ad f.name (A,c)) f))) = (putF F f).length := by rw [size_put (h1.tidy keyLaw9),(h4 f.name).1,putF_length,h3]
 refine ⟨w',hrun,⟨_,by rw [← hsz];exact own_tight hown,putF_nodup h2,hsz,fun t => ?_⟩,hg⟩
 ·by_cases ht2 : t = f.name
  ·subst ht2
   refine ⟨by rw [has_put_same (k := .string f.name) h1.isMap trivial,fileOf_put_same];rfl,fun z => ?_⟩
   rw [atKey_put_same (k := .string f.name) h1.isMap trivial,fileOf_put_same];rfl
  ·have hne : (Lit.string t) ≠ .string f.name := fun e => ht2 (by injection e)
   refine ⟨by rw [has_put_other hne,(h4 t).1,fileOf_put_other _ _ _ ht2],fun z => ?_⟩
   rw [atKey_put_other hne,(h4 t).2 z,fileOf_put_other _ _ _ ht2]
   cases hf : fileOf F t with
   | none => rfl
   | some g =>
    have := fileOf_name hf
    simp only [Option.map_some,Option.getD_some]
    rw [inoV_other _ _ _ _ (by rw [this];exact ht2)]
theorem FM.drop {w : World} {M : Nat} {ad : AdM} {F : List FileM} (h : FM w M ad F) (t : Bs) (ht : t.length ≤ maxLen) (ty : TypeId) :
  ∃ w',(Builtin.delete_ #[77,9] ty #[.map (some M), .string (mk t)]).run Tryz.prog w = .ok (.tuple #[]) w' ∧ FM w' M ad (delF F t) ∧ w.grownBy w' (some M) := by
 obtain ⟨Dm,h1,h2,h3,h4⟩ := h
 obtain ⟨w',hrun,hown,hg⟩ := h1.drop keyLaw9 Tryz.underlying77 (keyOf_string_mk (s := mk t) Tryz.underlying9 (by rw [mk_size];exact ht)) ty
 rw [mk_data] at hown
 have hsz : Maps.size (Dm.del (.string t)) = (delF F t).length := by
  have a := size_del (k := .string t) (h1.tidy keyLaw9)
  have b := delF_length (t := t) h2
  rw [(h4 t).1] at a
  omega
 refine ⟨w',hrun,⟨_,by rw [← hsz];exact own_tight hown,delF_nodup h2,hsz,fun u => ?_⟩,hg.grown⟩
 ·by_cases hu : u = t
  ·subst hu
   refine ⟨by rw [has_del_same,fileOf_del_same];rfl,fun z => ?_⟩
   rw [atKey_del_same,fileOf_del_same];rfl
  ·have hne : (Lit.string u) ≠ .string t := fun e => hu (by injection e)
   exact ⟨by rw [has_del_other hne,(h4 u).1,fileOf_del_other _ _ _ hu],fun z => by rw [atKey_del_other hne,(h4 u).2 z,fileOf_del_other _ _ _ hu]⟩
open Go.RowKit
theorem turnV_form (R : Option (List Bool)) : ∃ (n : Int) (X : ByteArray) (e : Int),turnV R = .tuple #[.agg #[.int .i64 n, .string X], .int .i64 e] := by
 cases R with
 | none => exact ⟨_,_,_,rfl⟩
 | some T => exact ⟨_,_,_,rfl⟩
theorem below_set {B : Nat} {w w' : World} (h : Below B w w') (b i : Nat) (v : Value) (hb : B ≤ b) : Below B w (w'.setCell ⟨b,i,none⟩ v) := h.setCell (p := ⟨b,i,none⟩) hb v
theorem give_any (T : List Bool) (l : List (Nat × Nat)) (A : Option Addr) (cap : Nat) (w : World) (hn : T.length ≤ 4096) (hl : Lies w A (ecells l)) (hb : ∀ x ∈ l,x.1 ≤ 2199023255552 ∧ x.2 ≤ 2199023255552) (hll : l.length ≤ 1000000) :
  Calls Tryz.prog 41 #[spv T, .slice A l.length cap] w fun e w' => e = .returned (turnV (turnS false T l)) ∧ Below w.heap.size w w' := by
 have K := fun w1 (hl1 : Lies w1 A (ecells l)) => turn_any false T l A cap w1 hn hl1 hb hll
 obtain ⟨n,X,e,hR⟩ := turnV_form (turnS false T l)
 rw [hR] at K ⊢
 unfold spv at K ⊢
 obtain ⟨k,hk⟩ : ∃ k,l.length = k := ⟨_,rfl⟩
 obtain ⟨N,hN⟩ : ∃ k,T.length = k := ⟨_,rfl⟩
 obtain ⟨Y,hY⟩ : ∃ k,mk (packB T) = k := ⟨_,rfl⟩
 rw [hk,hN,hY] at K
 rw [hk,hN,hY]
 have HL := Lib.hid hl
 clear hR hk hN hY hn hb hll hl
 go_enter Tryz.func41,Tryz.ntmps41
 have hb0 : Below w.heap.size w ((w.alloc (.cells #[.int .i64 N, .string Y] 76)).alloc (.cells #[.int .i64 0, .string ⟨#[]⟩] 76)) := ((Below.refl _ w).alloc (Nat.le_refl _) _).alloc (by simp) _
 have HB0 := Lib.hid hb0
 have hl1 := HL.out.below (Nat.le_refl _) hb0
 have HL1 := Lib.hid hl1
 clear hb0 hl1
 have hin : ∀ w1,Below ((w.alloc (.cells #[.int .i64 N, .string Y] 76)).alloc (.cells #[.int .i64 0, .string ⟨#[]⟩] 76)).heap.size ((w.alloc (.cells #[.int .i64 N, .string Y] 76)).alloc (.cells #[.int .i64 0, .string ⟨#[]⟩] 76)) w1 → Blk w1 (w.heap.size + 1) #[.int .i64 0, .string ⟨#[]⟩] 76 := fun w1 hb => by
  have := (Blk.new (w.alloc (.cells #[.int .i64 N, .string Y] 76)) #[.int .i64 0, .string ⟨#[]⟩] 76).below hb
  rwa [World.size_alloc] at this
 have HIN := Lib.hid hin
 clear hin
 go_wp2_with (go_at_call 79;refine (K _ HL1.out).mono ?_;rintro e1 w1 ⟨rfl,hbw⟩;have HW := Lib.hid hbw;have hB1 := HIN.out w1 hbw;clear hbw;have c0 := hB1.cell 0;have c1 := hB1.cell 1;have f0 := hB1.frozen 0;have f1 := hB1.frozen 1;have hl1 := hB1.lt;simp at c0 c1;clear hB1)
 refine bodyPost_ret (v := .tuple #[.agg #[.int .i64 n, .string X], .int .i64 e]) ?_ rfl ?_
 ·rw [results_cell_tmp Tryz.results41]
  go_simp
 ·refine ⟨rfl, ?_⟩
  have hz := (HB0.out.trans (HW.out.mono HB0.out.size))
  exact below_set (below_set hz _ 0 _ (by simp)) _ 1 _ (by simp)
theorem claim_any (T : List Bool) (l : List (Nat × Nat)) (A : Option Addr) (cap : Nat) (w : World) (hn : T.length ≤ 4096) (hl : Lies w A (ecells l)) (hb : ∀ x ∈ l,x.1 ≤ 2199023255552 ∧ x.2 ≤ 2199023255552) (hll : l.length ≤ 1000000) :
  Calls Tryz.prog 78 #[spv T, .slice A l.length cap] w fun e w' => e = .returned (turnV (turnS true T l)) ∧ Below w.heap.size w w' := by
 have K := fun w1 (hl1 : Lies w1 A (ecells l)) => turn_any true T l A cap w1 hn hl1 hb hll
 obtain ⟨n,X,e,hR⟩ := turnV_form (turnS true T l)
 rw [hR] at K ⊢
 unfold spv at K ⊢
 obtain ⟨k,hk⟩ : ∃ k,l.length = k := ⟨_,rfl⟩
 obtain ⟨N,hN⟩ : ∃ k,T.length = k := ⟨_,rfl⟩
 obtain ⟨Y,hY⟩ : ∃ k,mk (packB T) = k := ⟨_,rfl⟩
 rw [hk,hN,hY] at K
 rw [hk,hN,hY]
 have HL := Lib.hid hl
 clear hR hk hN hY hn hb hll hl
 go_enter Tryz.func78,Tryz.ntmps78
 have hb0 : Below w.heap.size w ((w.alloc (.cells #[.int .i64 N, .string Y] 76)).alloc (.cells #[.int .i64 0, .string ⟨#[]⟩] 76)) := ((Below.refl _ w).alloc (Nat.le_refl _) _).alloc (by simp) _
 have HB0 := Lib.hid hb0
 have hl1 := HL.out.below (Nat.le_refl _) hb0
 have HL1 := Lib.hid hl1
 clear hb0 hl1
 have hin : ∀ w1,Below ((w.alloc (.cells #[.int .i64 N, .string Y] 76)).alloc (.cells #[.int .i64 0, .string ⟨#[]⟩] 76)).heap.size ((w.alloc (.cells #[.int .i64 N, .string Y] 76)).alloc (.cells #[.int .i64 0, .string ⟨#[]⟩] 76)) w1 → Blk w1 (w.heap.size + 1) #[.int .i64 0, .string ⟨#[]⟩] 76 := fun w1 hb => by
  have := (Blk.new (w.alloc (.cells #[.int .i64 N, .string Y] 76)) #[.int .i64 0, .string ⟨#[]⟩] 76).below hb
  rwa [World.size_alloc] at this
 have HIN := Lib.hid hin
 clear hin
 go_wp2_with (go_at_call 79;refine (K _ HL1.out).mono ?_;rintro e1 w1 ⟨rfl,hbw⟩;have HW := Lib.hid hbw;have hB1 := HIN.out w1 hbw;clear hbw;have c0 := hB1.cell 0;have c1 := hB1.cell 1;have f0 := hB1.frozen 0;have f1 := hB1.frozen 1;have hl1 := hB1.lt;simp at c0 c1;clear hB1)
 refine bodyPost_ret (v := .tuple #[.agg #[.int .i64 n, .string X], .int .i64 e]) ?_ rfl ?_
 ·rw [results_cell_tmp Tryz.results78]
  go_simp
 ·refine ⟨rfl, ?_⟩
  have hz := (HB0.out.trans (HW.out.mono HB0.out.size))
  exact below_set (below_set hz _ 0 _ (by simp)) _ 1 _ (by simp)

def popN (b : Nat) : Nat := b % 2 + b / 2 % 2 + b / 4 % 2 + b / 8 % 2 + b / 16 % 2 + b / 32 % 2 + b / 64 % 2 + b / 128 % 2
theorem popN_step : ∀ b : Fin 256,b.val ≠ 0 → popN (b.val &&& (b.val - 1)) + 1 = popN b.val := by decide +kernel
theorem popN_zero : popN 0 = 0 := rfl
theorem and_8 (a b : Nat) (ha : a < 256) (hb : b < 256) : bits .and .u8 (a : Int) (b : Int) = ((a &&& b : Nat) : Int) := by
 have hx : a &&& b ≤ a := Nat.and_le_left
 have h1 : (BitVec.ofInt 8 (a : Int)).toNat = a := by rw [BitVec.ofInt_natCast,BitVec.toNat_ofNat];exact Nat.mod_eq_of_lt (by omega)
 have h2 : (BitVec.ofInt 8 (b : Int)).toNat = b := by rw [BitVec.ofInt_natCast,BitVec.toNat_ofNat];exact Nat.mod_eq_of_lt (by omega)
 show IntKind.u8.wrap ((BitVec.ofInt 8 (a : Int) &&& BitVec.ofInt 8 (b : Int)).toNat : Int) = _
 rw [BitVec.toNat_and,h1,h2]
 simp [IntKind.wrap,IntKind.bits,IntKind.signed]
 omega
def onesN (T : List Bool) : Nat → Nat
 | 0 => 0
 | k + 1 => onesN T k + bitN T k
theorem onesN_byte (T : List Bool) (j : Nat) : onesN T (8 * (j + 1)) = onesN T (8 * j) + popN (byteN T j) := by
 have e0 := byteN_bit T j 0 (by omega)
 have e1 := byteN_bit T j 1 (by omega)
 have e2 := byteN_bit T j 2 (by omega)
 have e3 := byteN_bit T j 3 (by omega)
 have e4 := byteN_bit T j 4 (by omega)
 have e5 := byteN_bit T j 5 (by omega)
 have e6 := byteN_bit T j 6 (by omega)
 have e7 := byteN_bit T j 7 (by omega)
 simp only [Nat.reducePow,Nat.div_one,Nat.add_zero] at e0 e1 e2 e3 e4 e5 e6 e7
 unfold popN
 rw [e0,e1,e2,e3,e4,e5,e6,e7,show 8 * (j + 1) = 8 * j + 1 + 1 + 1 + 1 + 1 + 1 + 1 + 1 by omega]
 simp only [onesN]
 omega
theorem onesN_take (T : List Bool) : ∀ k,k ≤ T.length → onesN T k = (T.take k).count true := by
 intro k
 induction k with
 | zero => intro _;simp [onesN]
 | succ k ih =>
  intro hk
  rw [onesN,ih (by omega),List.take_succ_eq_append_getElem (by omega),List.count_append]
  unfold bitN
  rw [List.getD_eq_getElem?_getD,List.getElem?_eq_getElem (by omega)]
  cases T[k] <;> simp
theorem onesN_over (T : List Bool) : ∀ m,onesN T (T.length + m) = T.count true := by
 intro m
 induction m with
 | zero => rw [Nat.add_zero,onesN_take T _ (Nat.le_refl _),List.take_length]
 | succ m ih =>
  rw [← Nat.add_assoc,onesN,ih]
  unfold bitN
  rw [List.getD_eq_getElem?_getD,List.getElem?_eq_none (by omega)]
  rfl
theorem onesN_le (T : List Bool) (k : Nat) : onesN T k ≤ T.count true := by
 rcases Nat.lt_or_ge k T.length with h | h
 ·rw [onesN_take T k (by omega)]
  exact (List.take_sublist k T).count_le true
 ·obtain ⟨m,rfl⟩ := Nat.le.dest h
  rw [onesN_over];exact Nat.le_refl _
theorem count_both (T : List Bool) : T.count true + T.count false = T.length := by
 induction T with
 | nil => rfl
 | cons b T ih => cases b <;> simp <;> omega
set_option maxRecDepth 100000 in
theorem sfree_any (T : List Bool) (w : World) (hn : T.length ≤ 4096) : Calls Tryz.prog 47 #[spv T] w fun e w' => e = .returned (.int .i64 (T.count false : Nat)) ∧ Below w.heap.size w w' := by
 unfold spv
 obtain ⟨n,hn2⟩ : ∃ n,T.length = n := ⟨_,rfl⟩
 obtain ⟨X,hX⟩ : ∃ X,mk (packB T) = X := ⟨_,rfl⟩
 obtain ⟨m,hm⟩ : ∃ m,(n + 7) / 8 = m := ⟨_,rfl⟩
 have hxm : X.size = m := by rw [← hX,mk_size,packB_length,hn2,hm]
 have hcb := count_both T
 have hle := onesN_le T
 have hby := onesN_byte T
 have hal : onesN T (8 * m) = T.count true := by
  rw [show 8 * m = T.length + (8 * m - T.length) by omega,onesN_over]
 have hbyte : ∀ j,j < m → ∃ c : UInt8,c.toNat = byteN T j ∧ ∃ h : j < X.size,X[j]'h = c := fun j hj => by
  refine ⟨UInt8.ofNat (byteN T j),by rw [UInt8.toNat_ofNat',Nat.mod_eq_of_lt (byteN_lt T _)],by omega, ?_⟩
  have h1 := packB_at T j (by omega)
  have h2 : X.data.toList[j]? = some (UInt8.ofNat (byteN T j)) := by rw [← hX,mk_data];exact h1
  rw [Array.getElem?_toList,Array.getElem?_eq_getElem (by show j < X.size;omega)] at h2
  exact Option.some.inj h2
 obtain ⟨f,hf⟩ : ∃ f,T.count false = f := ⟨_,rfl⟩
 obtain ⟨t,ht⟩ : ∃ f,T.count true = f := ⟨_,rfl⟩
 rw [hn2] at hcb
 rw [hX,hn2,hf]
 rw [ht,hf] at hcb
 rw [ht] at hal hle
 rw [hn2] at hn
 have HB := Lib.hid hbyte
 have HLE := Lib.hid hle
 have HBY := Lib.hid hby
 have HAL := Lib.hid hal
 have hm2 : m ≤ 512 := by omega
 clear hbyte hle hby hal hX hn2 hf ht hm
 go_enter Tryz.func47,Tryz.ntmps47
 go_wp2
 obtain ⟨W,hW⟩ : ∃ W,w.alloc (.cells #[.int .i64 n, .string X] 76) = W := ⟨_,rfl⟩
 have hbW : Hid (Below w.heap.size w W) := Lib.hid (hW ▸ below_alloc w _)
 have hBW : Blk W w.heap.size #[.int .i64 n, .string X] 76 := hW ▸ Blk.new w _ 76
 have c1 := hBW.cell 1
 simp at c1
 have hlW := hBW.lt
 rw [hW]
 clear hW hBW
 go_loopw [11,3] (fun kv nv wr => ∃ k z : Nat,k ≤ m ∧ kv = .int .i64 k ∧ nv = .int .i64 z ∧ z + onesN T (8 * k) = n ∧ wr = W) (fun kv _ _ => m - (intOf kv).toNat)
 case atStart => exact ⟨0,n,by omega,rfl,rfl,rfl,rfl⟩
 case round =>
  obtain ⟨k,z,hk,rfl,rfl,hz,rfl⟩ := hrel
  have k0 : (0 : Int) ≤ (k : Int) := by omega
  by_cases hkm : k < m
  ·have k1 : (k : Int) < (X.size : Int) := by omega
   obtain ⟨c,hcT,hkX,hcX⟩ := HB.out k hkm
   have hc256 := byteN_lt T k
   have hup := HBY.out k
   have hle2 := HLE.out (8 * (k + 1))
   rw [← hcT] at hc256 hup
   obtain ⟨b,hb⟩ : ∃ b,c.toNat = b := ⟨_,rfl⟩
   have hbz : (X[k]'hkX).toNat = b := by rw [hcX,hb]
   rw [hb] at hc256 hup
   clear hcT hcX hb
   have HZ := Lib.hid (show z + onesN T (8 * k) = n ∧ onesN T (8 * (k + 1)) = onesN T (8 * k) + popN b ∧ onesN T (8 * (k + 1)) ≤ t from ⟨hz,hup,hle2⟩)
   have HC := Lib.hid hc256
   clear hz hup hle2 hc256
   go_wp2
   go_loopw [5,3] (fun bv nv wz => ∃ b2 y : Nat,b2 < 256 ∧ bv = .int .u8 b2 ∧ nv = .int .i64 y ∧ y + popN b = z + popN b2 ∧ y ≤ z ∧ wz = wr) (fun bv _ _ => (intOf bv).toNat)
   case atStart => exact ⟨b,z,HC.out,rfl,rfl,rfl,Nat.le_refl _,rfl⟩
   case round =>
    obtain ⟨b2,y,hb2,rfl,rfl,hy,hyz,rfl⟩ := hrel
    rcases Nat.eq_zero_or_pos b2 with rfl | hp
    ·rw [popN_zero] at hy
     have HY := Lib.hid hy
     clear hy
     go_wp2
     go_roundw
     case rel => exact ⟨k + 1,y,by omega,by go_num,rfl,by have := HY.out;have := HZ.out;omega,by trivial⟩
     case measure => simp [intOf];omega
    ·have b0 : ((b2 : Int) == 0) = false := beq_eq_false_iff_ne.2 (by omega)
     have b0' : ¬ ((b2 : Int) = 0) := by omega
     have hst := popN_step ⟨b2,hb2⟩ (by simp only;omega)
     simp only at hst
     have hand := and_8 b2 (b2 - 1) hb2 (by omega)
     have hsub : IntKind.u8.wrap ((b2 : Int) - 1) = ((b2 - 1 : Nat) : Int) := by
      simp [IntKind.wrap,IntKind.bits,IntKind.signed]
      omega
     have hlt : b2 &&& (b2 - 1) ≤ b2 - 1 := Nat.and_le_right
     obtain ⟨q,hq⟩ : ∃ q,b2 &&& (b2 - 1) = q := ⟨_,rfl⟩
     rw [hq] at hst hand hlt
     have hy1 : 1 ≤ y := by have := HZ.out;omega
     have y0 : (1 : Int) ≤ (y : Int) := by omega
     have y1 : (y : Int) ≤ 4096 := by have := HZ.out;omega
     have HY := Lib.hid (And.intro hy (And.intro hst (And.intro hlt (And.intro hp hyz))))
     clear hy hst hlt hq hp
     go_wp2
     go_roundw
     case rel => exact ⟨q,y - 1,by have := HY.out;omega,rfl,by go_num,by have := HY.out;omega,by have := HY.out;omega,trivial⟩
     case measure => have := HY.out;simp [intOf];omega
  ·obtain rfl : k = m := by omega
   have HZ := Lib.hid hz
   clear hz
   go_wp2
   go_ret
   refine ⟨?_,hbW.out⟩
   rw [show z = f by have := HZ.out;have := HAL.out;omega]
   rfl
theorem byte_last (T : List Bool) (h : 0 < T.length % 8) : byteN T (T.length / 8) / 2 ^ (T.length % 8) = 0 := by
 have hz : ∀ k,T.length % 8 ≤ k → bitN T (8 * (T.length / 8) + k) = 0 := fun k hk => by
  unfold bitN
  rw [List.getD_eq_getElem?_getD,List.getElem?_eq_none (by omega)]
  rfl
 have hl := bitN_le T
 obtain ⟨r,hr⟩ : ∃ r,T.length % 8 = r := ⟨_,rfl⟩
 obtain ⟨j,hj⟩ : ∃ j,T.length / 8 = j := ⟨_,rfl⟩
 rw [hr,hj] at hz
 rw [hr] at h
 rw [hr,hj]
 have a0 := hl (8 * j);have a1 := hl (8 * j + 1);have a2 := hl (8 * j + 2);have a3 := hl (8 * j + 3)
 have a4 := hl (8 * j + 4);have a5 := hl (8 * j + 5);have a6 := hl (8 * j + 6)
 have hr8 : r = 1 ∨ r = 2 ∨ r = 3 ∨ r = 4 ∨ r = 5 ∨ r = 6 ∨ r = 7 := by omega
 unfold byteN
 rcases hr8 with rfl | rfl | rfl | rfl | rfl | rfl | rfl
 ·rw [hz 1 (by omega),hz 2 (by omega),hz 3 (by omega),hz 4 (by omega),hz 5 (by omega),hz 6 (by omega),hz 7 (by omega)];omega
 ·rw [hz 2 (by omega),hz 3 (by omega),hz 4 (by omega),hz 5 (by omega),hz 6 (by omega),hz 7 (by omega)];omega
 ·rw [hz 3 (by omega),hz 4 (by omega),hz 5 (by omega),hz 6 (by omega),hz 7 (by omega)];omega
 ·rw [hz 4 (by omega),hz 5 (by omega),hz 6 (by omega),hz 7 (by omega)];omega
 ·rw [hz 5 (by omega),hz 6 (by omega),hz 7 (by omega)];omega
 ·rw [hz 6 (by omega),hz 7 (by omega)];omega
 ·rw [hz 7 (by omega)];omega
set_option maxRecDepth 100000 in
theorem sparse_any (T : List Bool) (w : World) (hn : T.length ≤ 4096) : Calls Tryz.prog 99 #[.int .i64 T.length, .string (mk (packB T))] w fun e w' => e = .returned (.tuple #[spv T, .int .i64 0]) ∧ Below w.heap.size w w' := by
 have K := fun w => spnew_any T.length w hn
 have hzl : (mk (packB (List.replicate T.length false))).size = (T.length + 7) / 8 := by rw [mk_size,packB_length,List.length_replicate]
 have hbl := byte_last T
 have hpk := packB_at T
 unfold spv at K ⊢
 rw [List.length_replicate] at K
 obtain ⟨X,hX⟩ : ∃ X,mk (packB T) = X := ⟨_,rfl⟩
 have hxs : X.size = (T.length + 7) / 8 := by rw [← hX,mk_size,packB_length]
 obtain ⟨Z,hZ⟩ : ∃ X,mk (packB (List.replicate T.length false)) = X := ⟨_,rfl⟩
 rw [hZ] at hzl K
 have hbyte : ∀ j,j < X.size → ∃ c : UInt8,c.toNat = byteN T j ∧ ∃ h : j < X.size,X[j]'h = c := fun j hj => by
  refine ⟨UInt8.ofNat (byteN T j),by rw [UInt8.toNat_ofNat',Nat.mod_eq_of_lt (byteN_lt T _)],hj, ?_⟩
  have h1 := packB_at T j (by omega)
  have h2 : X.data.toList[j]? = some (UInt8.ofNat (byteN T j)) := by rw [← hX,mk_data];exact h1
  rw [Array.getElem?_toList,Array.getElem?_eq_getElem (by show j < X.size;omega)] at h2
  exact Option.some.inj h2
 rw [hX]
 obtain ⟨n,hn2⟩ : ∃ n,T.length = n := ⟨_,rfl⟩
 rw [hn2] at hn hzl hbl hxs K
 rw [hn2]
 obtain ⟨r,hr⟩ : ∃ r,n % 8 = r := ⟨_,rfl⟩
 rw [hr] at hbl
 have hr8 : r < 8 := by omega
 have tm : (n : Int).tmod 8 = (r : Int) := by rw [Int.tmod_eq_emod_of_nonneg (by omega)];omega
 have hzx : (Z.size : Int) = (X.size : Int) := by omega
 have hin : ∀ w1,Below (w.alloc (.cells #[.int .i64 0, .string ⟨#[]⟩] 76)).heap.size (w.alloc (.cells #[.int .i64 0, .string ⟨#[]⟩] 76)) w1 → Blk w1 w.heap.size #[.int .i64 0, .string ⟨#[]⟩] 76 := fun w1 hb => (Blk.new w #[.int .i64 0, .string ⟨#[]⟩] 76).below hb
 have HIN := Lib.hid hin
 clear hX hZ hn2 hin hpk
 by_cases hr0 : 0 < r
 ·obtain ⟨c,hcT,hj,hcX⟩ := hbyte (n / 8) (by omega)
  have hsh := hbl hr0
  rw [← hcT] at hsh
  have hxm : ((X.size : Int) - 1) = ((n / 8 : Nat) : Int) := by omega
  obtain ⟨j,hjj⟩ : ∃ j,n / 8 = j := ⟨_,rfl⟩
  have hjn : j ≤ 512 := by omega
  rw [hjj] at hxm
  have hj' : j < X.size := by omega
  have hcX' : X[j]'hj' = c := by subst hjj;exact hcX
  have hshi : ((c.toNat : Int) / 2 ^ r) = 0 := by
   have : ((c.toNat / 2 ^ r : Nat) : Int) = 0 := by rw [hsh];rfl
   simpa using this
  have hj0 : (0 : Int) ≤ (j : Int) := by omega
  have hj1 : (j : Int) < (X.size : Int) := by omega
  have r0 : (0 : Int) < (r : Int) := by omega
  have r1 : (0 : Int) ≤ (r : Int) := by omega
  have r2 : (r : Int) ≤ 8 := by omega
  clear hbl hbyte hsh hcT hr hjj hcX hj hzl hxs
  go_enter Tryz.func99,Tryz.ntmps99
  go_wp2_with (go_at_call 100;refine (K _).mono ?_;rintro e1 w1 ⟨rfl,hbw⟩;have HW := Lib.hid hbw;have hB1 := HIN.out w1 hbw;clear hbw;have c0 := hB1.cell 0;have c1 := hB1.cell 1;have f0 := hB1.frozen 0;have f1 := hB1.frozen 1;have hl1 := hB1.lt;simp at c0 c1;clear hB1)

  refine bodyPost_ret (v := .tuple #[.agg #[.int .i64 n, .string X], .int .i64 0]) ?_ rfl ?_
  ·rw [results_cell_tmp Tryz.results99]
   go_simp
  ·refine ⟨rfl, ?_⟩
   have hz := (below_alloc w (.cells #[.int .i64 0, .string ⟨#[]⟩] 76)).trans (HW.out.mono (by simp))
   exact (below_set (below_set hz _ 0 _ (Nat.le_refl _)) _ 1 _ (Nat.le_refl _)).alloc (by simp;omega) _
 ·obtain rfl : r = 0 := by omega
  rw [Int.ofNat_zero] at tm
  clear hbl hbyte hr hzl hxs
  go_enter Tryz.func99,Tryz.ntmps99
  go_wp2_with (go_at_call 100;refine (K _).mono ?_;rintro e1 w1 ⟨rfl,hbw⟩;have HW := Lib.hid hbw;have hB1 := HIN.out w1 hbw;clear hbw;have c0 := hB1.cell 0;have c1 := hB1.cell 1;have f0 := hB1.frozen 0;have f1 := hB1.frozen 1;have hl1 := hB1.lt;simp at c0 c1;clear hB1)
  refine bodyPost_ret (v := .tuple #[.agg #[.int .i64 n, .string X], .int .i64 0]) ?_ rfl ?_
  ·rw [results_cell_tmp Tryz.results99]
   go_simp
  ·refine ⟨rfl, ?_⟩
   have hz := (below_alloc w (.cells #[.int .i64 0, .string ⟨#[]⟩] 76)).trans (HW.out.mono (by simp))
   exact (below_set (below_set hz _ 0 _ (Nat.le_refl _)) _ 1 _ (Nat.le_refl _)).alloc (by simp;omega) _
end Go.Proofs.YtcmcdddnckcpcaaGreatDoor
