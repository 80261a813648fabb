/- Packed: Shelf, Kt, Os, Wt, Bw, Sw, Ha, Hb, Hc, Dk, Hd, Fa, Nb, Nu, He, Gf, Hx, Shelh, Hf. -/
import Derived.Shelf.Strings.Builder1
import Derived.Shelf.Strings.Builder2
import Derived.Shelf.Small.Bits
import Derived.Shelf.Strings.BuilderF
import Derived.Shelf.Strings.Prefix
import Derived.Shelf.Bits.Mul64
import Derived.Shelf.Strings.Repeat
import Derived.Shelf.Slices.SearchI
import Derived.Test.YtmjdmijloanfnaaGreatDoorProg
import Derived.Test.YtmjdmijloanfnaaGreatDoorRows
import Derived.WalkKit
import Derived.Lib.Hide
import Derived.Laws.NewBlocks
import Derived.BigRegion
import Derived.Laws.IdiomStrings
import Derived.Laws.MakeOwn
import Derived.Deep.QuietTactic
import Derived.BigQuiet
import Derived.Deep.RegionHeld3
import Derived.Deep.CutRange
import Derived.IntWalk
import Derived.Laws.Cover1
import Derived.Deep.AppendLies
import Derived.OrdersHeld
import Derived.Below
import Derived.OwnWalk
import Derived.Laws.AppendOwn
import Derived.Laws.OwnMore
import Derived.KernelRfl
import Derived.Laws.Strings
import Derived.Laws.Entries
import Derived.RegionTactic
import Derived.StillTailTactics
import Derived.Laws.CopyOwn
import Derived.Deep.MidRow
import Derived.Lib.ItoaMem
import Derived.ChangeAlike
import Derived.Lib.OthersKept
import Derived.Laws.RangeAny
import Derived.Shelf.Small.Strs
import Derived.Shelf.Small.Wraps
namespace Go.Proofs
open Go.Shelf
def Tryz.lays170_ren : Go.Shelf.Ren := ⟨fun | 170 => 143 | n => n,fun | 70 => 151 | 3 => 3 | 0 => 0 | 72 => 153 | 37 => 64 | 5 => 5 | n => n,fun | n => n⟩
theorem Tryz.lays170 : Go.Proofs.Lays.n170 Tryz.prog Tryz.lays170_ren := {
 mixed := by kernel_rfl
 f170 := Tryz.func143.trans (congrArg some (by kernel_rfl))
 t0 := Tryz.underlying0
 a0 := Tryz.isAgg0
 z0 := Tryz.sizeOf0
 v0 := Tryz.zeroValue0
 t3 := Tryz.underlying3
 a3 := Tryz.isAgg3
 z3 := Tryz.sizeOf3
 v3 := Tryz.zeroValue3
 t37 := Tryz.underlying64
 a37 := Tryz.isAgg64
 z37 := Tryz.sizeOf64
 v37 := Tryz.zeroValue64
 t70 := Tryz.underlying151
 a70 := Tryz.isAgg151
 z70 := Tryz.sizeOf151
 v70 := Tryz.zeroValue151
 t72 := Tryz.underlying153
 a72 := Tryz.isAgg153
 z72 := Tryz.sizeOf153
 v72 := Tryz.zeroValue153 }
open Go.RowKit in
theorem Tryz.Builder_Len (B b : Nat) (bs : List Value) (w : World) (h : Lib.IsBuilder 153 5 B b bs w) :
  Calls Tryz.prog 143 #[.pointer (some ⟨b,0,none⟩)] w fun e w' => e = .returned (.int .i64 bs.length) ∧ w' = w := Any.Builder_Len Tryz.lays170 B b bs w h
def Tryz.lays169_ren : Go.Shelf.Ren := ⟨fun | 169 => 83 | n => n,fun | 70 => 151 | 9 => 9 | 0 => 0 | 72 => 153 | 37 => 64 | 127 => 204 | 3 => 3 | 5 => 5 | n => n,fun | n => n⟩
theorem Tryz.lays169 : Go.Proofs.Lays.n169 Tryz.prog Tryz.lays169_ren := {
 mixed := by kernel_rfl
 f169 := Tryz.func83.trans (congrArg some (by kernel_rfl))
 t0 := Tryz.underlying0
 a0 := Tryz.isAgg0
 z0 := Tryz.sizeOf0
 v0 := Tryz.zeroValue0
 t3 := Tryz.underlying3
 a3 := Tryz.isAgg3
 z3 := Tryz.sizeOf3
 v3 := Tryz.zeroValue3
 t9 := Tryz.underlying9
 a9 := Tryz.isAgg9
 z9 := Tryz.sizeOf9
 v9 := Tryz.zeroValue9
 t37 := Tryz.underlying64
 a37 := Tryz.isAgg64
 z37 := Tryz.sizeOf64
 v37 := Tryz.zeroValue64
 t70 := Tryz.underlying151
 a70 := Tryz.isAgg151
 z70 := Tryz.sizeOf151
 v70 := Tryz.zeroValue151
 t72 := Tryz.underlying153
 a72 := Tryz.isAgg153
 z72 := Tryz.sizeOf153
 v72 := Tryz.zeroValue153
 t127 := Tryz.underlying204
 a127 := Tryz.isAgg204
 z127 := Tryz.sizeOf204
 v127 := Tryz.zeroValue204 }
theorem Tryz.Builder_Extra_169 : Builder.Extra Tryz.prog Tryz.lays169_ren := {
 sizeBuilder := by kernel_rfl
 liesBuilder := by kernel_rfl
 t5 := Tryz.underlying5
 a5 := Tryz.isAgg5
 z5 := Tryz.sizeOf5
 v5 := Tryz.zeroValue5
 infoByte := by kernel_rfl
 cellsByte := by kernel_rfl
 sizeByte := by kernel_rfl
 neB5 := by decide }
open Go.RowKit in
theorem Tryz.Builder_String (B b : Nat) (l : List UInt8) (w : World) (h : Lib.IsBuilder 153 5 B b (Lib.byteCells l) w) (h0 : l ≠ []) :
  Calls Tryz.prog 83 #[.pointer (some ⟨b,0,none⟩)] w fun e w' => e = .returned (.string ⟨l.toArray⟩) ∧ Below B w w' := Any.Builder_String Tryz.lays169 Tryz.Builder_Extra_169 B b l w h h0
open Go.RowKit in
theorem Tryz.Builder_String_any (B b : Nat) (l : List UInt8) (w : World) (h : Lib.IsBuilder 153 5 B b (Lib.byteCells l) w) (hBw : B ≤ w.heap.size) :
  Calls Tryz.prog 83 #[.pointer (some ⟨b,0,none⟩)] w fun e w' => e = .returned (.string ⟨l.toArray⟩) ∧ Below B w w' := Any.Builder_String_any Tryz.lays169 Tryz.Builder_Extra_169 B b l w h hBw
def Tryz.lays125_ren : Go.Shelf.Ren := ⟨fun | 125 => 152 | 128 => 172 | 129 => 173 | n => n,fun | 46 => 125 | 3 => 3 | 51 => 137 | 53 => 167 | 4 => 4 | 5 => 5 | 9 => 9 | n => n,fun | n => n⟩
theorem Tryz.lays125 : Go.Proofs.Lays.n125 Tryz.prog Tryz.lays125_ren := {
 mixed := by kernel_rfl
 f125 := Tryz.func152.trans (congrArg some (by kernel_rfl))
 f128 := Tryz.func172.trans (congrArg some (by kernel_rfl))
 f129 := Tryz.func173.trans (congrArg some (by kernel_rfl))
 t3 := Tryz.underlying3
 a3 := Tryz.isAgg3
 z3 := Tryz.sizeOf3
 v3 := Tryz.zeroValue3
 t4 := Tryz.underlying4
 a4 := Tryz.isAgg4
 z4 := Tryz.sizeOf4
 v4 := Tryz.zeroValue4
 t5 := Tryz.underlying5
 a5 := Tryz.isAgg5
 z5 := Tryz.sizeOf5
 v5 := Tryz.zeroValue5
 t9 := Tryz.underlying9
 a9 := Tryz.isAgg9
 z9 := Tryz.sizeOf9
 v9 := Tryz.zeroValue9
 t46 := Tryz.underlying125
 a46 := Tryz.isAgg125
 z46 := Tryz.sizeOf125
 v46 := Tryz.zeroValue125
 t51 := Tryz.underlying137
 a51 := Tryz.isAgg137
 z51 := Tryz.sizeOf137
 v51 := Tryz.zeroValue137
 t53 := Tryz.underlying167
 a53 := Tryz.isAgg167
 z53 := Tryz.sizeOf167
 v53 := Tryz.zeroValue167 }
theorem Tryz.bits_Len (x : Int) (w : World) (h0 : 0 ≤ x) (h1 : x ≤ 18446744073709551615) :
  Calls Tryz.prog 152 #[.int .u64 x] w fun e w' => e = .returned (.int .i64 (Lib.bitLen x.toNat)) ∧ w' = w := Any.bits_Len Tryz.lays125 x w h0 h1
def Tryz.lays131_ren : Go.Shelf.Ren := ⟨fun | 131 => 157 | 126 => 174 | n => n,fun | 5 => 5 | 3 => 3 | 9 => 9 | n => n,fun | n => n⟩
theorem Tryz.lays131 : Go.Proofs.Lays.n131 Tryz.prog Tryz.lays131_ren := {
 mixed := by kernel_rfl
 f126 := Tryz.func174.trans (congrArg some (by kernel_rfl))
 f131 := Tryz.func157.trans (congrArg some (by kernel_rfl))
 t3 := Tryz.underlying3
 a3 := Tryz.isAgg3
 z3 := Tryz.sizeOf3
 v3 := Tryz.zeroValue3
 t5 := Tryz.underlying5
 a5 := Tryz.isAgg5
 z5 := Tryz.sizeOf5
 v5 := Tryz.zeroValue5
 t9 := Tryz.underlying9
 a9 := Tryz.isAgg9
 z9 := Tryz.sizeOf9
 v9 := Tryz.zeroValue9 }
theorem Tryz.bits_LeadingZeros8 (x : Int) (w : World) (h0 : 0 ≤ x) (h1 : x ≤ 255) :
  Calls Tryz.prog 157 #[.int .u8 x] w fun e w' => e = .returned (.int .i64 (8 - (Lib.bitLen x.toNat : Int))) ∧ w' = w := Any.bits_LeadingZeros8 Tryz.lays131 x w h0 h1
def Tryz.lays264_ren : Go.Shelf.Ren := ⟨fun | 264 => 155 | n => n,fun | 53 => 167 | 46 => 125 | n => n,fun | n => n⟩
theorem Tryz.lays264 : Go.Proofs.Lays.n264 Tryz.prog Tryz.lays264_ren := {
 mixed := by kernel_rfl
 f264 := Tryz.func155.trans (congrArg some (by kernel_rfl))
 t46 := Tryz.underlying125
 a46 := Tryz.isAgg125
 z46 := Tryz.sizeOf125
 v46 := Tryz.zeroValue125
 t53 := Tryz.underlying167
 a53 := Tryz.isAgg167
 z53 := Tryz.sizeOf167
 v53 := Tryz.zeroValue167 }
open Go.RowKit Go.Lib in
theorem Tryz.bits_Mul64 (x y : Nat) (hx : x < 18446744073709551616) (hy : y < 18446744073709551616) (w : World) :
  Calls Tryz.prog 155 #[.int .u64 x, .int .u64 y] w fun e w' => e = .returned (.tuple #[.int .u64 ((x * y / 18446744073709551616 : Nat) : Int), .int .u64 ((x * y % 18446744073709551616 : Nat) : Int)]) ∧ w' = w := Any.bits_Mul64 Tryz.lays264 x y hx hy w
def Tryz.lays212_ren : Go.Shelf.Ren := ⟨fun | 212 => 129 | 263 => 154 | 264 => 155 | n => n,fun | 46 => 125 | 51 => 137 | 146 => 226 | 53 => 167 | 148 => 228 | n => n,fun | n => n⟩
theorem Tryz.lays212 : Go.Proofs.Lays.n212 Tryz.prog Tryz.lays212_ren := {
 mixed := by kernel_rfl
 f212 := Tryz.func129.trans (congrArg some (by kernel_rfl))
 f263 := Tryz.func154.trans (congrArg some (by kernel_rfl))
 f264 := Tryz.func155.trans (congrArg some (by kernel_rfl))
 t46 := Tryz.underlying125
 a46 := Tryz.isAgg125
 z46 := Tryz.sizeOf125
 v46 := Tryz.zeroValue125
 t51 := Tryz.underlying137
 a51 := Tryz.isAgg137
 z51 := Tryz.sizeOf137
 v51 := Tryz.zeroValue137
 t53 := Tryz.underlying167
 a53 := Tryz.isAgg167
 z53 := Tryz.sizeOf167
 v53 := Tryz.zeroValue167
 t146 := Tryz.underlying226
 a146 := Tryz.isAgg226
 z146 := Tryz.sizeOf226
 v146 := Tryz.zeroValue226
 t148 := Tryz.underlying228
 a148 := Tryz.isAgg228
 z148 := Tryz.sizeOf228
 v148 := Tryz.zeroValue228 }
open Go.RowKit Go.Lib in
theorem Tryz.bits_Mul (x y : Nat) (hx : x < 18446744073709551616) (hy : y < 18446744073709551616) (w : World) :
  Calls Tryz.prog 129 #[.int .u64 x, .int .u64 y] w fun e w' => e = .returned (.tuple #[.int .u64 ((x * y / 18446744073709551616 : Nat) : Int), .int .u64 ((x * y % 18446744073709551616 : Nat) : Int)]) ∧ w' = w := Any.bits_Mul Tryz.lays212 x y hx hy w
def Tryz.lays105_ren : Go.Shelf.Ren := ⟨fun | 105 => 112 | 212 => 129 | 99 => 141 | 165 => 142 | 166 => 82 | 170 => 143 | 169 => 83 | 263 => 154 | 264 => 155 | 206 => 127 | 240 => 123 | 241 => 160 | 276 => 149 | 277 => 176 | n => n,fun | 9 => 9 | 3 => 3 | 4 => 4 | 20 => 20 | 0 => 0 | 46 => 125 | 109 => 206 | 5 => 5 | 72 => 153 | 76 => 156 | 51 => 137 | 146 => 226 | 53 => 167 | 148 => 228 | 70 => 151 | 37 => 64 | 75 => 155 | 127 => 204 | 164 => 221 | 80 => 143 | n => n,fun | n => n⟩
theorem Tryz.lays105 : Go.Proofs.Lays.n105 Tryz.prog Tryz.lays105_ren := {
 mixed := by kernel_rfl
 f99 := Tryz.func141.trans (congrArg some (by kernel_rfl))
 f105 := Tryz.func112.trans (congrArg some (by kernel_rfl))
 f165 := Tryz.func142.trans (congrArg some (by kernel_rfl))
 f166 := Tryz.func82.trans (congrArg some (by kernel_rfl))
 f169 := Tryz.func83.trans (congrArg some (by kernel_rfl))
 f170 := Tryz.func143.trans (congrArg some (by kernel_rfl))
 f206 := Tryz.func127.trans (congrArg some (by kernel_rfl))
 f212 := Tryz.func129.trans (congrArg some (by kernel_rfl))
 f240 := Tryz.func123.trans (congrArg some (by kernel_rfl))
 f241 := Tryz.func160.trans (congrArg some (by kernel_rfl))
 f263 := Tryz.func154.trans (congrArg some (by kernel_rfl))
 f264 := Tryz.func155.trans (congrArg some (by kernel_rfl))
 f276 := Tryz.func149.trans (congrArg some (by kernel_rfl))
 f277 := Tryz.func176.trans (congrArg some (by kernel_rfl))
 t0 := Tryz.underlying0
 a0 := Tryz.isAgg0
 z0 := Tryz.sizeOf0
 v0 := Tryz.zeroValue0
 t3 := Tryz.underlying3
 a3 := Tryz.isAgg3
 z3 := Tryz.sizeOf3
 v3 := Tryz.zeroValue3
 t4 := Tryz.underlying4
 a4 := Tryz.isAgg4
 z4 := Tryz.sizeOf4
 v4 := Tryz.zeroValue4
 t5 := Tryz.underlying5
 a5 := Tryz.isAgg5
 z5 := Tryz.sizeOf5
 v5 := Tryz.zeroValue5
 t9 := Tryz.underlying9
 a9 := Tryz.isAgg9
 z9 := Tryz.sizeOf9
 v9 := Tryz.zeroValue9
 t20 := Tryz.underlying20
 a20 := Tryz.isAgg20
 z20 := Tryz.sizeOf20
 v20 := Tryz.zeroValue20
 t37 := Tryz.underlying64
 a37 := Tryz.isAgg64
 z37 := Tryz.sizeOf64
 v37 := Tryz.zeroValue64
 t46 := Tryz.underlying125
 a46 := Tryz.isAgg125
 z46 := Tryz.sizeOf125
 v46 := Tryz.zeroValue125
 t51 := Tryz.underlying137
 a51 := Tryz.isAgg137
 z51 := Tryz.sizeOf137
 v51 := Tryz.zeroValue137
 t53 := Tryz.underlying167
 a53 := Tryz.isAgg167
 z53 := Tryz.sizeOf167
 v53 := Tryz.zeroValue167
 t70 := Tryz.underlying151
 a70 := Tryz.isAgg151
 z70 := Tryz.sizeOf151
 v70 := Tryz.zeroValue151
 t72 := Tryz.underlying153
 a72 := Tryz.isAgg153
 z72 := Tryz.sizeOf153
 v72 := Tryz.zeroValue153
 t75 := Tryz.underlying155
 a75 := Tryz.isAgg155
 z75 := Tryz.sizeOf155
 v75 := Tryz.zeroValue155
 t76 := Tryz.underlying156
 a76 := Tryz.isAgg156
 z76 := Tryz.sizeOf156
 v76 := Tryz.zeroValue156
 t109 := Tryz.underlying206
 a109 := Tryz.isAgg206
 z109 := Tryz.sizeOf206
 v109 := Tryz.zeroValue206
 t127 := Tryz.underlying204
 a127 := Tryz.isAgg204
 z127 := Tryz.sizeOf204
 v127 := Tryz.zeroValue204
 t146 := Tryz.underlying226
 a146 := Tryz.isAgg226
 z146 := Tryz.sizeOf226
 v146 := Tryz.zeroValue226
 t148 := Tryz.underlying228
 a148 := Tryz.isAgg228
 z148 := Tryz.sizeOf228
 v148 := Tryz.zeroValue228
 t164 := Tryz.underlying221
 a164 := Tryz.isAgg221
 z164 := Tryz.sizeOf221
 v164 := Tryz.zeroValue221 }
theorem Tryz.Builder_Extra_105 : Builder.Extra Tryz.prog Tryz.lays105_ren := {
 sizeBuilder := by kernel_rfl
 liesBuilder := by kernel_rfl
 t5 := Tryz.underlying5
 a5 := Tryz.isAgg5
 z5 := Tryz.sizeOf5
 v5 := Tryz.zeroValue5
 infoByte := by kernel_rfl
 cellsByte := by kernel_rfl
 sizeByte := by kernel_rfl
 neB5 := by decide }
open Go.RowKit Go.Lib in
theorem Tryz.strings_Repeat_main (s : ByteArray) (c : Nat) (w : World) (hc2 : 2 ≤ c) (hc : c ≤ 9223372036854775807) (hlen : s.size * c ≤ 140737488355328) (h0 : 0 < s.size) :
  Calls Tryz.prog 112 #[.string s, .int .i64 c] w fun e w' => e = .returned (.string ⟨(Lib.repeatL s.data.toList c).toArray⟩) ∧ Below w.heap.size w w' := Any.strings_Repeat_main Tryz.lays105 Tryz.Builder_Extra_105 s c w hc2 hc hlen h0
open Go.RowKit Go.Lib in
theorem Tryz.strings_Repeat (s : ByteArray) (c : Nat) (w : World) (hc : c ≤ 9223372036854775807) (hlen : s.size * c ≤ 140737488355328) :
  Calls Tryz.prog 112 #[.string s, .int .i64 c] w fun e w' => e = .returned (.string ⟨(Lib.repeatL s.data.toList c).toArray⟩) ∧ Below w.heap.size w w' := Any.strings_Repeat Tryz.lays105 Tryz.Builder_Extra_105 s c w hc hlen
end Go.Proofs
namespace Go.Proofs.YtmjdmijloanfnaaGreatDoor
open Go.RowKit
abbrev Bs := List UInt8
def mk (l : Bs) : ByteArray := ⟨l.toArray⟩
theorem mk_list (s : ByteArray) : mk s.data.toList = s := rfl
theorem mk_data (l : Bs) : (mk l).data.toList = l := by simp [mk]
theorem mk_size (l : Bs) : (mk l).size = l.length := by simp [mk,ByteArray.size]
theorem mk_toList' (a : Bs) : (mk a).toList = a := by rw [ByteArray.toList_eq,mk_data]
theorem below_alloc (w : World) (o : Obj) : Below w.heap.size w (w.alloc o) := (Below.refl _ w).alloc (Nat.le_refl _) o
theorem cell_lt {w : World} {a : Addr} {v : Value} (h : w.cell? a = some v) : a.block < w.heap.size := by
 rcases Nat.lt_or_ge a.block w.heap.size with h' | h'
 ·exact h'
 ·simp [World.cell?,Array.getElem?_eq_none h'] at h
def Lies (w : World) (A : Option Addr) (xs : List Value) : Prop := 0 < xs.length → ∃ g o,A = some ⟨g,o,none⟩ ∧ g < w.heap.size ∧ ∀ j u,xs[j]? = some u → w.cell? ⟨g,o + j,none⟩ = some u
theorem Lies.below {w w' : World} {A : Option Addr} {xs : List Value} (h : Lies w A xs) {B : Nat} (hB : w.heap.size ≤ B) (hb : Below B w w') : Lies w' A xs := by
 intro h0
 obtain ⟨g,o,rfl,hl,hc⟩ := h h0
 have hl' := Nat.lt_of_lt_of_le hl hB
 exact ⟨g,o,rfl,Nat.lt_of_lt_of_le hl hb.size,fun j u hu => (hb.cell (p := ⟨g,o + j,none⟩) hl').trans (hc j u hu)⟩
theorem add_lit' (g o j : Nat) : (⟨g,o,none⟩ : Addr).add j = ⟨g,o + j,none⟩ := by unfold Addr.add;split <;> simp_all
theorem Lies.of_row {w : World} {B c n size : Nat} {e : TypeId} {A : Option Addr} {xs : List Value} (h : w.ownsRow B e size (.slice A n c) n xs) : Lies w A xs := by
 intro h0
 rcases h.2 with ⟨_,e0⟩ | ⟨g,c',cur,hv,hg,hh,hc,_,hs,ht⟩
 ·have := h.1
  subst e0
  omega
 ·injection hv with hA
  refine ⟨g,0,hA,(Array.getElem?_eq_some_iff.1 hh).1,fun j u hj => ?_⟩
  have hk : j < n * size := by
   have := (List.getElem?_eq_some_iff.1 hj).1
   rw [h.1] at this;exact this
  rw [← ht,List.getElem?_take,if_pos hk] at hj
  unfold World.cell?;rw [hh];simpa using hj
def Blk (w : World) (b : Nat) (cs : Array Value) (e : TypeId) : Prop := w.heap[b]? = some (.cells cs e (0,0))
theorem Blk.cell {w : World} {b : Nat} {cs : Array Value} {e : TypeId} (h : Blk w b cs e) (i : Nat) : w.cell? ⟨b,i,none⟩ = cs[i]? := by
 unfold Blk at h
 unfold World.cell?;rw [h];simp
theorem Blk.frozen {w : World} {b : Nat} {cs : Array Value} {e : TypeId} (h : Blk w b cs e) (i : Nat) : w.frozen? ⟨b,i,none⟩ = false := by
 unfold Blk at h
 unfold World.frozen?;rw [h];simp
theorem Blk.set {w : World} {b : Nat} {cs : Array Value} {e : TypeId} (h : Blk w b cs e) (i : Nat) (v : Value) : Blk (w.setCell ⟨b,i,none⟩ v) b (cs.setIfInBounds i v) e := by
 unfold Blk at h ⊢
 show (w.heap.modify b _)[b]? = _
 rw [Array.getElem?_modify,if_pos rfl,h];simp
theorem Blk.lt {w : World} {b : Nat} {cs : Array Value} {e : TypeId} (h : Blk w b cs e) : b < w.heap.size := (Array.getElem?_eq_some_iff.1 h).1
theorem Blk.below {w w' : World} {b : Nat} {cs : Array Value} {e : TypeId} (h : Blk w b cs e) (hb : Below w.heap.size w w') : Blk w' b cs e := (hb.block b h.lt).trans h
theorem Blk.new (w : World) (cs : Array Value) (e : TypeId) : Blk (w.alloc (.cells cs e)) w.heap.size cs e := heap_alloc_new w _
theorem Blk.alloc {w : World} {b : Nat} {cs : Array Value} {e : TypeId} (h : Blk w b cs e) (o : Obj) : Blk (w.alloc o) b cs e := (Below.heap_alloc w o b h.lt).trans h
theorem Blk.drew {w : World} {b : Nat} {cs : Array Value} {e : TypeId} (h : Blk w b cs e) : Blk w.drew b cs e := h
theorem below_step {w0 w w1 : World} (hb : Below w0.heap.size w0 w) (h : Below w.heap.size w w1) : Below w0.heap.size w0 w1 := hb.trans (h.mono hb.size)
theorem own_below {w w' : World} {b size : Nat} {e : TypeId} {v : Value} {n : Nat} {xs : List Value} (h : w.ownsRow b e size v n xs) (hb : Below w.heap.size w w') : w'.ownsRow b e size v n xs := by
 refine ⟨h.1,h.2.imp id ?_⟩
 rintro ⟨g,cap,cur,h1,h2,h3,h4⟩
 exact ⟨g,cap,cur,h1,h2,(hb.block g (Array.getElem?_eq_some_iff.1 h3).1).trans h3,h4⟩
theorem grown_trans {w a b : World} {r : Option Nat} (h : w.grownBy a r) (h2 : a.grownBy b r) : w.grownBy b r :=
 ⟨h2.os.trans h.os,h2.tape.trans h.tape,h2.output.trans h.output,Nat.le_trans h.size h2.size,fun k hk hne => (h2.block k (Nat.lt_of_lt_of_le hk h.size) hne).trans (h.block k hk hne)⟩
theorem grown_set (w : World) (b i : Nat) (v : Value) : w.grownBy (w.setCell ⟨b,i,none⟩ v) (some b) := by
 refine ⟨rfl,rfl,rfl,by simp [World.setCell],fun k hk hne => ?_⟩
 show (w.heap.modify b _)[k]? = _
 rw [Array.getElem?_modify,if_neg (fun e => hne (by rw [e]))]
theorem row_form {w : World} {B n size : Nat} {e : TypeId} {v : Value} {xs : List Value} (h : w.ownsRow B e size v n xs) : ∃ A c,v = .slice A n c := by
 rcases h.2 with ⟨hv,rfl⟩ | ⟨g,c,cur,hv,_⟩
 ·exact ⟨none,0,hv⟩
 ·exact ⟨_,c,hv⟩
theorem own_ne_blk {w : World} {B s n X : Nat} {e e' : TypeId} {v : Value} {xs : List Value} {cs : Array Value} (h : w.ownsRow B e s v n xs) (hX : Blk w X cs e') (he : e ≠ e') : v.ownBlock ≠ some X := by
 intro hv
 rcases h.2 with ⟨rfl,_⟩ | ⟨g,c,cur,rfl,_,hg,_⟩
 ·simp [Value.ownBlock] at hv
 ·simp only [Value.ownBlock,Option.some.injEq] at hv
  subst hv
  unfold Blk at hX
  rw [hg] at hX
  simp only [Option.some.injEq,Obj.cells.injEq] at hX
  exact he hX.2.1
theorem Blk.grown {w w' : World} {X : Nat} {cs : Array Value} {e : TypeId} {r : Option Nat} (h : Blk w X cs e) (hg : w.grownBy w' r) (hr : r ≠ some X) : Blk w' X cs e := (hg.block X h.lt (fun e => hr e.symm)).trans h
theorem own_set {w : World} {B s n X : Nat} {e e' : TypeId} {v : Value} {xs : List Value} {cs : Array Value} (h : w.ownsRow B e s v n xs) (hX : Blk w X cs e') (he : e ≠ e') (i : Nat) (u : Value) : (w.setCell ⟨X,i,none⟩ u).ownsRow B e s v n xs :=
 h.kept (grown_set w X i u) (.inr (own_ne_blk h hX he))
def Typed (w : World) (A : Option Addr) (e : TypeId) : Prop := ∀ a,A = some a → ∃ cs fr,w.heap[a.block]? = some (.cells cs e fr)
theorem Typed.below {w w' : World} {A : Option Addr} {e : TypeId} (h : Typed w A e) (hb : Below w.heap.size w w') : Typed w' A e := by
 intro a ha
 obtain ⟨cs,fr,hc⟩ := h a ha
 exact ⟨cs,fr,(hb.block _ (Array.getElem?_eq_some_iff.1 hc).1).trans hc⟩
theorem Typed.of_row {w : World} {B e s n c : Nat} {A : Option Addr} {xs : List Value} (h : w.ownsRow B e s (.slice A n c) n xs) : Typed w A e := by
 intro a ha
 rcases h.2 with ⟨hv,_⟩ | ⟨g,cap,cur,hv,_,hg,_⟩
 ·simp [ha] at hv
 ·simp only [Value.slice.injEq] at hv
  rw [ha] at hv
  rw [Option.some.inj hv.1]
  exact ⟨cur,_,hg⟩
theorem run_app {w : World} {P : Program} (ty t e : TypeId) (i : TypeInfo) (z : Value) (size bytes : Nat) (ht : P.underlying t = some (.slice e)) (hi : P.info? e = some i) (hz : i.zero = some z) (hs : i.size = size) (hby : i.bytes = bytes) (hzs : z.cells.size = size) (hsz : 0 < size)
  (B : Nat) (v : Value) (n : Nat) (xs : List Value) (hown : w.ownsRow B e size v n xs) (A : Option Addr) (m c : Nat) (news : List Value) (hl : news.length = m * size) (hL : Lies w A news) (h1 : ∀ u ∈ news,u.oneCell' = true) (h63 : n + m ≤ 10000000) (hby2 : bytes ≤ 1000) (hB : B ≤ w.heap.size) :
  ∃ A' c' w',(Builtin.append_ #[t,t] ty #[v, .slice A m c]).run P w = .ok (.slice A' (n + m) c') w' ∧ w'.ownsRow B e size (.slice A' (n + m) c') (n + m) (xs ++ news) ∧ w.grownBy w' v.ownBlock := by
 have hform : ∀ {w' : World} {v' : Value} {k : Nat} {ys : List Value},w'.ownsRow B e size v' k ys → ∃ A' c',v' = .slice A' k c' := by
  intro w' v' k ys h
  rcases h.2 with ⟨h1,h2⟩ | ⟨g,cap,cur,h1,_⟩
  ·subst h2;exact ⟨_,_,h1⟩
  ·exact ⟨_,_,h1⟩
 have hb2 : (n + m) * bytes ≤ 140737488355328 := by
  have := Nat.mul_le_mul h63 hby2
  omega
 cases A with
 | none =>
  have hm0 : news = [] := by
   cases news with
   | nil => rfl
   | cons a l => obtain ⟨g,o,hA,_⟩ := hL (by simp);cases hA
  subst hm0
  have hm : m = 0 := by
   rcases Nat.eq_zero_or_pos m with h | h
   ·exact h
   ·have := Nat.mul_pos h hsz;simp at hl;omega
  subst hm
  obtain ⟨A',c',rfl⟩ := hform hown
  refine ⟨A',c',w, ?_,by simpa using hown,World.grownBy.refl w _⟩
  rcases hown.2 with ⟨hv,h2⟩ | ⟨g,cap,cur,hv,_,_,hnc,_⟩
  ·injection hv with e1 e2 e3
   subst e1;subst e3;subst h2
   simp [Builtin.append_,run_underlying ht,sizeOf,typeInfo,hi,Builtin.lenOf,Builtin.firstCells]
  ·injection hv with e1 e2 e3
   subst e1;subst e3
   simp [Builtin.append_,run_underlying ht,sizeOf,typeInfo,hi,Builtin.lenOf,Builtin.firstCells,hnc,storeCells]
 | some ad =>
  have hcells : ∀ j u,news[j]? = some u → w.cell? (ad.add j) = some u := by
   intro j u hu
   obtain ⟨g,o,hA,_,hc⟩ := hL (by have := (List.getElem?_eq_some_iff.1 hu).1;omega)
   injection hA with hA
   subst hA
   rw [add_lit']
   exact hc j u hu
  obtain ⟨v',w',hrun,h2,h3,_⟩ := run_append_own_at (P := P) w B t ty e i z size bytes ht hi hz hs hby hzs hsz v n xs hown ad m c news hl hcells h1 (by simp only [maxLen];omega) hb2 hB
  obtain ⟨A',c',rfl⟩ := hform h2
  exact ⟨A',c',w',hrun,h2,h3⟩
theorem wp_app {w : World} {P : Program} {o : Oper} {a : Act} {K : Act → World → Prop} {Q : Exit → Act → World → Prop} (s x : Operand) (t e : TypeId)
  (ho : o.op = .call { callee := .builtin .append,args := #[s,x],argTypes := #[t,t] }) (i : TypeInfo) (z : Value) (size bytes : Nat) (ht : P.underlying t = some (.slice e)) (hi : P.info? e = some i) (hz : i.zero = some z) (hs : i.size = size) (hby : i.bytes = bytes) (hzs : z.cells.size = size) (hsz : 0 < size)
  (B : Nat) (v : Value) (hsv : a.eval s = v) (n : Nat) (xs : List Value) (hown : w.ownsRow B e size v n xs) (A : Option Addr) (m c : Nat) (hx : a.eval x = .slice A m c) (news : List Value) (hl : news.length = m * size) (hL : Lies w A news) (h1 : ∀ u ∈ news,u.oneCell' = true) (h63 : n + m ≤ 10000000) (hby2 : bytes ≤ 1000) (hB : B ≤ w.heap.size)
  (hK : ∀ A' c' w',w'.ownsRow B e size (.slice A' (n + m) c') (n + m) (xs ++ news) → w.grownBy w' v.ownBlock → K (a.put o.dst (.slice A' (n + m) c')) w') : o.wp P a w K Q := by
 obtain ⟨A',c',w',hrun,h2,h3⟩ := run_app (P := P) o.type t e i z size bytes ht hi hz hs hby hzs hsz B v n xs hown A m c news hl hL h1 h63 hby2 hB
 unfold Oper.wp execOp
 simp only [ho,resolve,invoke,builtin,Sem.run_bind,Sem.run_pure,Result.andThen_ok,List.map_toArray,List.map_cons,List.map_nil,hsv,hx,hrun]
 exact hK _ _ _ h2 h3
theorem wpOp_of {P : Program} {ops : Array Oper} {Q : Exit → Act → World → Prop} {i : Nat} {K : Act → World → Prop} {a : Act} {w : World} {o : Oper} (ho : ops[i]? = some o) (hg : o.guard = none) (h : o.wp P a w K Q) : wpOp P ops Q i K a w := by
 unfold wpOp
 simp only [ho]
 rw [if_pos (by simp [Region.wanted,hg])]
 exact .inl h
theorem own_weaken {w : World} {B B' e size n : Nat} {v : Value} {xs : List Value} (h : w.ownsRow B e size v n xs) (hB : B' ≤ B) : w.ownsRow B' e size v n xs :=
 ⟨h.1,h.2.imp id (fun ⟨g,c,cur,h1,h2,h3⟩ => ⟨g,c,cur,h1,Nat.le_trans hB h2,h3⟩)⟩
def txc (l : List Bs) : List Value := l.map fun t => .string (mk t)
theorem txc_at (l : List Bs) (j : Nat) (h : j < l.length) : (txc l)[j]? = some (.string (mk l[j])) := by simp [txc,h]
theorem txc_snoc (l : List Bs) (t : Bs) : txc (l ++ [t]) = txc l ++ [.string (mk t)] := by simp [txc]
theorem row_kind {w : World} {B : Nat} {e : TypeId} {size : Nat} {v : Value} {n : Nat} {xs : List Value} (h : w.ownsRow B e size v n xs) (g : Nat) (hg : v.ownBlock = some g) : ∃ c fz,w.heap[g]? = some (.cells c e fz) := by
 rcases h.2 with ⟨rfl,_⟩ | ⟨g',c',cur,rfl,_,hh,_⟩
 ·cases hg
 ·cases hg
  exact ⟨_,_,hh⟩
theorem cell_old (w : World) (o : Obj) (p : Addr) (h : p.block < w.heap.size) : (w.alloc o).cell? p = w.cell? p := World.cell?_of_block (Below.heap_alloc w o p.block h)
theorem row_lies {w : World} {B n c e : Nat} {A : Option Addr} {xs : List Value} (h : w.ownsRow B e 1 (.slice A n c) n xs) : Lies w A xs := by
 intro h0
 have hl := h.1
 obtain ⟨g,cc,hv,hgb,hgl⟩ := h.form (by omega)
 injection hv with hA _ hc
 subst hA
 refine ⟨g,0,rfl,hgl,fun j u hj => ?_⟩
 rw [Nat.zero_add,h.cellAt j (by have := (List.getElem?_eq_some_iff.1 hj).1;omega)]
 exact hj
structure Frm (X : List Nat) (w w' : World) : Prop where
 os : w'.os = w.os
 tape : w'.tape = w.tape
 output : w'.output = w.output
 size : w.heap.size ≤ w'.heap.size
 block : ∀ k,k < w.heap.size → k ∉ X → w'.heap[k]? = w.heap[k]?
theorem Frm.refl (X : List Nat) (w : World) : Frm X w w := ⟨rfl,rfl,rfl,Nat.le_refl _,fun _ _ _ => rfl⟩
theorem Frm.of_below {w w' : World} (X : List Nat) (h : Below w.heap.size w w') : Frm X w w' := ⟨h.os,h.tape,h.output,h.size,fun k hk _ => h.block k hk⟩
theorem Frm.trans {X Y : List Nat} {a b c : World} (h : Frm X a b) (k : Frm Y b c) (hY : ∀ y ∈ Y,y ∈ X ∨ a.heap.size ≤ y) : Frm X a c :=
 ⟨k.os.trans h.os,k.tape.trans h.tape,k.output.trans h.output,Nat.le_trans h.size k.size,fun i hi hx => (k.block i (Nat.lt_of_lt_of_le hi h.size) (fun hy => (hY i hy).elim hx (fun hh => by omega))).trans (h.block i hi hx)⟩
theorem Frm.mono {X Y : List Nat} {w w' : World} (h : Frm X w w') (hXY : ∀ x ∈ X,x ∈ Y) : Frm Y w w' := ⟨h.os,h.tape,h.output,h.size,fun k hk hy => h.block k hk (fun hx => hy (hXY k hx))⟩
theorem Frm.drew {X : List Nat} {w w' : World} (h : Frm X w w') : Frm X w w'.drew := ⟨h.os,h.tape,h.output,h.size,h.block⟩
theorem Frm.alloc {X : List Nat} {w w' : World} (h : Frm X w w') (o : Obj) : Frm X w (w'.alloc o) :=
 ⟨h.os,h.tape,h.output,by simp;have := h.size;omega,fun k hk hx => (Below.heap_alloc w' o k (Nat.lt_of_lt_of_le hk h.size)).trans (h.block k hk hx)⟩
theorem Frm.setCell {X : List Nat} {w w' : World} (h : Frm X w w') {p : Addr} (hp : p.block ∈ X ∨ w.heap.size ≤ p.block) (v : Value) : Frm X w (w'.setCell p v) :=
 ⟨h.os,h.tape,h.output,by simp;exact h.size,fun k hk hx => (Below.heap_setCell w' p v k (fun e => by subst e;exact hp.elim hx (fun hh => by omega))).trans (h.block k hk hx)⟩
theorem Frm.grown {X : List Nat} {w w1 w2 : World} {row : Option Nat} (h : Frm X w w1) (hg : w1.grownBy w2 row) (hr : ∀ k,row = some k → k ∈ X ∨ w.heap.size ≤ k) : Frm X w w2 :=
 ⟨hg.os.trans h.os,hg.tape.trans h.tape,hg.output.trans h.output,Nat.le_trans h.size hg.size,fun k hk hx => (hg.block k (Nat.lt_of_lt_of_le hk h.size) (fun e => (hr k e.symm).elim hx (fun hh => by omega))).trans (h.block k hk hx)⟩
theorem Frm.below {X : List Nat} {w w' : World} {B : Nat} (h : Frm X w w') (hX : ∀ x ∈ X,B ≤ x) (hB : B ≤ w.heap.size) : Below B w w' := ⟨h.os,h.tape,h.output,h.size,fun k hk => h.block k (by omega) (fun hx => by have := hX k hx;omega)⟩
theorem Frm.cell {X : List Nat} {w w' : World} (h : Frm X w w') {p : Addr} (hp : p.block < w.heap.size) (hx : p.block ∉ X) : w'.cell? p = w.cell? p := World.cell?_of_block (h.block _ hp hx)
theorem Frm.blk {X : List Nat} {w w' : World} (h : Frm X w w') {b : Nat} {cs : Array Value} {e : TypeId} (hb : Blk w b cs e) (hx : b ∉ X) : Blk w' b cs e := (h.block b hb.lt hx).trans hb
theorem Frm.row {X : List Nat} {w w' : World} (h : Frm X w w') {B size n : Nat} {e : TypeId} {v : Value} {xs : List Value} (ho : w.ownsRow B e size v n xs) (hx : ∀ g,v.ownBlock = some g → g ∉ X) : w'.ownsRow B e size v n xs := by
 refine ⟨ho.1,ho.2.imp id ?_⟩
 rintro ⟨g,c,cur,hv,hB,hh,r⟩
 exact ⟨g,c,cur,hv,hB,(h.block g (Array.getElem?_eq_some_iff.1 hh).1 (hx g (by rw [hv];rfl))).trans hh,r⟩
theorem Frm.lies {X : List Nat} {w w' : World} (h : Frm X w w') {A : Option Addr} {xs : List Value} (ho : Lies w A xs) (hx : ∀ a,A = some a → a.block ∉ X) : Lies w' A xs := by
 intro h0
 obtain ⟨g,o,hA,hg,hc⟩ := ho h0
 have hn : g ∉ X := hx _ hA
 exact ⟨g,o,hA,Nat.lt_of_lt_of_le hg h.size,fun j u hu => (h.cell (p := ⟨g,o + j,none⟩) hg hn).trans (hc j u hu)⟩
section
variable {P : Program} {ops : Array Oper} {Q : Exit → Act → World → Prop} {md : Region.Mode} {st : Nat} {C1 C2 : World → Prop}
def HeldS (st : Nat) (C1 C2 : World → Prop) (L : Array Bool) (w : World) : Prop := C1 w ∧ (L.getD st false = false → C2 w)
def wpAnyS (P : Program) (md : Region.Mode) (ops : Array Oper) (Q : Exit → Act → World → Prop) (st : Nat) (C1 C2 : World → Prop) : Nat → Array Bool → Act → World → Prop
 | 0,L,a,w => Region.ready md ops L = [] ∧ Q .normal a w
 | fuel + 1,L,a,w => (Region.ready md ops L = [] → Q .normal a w) ∧
  ∀ i ∈ Region.ready md ops L,wpOp P ops Q i (fun a' w' => HeldS st C1 C2 (L.setIfInBounds i true) w' ∧ wpAnyS P md ops Q st C1 C2 fuel (L.setIfInBounds i true) a' w') a w
theorem wpAny_of_S : ∀ (fuel : Nat) (L : Array Bool) (a : Act) (w : World),wpAnyS P md ops Q st C1 C2 fuel L a w → wpAny P md ops Q fuel L a w
 | 0,_,_,_,h => h
 | fuel + 1,_,_,_,h => ⟨h.1,fun i hi => wpOp_mono (fun a' w' h' => wpAny_of_S fuel _ a' w' h'.2) (h.2 i hi)⟩
theorem heldS_set {i : Nat} (hne : i ≠ st) {L : Array Bool} {w : World} : HeldS st C1 C2 (L.setIfInBounds i true) w ↔ HeldS st C1 C2 L w := by
 unfold HeldS;rw [getD_set_ne false hne]
theorem wpAnyS_first {i : Nat} {oi : Oper} {v : Value} (C : World → Prop) (G : Array Bool → Prop) (hi : ops[i]? = some oi) (hsel : ∀ (j : Nat) (o : Oper) cs b,ops[j]? = some o → o.op ≠ .select cs b)
  (hQ : ∀ c a w,Q (.panic c) (a.put oi.dst v) w → Q (.panic c) a w) (hne : i ≠ st) (hC : ∀ L w,G L → HeldS st C1 C2 L w → C w)
  (hG : ∀ (L : Array Bool) (j : Nat),G L → L.getD i true = false → j ∈ Region.ready md ops L → j ≠ i → G (L.setIfInBounds j true)) :
  ∀ (fuel : Nat) (L : Array Bool) (a : Act) (w : World),G L →
   (∀ j oj,ops[j]? = some oj → j ≠ i → L.getD j true = false → (∀ e ∈ oj.after,Region.binds md e = true → e.on ≠ i) → oi.apart ops oj = true) →
   i ∈ Region.ready md ops L → YieldsIf P ops C oi v a → HeldS st C1 C2 L w →
   wpAnyS P md ops Q st C1 C2 fuel (L.setIfInBounds i true) (a.put oi.dst v) w → wpAnyS P md ops Q st C1 C2 (fuel + 1) L a w := by
 intro fuel
 induction fuel with
 | zero =>
  intro L a w hL _ hr hy hS H
  refine ⟨fun h => (by rw [h] at hr;cases hr),fun j hj => ?_⟩
  by_cases hji : j = i
  ·subst hji
   exact hy.wpOp hi (hC _ _ hL hS) ⟨(heldS_set hne).2 hS,H⟩
  ·have := ready_mono hj hji
   rw [H.1] at this
   cases this
 | succ fuel ih =>
  intro L a w hL hfree hr hy hS H
  refine ⟨fun h => (by rw [h] at hr;cases hr),fun j hj => ?_⟩
  by_cases hji : j = i
  ·subst hji
   exact hy.wpOp hi (hC _ _ hL hS) ⟨(heldS_set hne).2 hS,H⟩
  ·have h1 := H.2 j (ready_mono hj hji)
   have h0 := (mem_ready.1 hr).1
   obtain ⟨hjun,oj,hoj,hall⟩ := mem_ready.1 hj
   have hnot : ∀ e ∈ oj.after,Region.binds md e = true → e.on ≠ i := fun e he hb heq => by
    have k1 := hall e he hb
    rw [heq] at k1
    rcases Nat.lt_or_ge i L.size with h' | h'
    ·simp [h'] at h0 k1;rw [h0] at k1;cases k1
    ·simp [Array.getElem?_eq_none h'] at k1
   have h2 := wpOp_putIf hoj (hfree j oj hoj hji hjun hnot) (fun cs b => hsel i oi cs b hi) (fun cs b => hsel j oj cs b hoj) hQ hy h1
   have hfree' : ∀ k ok,ops[k]? = some ok → k ≠ i → (L.setIfInBounds j true).getD k true = false →
     (∀ e ∈ ok.after,Region.binds md e = true → e.on ≠ i) → oi.apart ops ok = true := fun k ok hk hki hun hno => by
    refine hfree k ok hk hki ?_ hno
    by_cases hjk : j = k
    ·subst hjk;exact hjun
    ·rw [getD_set_ne true hjk] at hun;exact hun
   refine wpOp_mono (fun a' w' h3 => ?_) h2
   obtain ⟨hy3,hS3,h4⟩ := h3
   rw [Array.setIfInBounds_comm _ _ (Ne.symm hji)] at hS3 h4
   have hS3' := (heldS_set hne).1 hS3
   exact ⟨hS3',ih (L.setIfInBounds j true) a' w' (hG L j hL h0 hj hji) hfree' (ready_mono hr (Ne.symm hji)) hy3 hS3' h4⟩
theorem wpAnyS_take {i : Nat} {oi : Oper} {v : Value} {fuel : Nat} {L : Array Bool} {a : Act} {w : World} (hi : ops[i]? = some oi) (hne : i ≠ st)
  (hs : Region.noSelect ops = true) (hf : Region.free md ops L i = true) (hr : (Region.ready md ops L).contains i = true)
  (hQ : ∀ c a w,Q (.panic c) (a.put oi.dst v) w → Q (.panic c) a w) (hy : YieldsIf P ops C1 oi v a) (hS : HeldS st C1 C2 L w)
  (h : wpAnyS P md ops Q st C1 C2 fuel (L.setIfInBounds i true) (a.put oi.dst v) w) : wpAnyS P md ops Q st C1 C2 (fuel + 1) L a w :=
 wpAnyS_first C1 (fun _ => True) hi (Region.noSelect_spec hs) hQ hne (fun _ _ _ h => h.1) (fun _ _ _ _ _ _ => trivial) fuel L a w trivial (Region.free_spec hi hf) (by simpa using hr) hy hS h
theorem wpAnyS_take2 {i : Nat} {oi os : Oper} {v : Value} {fuel : Nat} {L : Array Bool} {a : Act} {w : World} (hi : ops[i]? = some oi) (hne : i ≠ st)
  (hos : ops[st]? = some os) (hw : os.after.any (fun e => Region.binds md e && e.on == i) = true) (hL : L.getD st false = false)
  (hs : Region.noSelect ops = true) (hf : Region.free md ops L i = true) (hr : (Region.ready md ops L).contains i = true)
  (hQ : ∀ c a w,Q (.panic c) (a.put oi.dst v) w → Q (.panic c) a w) (hy : YieldsIf P ops (fun w => C1 w ∧ C2 w) oi v a) (hS : HeldS st C1 C2 L w)
  (h : wpAnyS P md ops Q st C1 C2 fuel (L.setIfInBounds i true) (a.put oi.dst v) w) : wpAnyS P md ops Q st C1 C2 (fuel + 1) L a w := by
 refine wpAnyS_first (fun w => C1 w ∧ C2 w) (fun L => L.getD st false = false) hi (Region.noSelect_spec hs) hQ hne (fun _ _ hg h => ⟨h.1,h.2 hg⟩) ?_ fuel L a w hL (Region.free_spec hi hf) (by simpa using hr) hy hS h
 intro L j hg hun hj _
 have hjs : j ≠ st := by
  rintro rfl
  obtain ⟨_,o,ho,hall⟩ := mem_ready.1 hj
  rw [hos] at ho
  cases ho
  obtain ⟨k,hk,hb⟩ := Array.any_eq_true.1 hw
  simp only [Bool.and_eq_true,beq_iff_eq] at hb
  have k1 := hall _ (Array.getElem_mem hk) hb.1
  rw [hb.2] at k1
  rcases Nat.lt_or_ge i L.size with h' | h'
  ·simp [h'] at hun k1;rw [hun] at k1;cases k1
  ·simp [Array.getElem?_eq_none h'] at k1
 show (L.setIfInBounds j true).getD st false = false
 rw [getD_set_ne false hjs];exact hg
theorem wpAnyS_all {rs : List Nat} {fuel : Nat} {L : Array Bool} {a : Act} {w : World} (hr : Region.ready md ops L = rs) (hne : rs ≠ [])
  (h : ∀ i ∈ rs,wpOp P ops Q i (fun a' w' => HeldS st C1 C2 (L.setIfInBounds i true) w' ∧ wpAnyS P md ops Q st C1 C2 fuel (L.setIfInBounds i true) a' w') a w) : wpAnyS P md ops Q st C1 C2 (fuel + 1) L a w :=
 ⟨fun h0 => absurd (hr ▸ h0) hne,hr ▸ h⟩
theorem wpAnyS_done {L : Array Bool} {a : Act} {w : World} (hr : Region.ready md ops L = []) (h : Q .normal a w) : ∀ fuel,wpAnyS P md ops Q st C1 C2 fuel L a w
 | 0 => ⟨hr,h⟩
 | _ + 1 => ⟨fun _ => h,by rw [hr];simp⟩
theorem wp_region_S (st : Nat) (C1 C2 : World → Prop) {id : Nat} {a : Act} {w : World} (hm : P.follows .mixedOrders = true)
  (h : wpAnyS P .any ops Q st C1 C2 ops.size (Array.replicate ops.size false) a { w with drawn := w.drawn + 1 }) : (Code.region id ops true).wp P Q a w :=
 wp_region_any hm (wpAny_of_S _ _ _ _ h)
end
section
variable {P : Program} {ops : Array Oper} {Q : Exit → Act → World → Prop} {md : Region.Mode} {S : World → Prop} {st : Nat} {C1 C2 : World → Prop}
theorem tkH (i : Nat) (v : Value) {oi : Oper} {fuel : Nat} {listed : Array Bool} {a : Act} {w : World} (hi : ops[i]? = some oi) (hS : S w) (hy : ∀ w, S w → (execOp a.eval oi).run P w = .ok (.value v) w)
    (h : wpAnyH P md ops Q S fuel (listed.setIfInBounds i true) (a.put oi.dst v) w) (hg : Region.wanted oi (yielded ops a.tmps) = true := by kernel_rfl) (hs : Region.noSelect ops = true := by kernel_rfl) (hf : Region.free md ops listed i = true := by kernel_rfl) (hr : (Region.ready md ops listed).contains i = true := by kernel_rfl)
    (hQ : ∀ c a w, Q (.panic c) (a.put oi.dst v) w → Q (.panic c) a w := by exact fun c a w h => h) : wpAnyH P md ops Q S (fuel + 1) listed a w :=
  wpAnyH_take hi hs hf hr hQ (.inl ⟨hg, hy⟩) hS h
theorem tkQ (i : Nat) (v : Value) {oi : Oper} {fuel : Nat} {listed : Array Bool} {a : Act} {w : World} (hi : ops[i]? = some oi) (hS : S w) 
    (h : wpAnyH P md ops Q S fuel (listed.setIfInBounds i true) (a.put oi.dst v) w) (hy : ∀ w, S w → (execOp a.eval oi).run P w = .ok (.value v) w := by (intro _ hS; clear hS; go_simp)) (hg : Region.wanted oi (yielded ops a.tmps) = true := by kernel_rfl) (hs : Region.noSelect ops = true := by kernel_rfl) (hf : Region.free md ops listed i = true := by kernel_rfl) (hr : (Region.ready md ops listed).contains i = true := by kernel_rfl)
    (hQ : ∀ c a w, Q (.panic c) (a.put oi.dst v) w → Q (.panic c) a w := by exact fun c a w h => h) : wpAnyH P md ops Q S (fuel + 1) listed a w :=
  wpAnyH_take hi hs hf hr hQ (.inl ⟨hg, hy⟩) hS h
theorem tkN (i : Nat) {oi : Oper} {fuel : Nat} {listed : Array Bool} {a : Act} {w : World} (hi : ops[i]? = some oi) (hS : S w) (h : wpAnyH P md ops Q S fuel (listed.setIfInBounds i true) (a.put oi.dst undef) w)
    (hg : Region.wanted oi (yielded ops a.tmps) = false := by rfl) (hs : Region.noSelect ops = true := by kernel_rfl) (hf : Region.free md ops listed i = true := by kernel_rfl) (hr : (Region.ready md ops listed).contains i = true := by kernel_rfl)
    (hQ : ∀ c a w, Q (.panic c) (a.put oi.dst undef) w → Q (.panic c) a w := by exact fun c a w h => h) : wpAnyH P md ops Q S (fuel + 1) listed a w :=
  wpAnyH_take hi hs hf hr hQ (.inr ⟨hg, rfl⟩) hS h
theorem alH (r : Nat) {fuel : Nat} {listed : Array Bool} {a : Act} {w : World} (h : wpOp P ops Q r (fun a' w' => S w' ∧ wpAnyH P md ops Q S fuel (listed.setIfInBounds r true) a' w') a w) (hr : Region.ready md ops listed = [r] := by kernel_rfl) : wpAnyH P md ops Q S (fuel + 1) listed a w :=
  wpAnyH_all hr (by simp) (fun i hi => by
    simp only [List.mem_cons, List.not_mem_nil, or_false] at hi
    subst hi
    exact h)
theorem tkS (i : Nat) (v : Value) {oi : Oper} {fuel : Nat} {L : Array Bool} {a : Act} {w : World} (hi : ops[i]? = some oi) (hS : HeldS st C1 C2 L w) (hy : ∀ w, C1 w → (execOp a.eval oi).run P w = .ok (.value v) w)
    (h : wpAnyS P md ops Q st C1 C2 fuel (L.setIfInBounds i true) (a.put oi.dst v) w) (hne : i ≠ st := by decide) (hg : Region.wanted oi (yielded ops a.tmps) = true := by kernel_rfl) (hs : Region.noSelect ops = true := by kernel_rfl) (hf : Region.free md ops L i = true := by kernel_rfl) (hr : (Region.ready md ops L).contains i = true := by kernel_rfl)
    (hQ : ∀ c a w, Q (.panic c) (a.put oi.dst v) w → Q (.panic c) a w := by exact fun c a w h => h) : wpAnyS P md ops Q st C1 C2 (fuel + 1) L a w :=
  wpAnyS_take hi hne hs hf hr hQ (.inl ⟨hg, hy⟩) hS h
theorem alS (r : Nat) {fuel : Nat} {L : Array Bool} {a : Act} {w : World} (h : wpOp P ops Q r (fun a' w' => HeldS st C1 C2 (L.setIfInBounds r true) w' ∧ wpAnyS P md ops Q st C1 C2 fuel (L.setIfInBounds r true) a' w') a w) (hr : Region.ready md ops L = [r] := by kernel_rfl) : wpAnyS P md ops Q st C1 C2 (fuel + 1) L a w :=
  wpAnyS_all hr (by simp) (fun i hi => by
    simp only [List.mem_cons, List.not_mem_nil, or_false] at hi
    subst hi
    exact h)
end
theorem mixedT : Tryz.prog.follows Departure.mixedOrders = true := by kernel_rfl
abbrev Wd32 := BitVec 32
def ix (x : Wd32) : Int := (x.toNat : Int)
theorem ix_lt (x : Wd32) : 0 ≤ ix x ∧ ix x < 4294967296 := by
 have := x.isLt
 unfold ix
 omega
theorem ofInt_ix (x : Wd32) : BitVec.ofInt 32 (ix x) = x := by
 unfold ix
 rw [BitVec.ofInt_natCast]
 exact BitVec.eq_of_toNat_eq (by simp)
theorem wrap_small {n : Nat} (h : n < 4294967296) : IntKind.u32.wrap (n : Int) = (n : Int) := by
 simp [IntKind.wrap,IntKind.bits,IntKind.signed]
 omega
theorem ix_xor (x y : Wd32) : bits .xor .u32 (ix x) (ix y) = ix (x ^^^ y) := by
 unfold bits
 rw [show IntKind.u32.bits = 32 from rfl,ofInt_ix,ofInt_ix]
 exact wrap_small (x ^^^ y).isLt
theorem ix_and (x y : Wd32) : bits .and .u32 (ix x) (ix y) = ix (x &&& y) := by
 unfold bits
 rw [show IntKind.u32.bits = 32 from rfl,ofInt_ix,ofInt_ix]
 exact wrap_small (x &&& y).isLt
theorem ix_or (x y : Wd32) : bits .or .u32 (ix x) (ix y) = ix (x ||| y) := by
 unfold bits
 rw [show IntKind.u32.bits = 32 from rfl,ofInt_ix,ofInt_ix]
 exact wrap_small (x ||| y).isLt
theorem ix_add (x y : Wd32) : IntKind.u32.wrap (ix x + ix y) = ix (x + y) := by
 unfold ix
 rw [BitVec.toNat_add]
 simp [IntKind.wrap,IntKind.bits,IntKind.signed]
theorem ix_shr (x : Wd32) (n : Nat) : ix x / 2 ^ n = ix (x >>> n) := by
 unfold ix
 rw [BitVec.toNat_ushiftRight,Nat.shiftRight_eq_div_pow]
 simp
theorem ix_shl (x : Wd32) (n : Nat) : IntKind.u32.wrap (ix x * 2 ^ n) = ix (x <<< n) := by
 unfold ix
 rw [BitVec.toNat_shiftLeft,Nat.shiftLeft_eq]
 simp [IntKind.wrap,IntKind.bits,IntKind.signed]
theorem ix_not (x : Wd32) : bits .xor .u32 (ix x) 4294967295 = ix (~~~x) := by
 have h : (4294967295 : Int) = ix (BitVec.allOnes 32) := by decide
 rw [h,ix_xor]
 congr 1
 exact BitVec.xor_allOnes
theorem ix_byte (c : UInt8) : (c.toNat : Int) = ix (BitVec.ofNat 32 c.toNat) := by
 have := UInt8.toNat_lt c
 unfold ix
 rw [BitVec.toNat_ofNat,Nat.mod_eq_of_lt (by omega)]
def rot (x : Wd32) (n : Nat) : Wd32 := (x >>> n) ||| (x <<< (32 - n))
def byteW (c : UInt8) : Wd32 := BitVec.ofNat 32 c.toNat
def wordOf (a b c d : UInt8) : Wd32 := ((((((0#32 <<< 8) ||| byteW a) <<< 8) ||| byteW b) <<< 8) ||| byteW c) <<< 8 ||| byteW d
def wordAt (s : List UInt8) (i : Nat) : Wd32 := wordOf (s.getD (4 * i) 0) (s.getD (4 * i + 1) 0) (s.getD (4 * i + 2) 0) (s.getD (4 * i + 3) 0)
def at_ (l : List Wd32) (i : Nat) : Wd32 := l.getD i 0#32
def moreW (l : List Wd32) (i : Nat) : Wd32 :=
 at_ l (i - 16) + at_ l (i - 7) + (rot (at_ l (i - 15)) 7 ^^^ rot (at_ l (i - 15)) 18 ^^^ (at_ l (i - 15)) >>> 3) + (rot (at_ l (i - 2)) 17 ^^^ rot (at_ l (i - 2)) 19 ^^^ (at_ l (i - 2)) >>> 10)
def wordsW (s : List UInt8) : Nat → List Wd32
 | 0 => (List.range 16).map (wordAt s)
 | n + 1 => wordsW s n ++ [moreW (wordsW s n) (n + 16)]
theorem wordsW_length (s : List UInt8) (n : Nat) : (wordsW s n).length = n + 16 := by
 induction n with
 | zero => simp [wordsW]
 | succ n ih => rw [wordsW,List.length_append,ih,List.length_singleton]
def stepW (x : List Wd32) (k w : Wd32) : List Wd32 :=
 let t := at_ x 7 + (rot (at_ x 4) 6 ^^^ rot (at_ x 4) 11 ^^^ rot (at_ x 4) 25) + ((at_ x 4 &&& at_ x 5) ^^^ (~~~(at_ x 4) &&& at_ x 6)) + k + w
 let u := (rot (at_ x 0) 2 ^^^ rot (at_ x 0) 13 ^^^ rot (at_ x 0) 22) + ((at_ x 0 &&& at_ x 1) ^^^ (at_ x 0 &&& at_ x 2) ^^^ (at_ x 1 &&& at_ x 2))
 [t + u,at_ x 0,at_ x 1,at_ x 2,at_ x 3 + t,at_ x 4,at_ x 5,at_ x 6]
def rootsW : List Wd32 := [0x428a2f98,0x71374491,0xb5c0fbcf,0xe9b5dba5,0x3956c25b,0x59f111f1,0x923f82a4,0xab1c5ed5,
 0xd807aa98,0x12835b01,0x243185be,0x550c7dc3,0x72be5d74,0x80deb1fe,0x9bdc06a7,0xc19bf174,
 0xe49b69c1,0xefbe4786,0x0fc19dc6,0x240ca1cc,0x2de92c6f,0x4a7484aa,0x5cb0a9dc,0x76f988da,
 0x983e5152,0xa831c66d,0xb00327c8,0xbf597fc7,0xc6e00bf3,0xd5a79147,0x06ca6351,0x14292967,
 0x27b70a85,0x2e1b2138,0x4d2c6dfc,0x53380d13,0x650a7354,0x766a0abb,0x81c2c92e,0x92722c85,
 0xa2bfe8a1,0xa81a664b,0xc24b8b70,0xc76c51a3,0xd192e819,0xd6990624,0xf40e3585,0x106aa070,
 0x19a4c116,0x1e376c08,0x2748774c,0x34b0bcb5,0x391c0cb3,0x4ed8aa4a,0x5b9cca4f,0x682e6ff3,
 0x748f82ee,0x78a5636f,0x84c87814,0x8cc70208,0x90befffa,0xa4506ceb,0xbef9a3f7,0xc67178f2]
def firstW : List Wd32 := [0x6a09e667,0xbb67ae85,0x3c6ef372,0xa54ff53a,0x510e527f,0x9b05688c,0x1f83d9ab,0x5be0cd19]
def roundsW (v ws : List Wd32) : Nat → List Wd32
 | 0 => v
 | n + 1 => stepW (roundsW v ws n) (at_ rootsW n) (at_ ws n)
def blockW (v : List Wd32) (s : List UInt8) : List Wd32 := (List.range 8).map fun i => at_ v i + at_ (roundsW v (wordsW s 48) 64) i
def hashW (v : List Wd32) (s : List UInt8) : Nat → List Wd32
 | 0 => v
 | n + 1 => blockW (hashW v s n) ((s.drop (64 * n)).take 64)
def bytesW (x : Wd32) : List UInt8 := [UInt8.ofNat (x.toNat / 16777216),UInt8.ofNat (x.toNat / 65536),UInt8.ofNat (x.toNat / 256),UInt8.ofNat x.toNat]
def tailW (n : Nat) : List UInt8 := 128 :: (List.replicate ((119 - n % 64) % 64) 0 ++ (List.range 8).map fun i => UInt8.ofNat (n * 8 / 256 ^ (7 - i)))
def shaS (s : List UInt8) : List UInt8 := (hashW firstW (s ++ tailW s.length) ((s.length + (tailW s.length).length) / 64)).flatMap bytesW
theorem hashW_length (v : List Wd32) (s : List UInt8) (h : v.length = 8) (n : Nat) : (hashW v s n).length = 8 := by
 cases n with
 | zero => exact h
 | succ n => simp [hashW,blockW]
theorem shaS_length (s : List UInt8) : (shaS s).length = 32 := by
 have h := hashW_length firstW (s ++ tailW s.length) rfl ((s.length + (tailW s.length).length) / 64)
 unfold shaS
 generalize hashW firstW (s ++ tailW s.length) ((s.length + (tailW s.length).length) / 64) = l at h
 have : ∀ l : List Wd32,(l.flatMap bytesW).length = l.length * 4 := by
  intro l
  induction l with
  | nil => rfl
  | cons x l ih => rw [List.flatMap_cons,List.length_append,ih,List.length_cons];simp [bytesW];omega
 rw [this,h]
open Go.RowKit
theorem ret_u32 {a b : Int} (h : a = b) : Ending.returned (.int .u32 a) = .returned (.int .u32 b) := by rw [h]
theorem ix_shl' (x : Wd32) (n : Nat) : ix x * 2 ^ n % 4294967296 = ix (x <<< n) := by
 rw [← ix_shl]
 simp [IntKind.wrap,IntKind.bits,IntKind.signed]
theorem ix_sum (x y : Wd32) : ix (x + y) = (ix x + ix y) % 4294967296 := by
 rw [← ix_add]
 simp [IntKind.wrap,IntKind.bits,IntKind.signed]
theorem ix_div8 (x : Wd32) : ix x / (8 : Int) = ix (x >>> 3) := by rw [← ix_shr];rfl
theorem ix_div1024 (x : Wd32) : ix x / (1024 : Int) = ix (x >>> 10) := by rw [← ix_shr];rfl
set_option maxRecDepth 100000 in
theorem rotl_any (x : Wd32) (n : Nat) (h1 : 1 ≤ n) (h2 : n ≤ 31) (w : World) : Calls Tryz.prog 159 #[.int .u32 (ix x), .int .i64 (-(n : Int))] w fun e w' => e = .returned (.int .u32 (ix (rot x n))) ∧ w = w' := by
 have hA : bits .and .u64 (IntKind.u64.wrap (-(n : Int))) 31 = 32 - (n : Int) :=
  (by decide +kernel : ∀ y : Fin 32,1 ≤ y.val → bits .and .u64 (IntKind.u64.wrap (-(y.val : Int))) 31 = 32 - (y.val : Int)) ⟨n,by omega⟩ h1
 go_enter Tryz.func159,Tryz.ntmps159
 go_wp2
 go_ret
 exact ⟨ret_u32 (by rw [ix_shl',show 32 - (32 - n) = n by omega,ix_shr,ix_or,BitVec.or_comm];rfl),rfl⟩
theorem right_any (x : Wd32) (n : Nat) (h1 : 1 ≤ n) (h2 : n ≤ 31) (w : World) : Calls Tryz.prog 140 #[.int .u32 (ix x), .int .i64 (n : Int)] w fun e w' => e = .returned (.int .u32 (ix (rot x n))) ∧ w' = w := by
 have n0 : (0 : Int) ≤ n := by omega
 have n1 : (n : Int) ≤ 31 := by omega
 go_enter Tryz.func140,Tryz.ntmps140
 go_wp2_with (go_at_call 159;refine (rotl_any _ _ h1 h2 _).mono ?_;rintro e w' ⟨rfl,rfl⟩)
 go_ret
 exact ⟨rfl,rfl⟩
theorem right_int (x : Wd32) (m : Int) (h1 : 1 ≤ m) (h2 : m ≤ 31) (w : World) : Calls Tryz.prog 140 #[.int .u32 (ix x), .int .i64 m] w fun e w' => e = .returned (.int .u32 (ix (rot x m.toNat))) ∧ w' = w := by
 obtain ⟨n,rfl⟩ : ∃ n : Nat,m = (n : Int) := ⟨m.toNat,by omega⟩
 rw [Int.toNat_natCast]
 exact right_any x n (by omega) (by omega) w
open Go.RowKit
def wcells (l : List Wd32) : Array Value := (l.map fun x => .int .u32 (ix x)).toArray
theorem wcells_at (l : List Wd32) (i : Nat) (h : i < l.length) : (wcells l)[i]? = some (.int .u32 (ix (at_ l i))) := by
 simp [wcells,at_,h]
theorem wcells_set (l : List Wd32) (i : Nat) (x : Wd32) : (wcells l).setIfInBounds i (.int .u32 (ix x)) = wcells (l.set i x) := by
 simp [wcells,List.map_set]
def wk (s : List UInt8) (i : Nat) : Nat → Wd32
 | 0 => 0#32
 | k + 1 => (wk s i k <<< 8) ||| byteW (s.getD (4 * i + k) 0)
def wbase (s : List UInt8) (i : Nat) : List Wd32 := (List.range i).map (wordAt s) ++ List.replicate (64 - i) 0#32
def wcur (s : List UInt8) (i k : Nat) : List Wd32 := (List.range i).map (wordAt s) ++ wk s i k :: List.replicate (63 - i) 0#32
def wnxt (s : List UInt8) (n : Nat) : List Wd32 := wordsW s n ++ List.replicate (48 - n) 0#32
theorem wk_four (s : List UInt8) (i : Nat) : wk s i 4 = wordAt s i := rfl
theorem wcur_zero (s : List UInt8) (i : Nat) (h : i < 16) : wcur s i 0 = wbase s i := by
 unfold wcur wbase
 rw [show 64 - i = (63 - i) + 1 by omega,List.replicate_succ];rfl
theorem wcur_four (s : List UInt8) (i : Nat) : wcur s i 4 = wbase s (i + 1) := by
 unfold wcur wbase
 rw [wk_four,List.range_succ,List.map_append,List.append_assoc,show 64 - (i + 1) = 63 - i by omega];rfl
theorem wbase_end (s : List UInt8) : wbase s 16 = wnxt s 0 := rfl
theorem wcur_at (s : List UInt8) (i k : Nat) : i < (wcur s i k).length ∧ at_ (wcur s i k) i = wk s i k := by
 unfold wcur at_
 refine ⟨by simp, ?_⟩
 rw [List.getD_eq_getElem?_getD,List.getElem?_append_right (by simp)]
 simp
theorem wcur_set (s : List UInt8) (i k : Nat) : (wcur s i k).set i (wk s i (k + 1)) = wcur s i (k + 1) := by
 unfold wcur
 rw [List.set_append_right _ _ (by simp)]
 simp
theorem wnxt_at (s : List UInt8) (n j : Nat) (h : j < n + 16) : j < (wnxt s n).length ∧ at_ (wnxt s n) j = at_ (wordsW s n) j := by
 have hl := wordsW_length s n
 unfold wnxt at_
 refine ⟨by simp;omega, ?_⟩
 rw [List.getD_eq_getElem?_getD,List.getElem?_append_left (by omega),List.getD_eq_getElem?_getD]
theorem wnxt_set (s : List UInt8) (n : Nat) (h : n < 48) : (wnxt s n).set (n + 16) (moreW (wordsW s n) (n + 16)) = wnxt s (n + 1) := by
 have hl := wordsW_length s n
 unfold wnxt
 rw [List.set_append_right _ _ (by omega),hl,Nat.sub_self,show 48 - n = (47 - n) + 1 by omega,List.replicate_succ,List.set_cons_zero,wordsW,List.append_assoc,show 48 - (n + 1) = 47 - n by omega]
 rfl
theorem wnxt_end (s : List UInt8) : wnxt s 48 = wordsW s 48 := by unfold wnxt;simp
def wzero : Obj := .cells (wcells (List.replicate 64 0#32)) 215
theorem below_drewN {B : Nat} {w0 w : World} (h : Below B w0 w) (n : Nat) : Below B w0 (w.drewN n) := ⟨h.os,h.tape,h.output,h.size,h.block⟩
theorem info215n : (Tryz.prog.info? 215).map (·.size) = some 64 := by kernel_rfl
theorem wcells_size (l : List Wd32) : (wcells l).size = l.length := by simp [wcells]
theorem wcells_one (l : List Wd32) : (wcells l).all (·.oneCell') = true := by
 rw [Array.all_eq_true_iff_forall_mem]
 intro v hv
 simp only [wcells,List.mem_toArray,List.mem_map] at hv
 obtain ⟨x,_,rfl⟩ := hv
 rfl
theorem info215 (l : List Wd32) (h : l.length = 64) : (Tryz.prog.info? 215).map (·.size) = some (wcells l).size := by rw [info215n,wcells_size,h]
theorem Blk.other {w : World} {b X : Nat} {cs : Array Value} {e : TypeId} (h : Blk w b cs e) (hne : b ≠ X) (i : Nat) (v : Value) : Blk (w.setCell ⟨X,i,none⟩ v) b cs e := (Below.heap_setCell w ⟨X,i,none⟩ v b hne).trans h
set_option maxRecDepth 100000 in
set_option maxHeartbeats 4000000 in
theorem words_any (s : List UInt8) (w : World) (hs : s.length = 64) : Calls Tryz.prog 139 #[.string (mk s)] w fun e w' => e = .returned (.agg (wcells (wordsW s 48))) ∧ Below w.heap.size w w' := by
 have zs : (mk s).size = 64 := by rw [mk_size,hs]
 obtain ⟨X,hX⟩ : ∃ X,mk s = X := ⟨_,rfl⟩
 rw [hX] at zs ⊢
 have HX := Lib.hid hX
 have HS := Lib.hid hs
 clear hX hs
 obtain ⟨B,hB⟩ : ∃ B,w.heap.size = B := ⟨_,rfl⟩
 have HB := Lib.hid hB
 have h1 : Below w.heap.size w ((w.alloc wzero).alloc wzero) := ((Below.refl _ _).alloc (Nat.le_refl _) _).alloc (by simp) _
 have h2 : Blk ((w.alloc wzero).alloc wzero) B (wcells (List.replicate 64 0#32)) 215 := by
  rw [← hB];exact (Blk.new w _ _).alloc _
 have h3 : Blk ((w.alloc wzero).alloc wzero) (B + 1) (wcells (wbase s 0)) 215 := by
  have := Blk.new (w.alloc wzero) (wcells (List.replicate 64 0#32)) 215
  rw [show Obj.cells (wcells (List.replicate 64 0#32)) 215 = wzero from rfl] at this
  rw [show (w.alloc wzero).heap.size = B + 1 by rw [← hB];simp] at this
  exact this
 rw [hB] at h1 ⊢
 have H1 := Lib.hid h1
 have H2 := Lib.hid h2
 have H3 := Lib.hid h3
 clear h1 h2 h3
 go_enter Tryz.func139,Tryz.ntmps139
 go_wp2
 clear hB
 go_loopw [9] (fun iv wr => ∃ i : Nat,i ≤ 16 ∧ iv = .int .i64 (i : Int) ∧ Below B w wr ∧ Blk wr B (wcells (List.replicate 64 0#32)) 215 ∧ Blk wr (B + 1) (wcells (wbase s i)) 215) (fun iv _ => 16 - (intOf iv).toNat)
 case atStart => exact ⟨0,by omega,rfl,H1.out,H2.out,H3.out⟩
 case round =>
  obtain ⟨i,hi,rfl,hbl,hz,hw⟩ := hrel
  by_cases hlt : i < 16
  ·have h16 : (i : Int) < 16 := by omega
   have h0 : (0 : Int) ≤ (i : Int) := by omega
   rw [← wcur_zero s i hlt] at hw
   go_wp2
   go_loopw [12] (fun kv wr => ∃ k : Nat,k ≤ 4 ∧ kv = .int .i64 (k : Int) ∧ Below B w wr ∧ Blk wr B (wcells (List.replicate 64 0#32)) 215 ∧ Blk wr (B + 1) (wcells (wcur s i k)) 215) (fun kv _ => 4 - (intOf kv).toNat)
   case atStart => exact ⟨0,by omega,rfl,hbl,hz,hw⟩
   case round =>
    clear hbl hz hw
    obtain ⟨k,hk,rfl,hbl,hz,hw⟩ := hrel
    by_cases hkt : k < 4
    ·have k4 : (k : Int) < 4 := by omega
     have k0 : (0 : Int) ≤ (k : Int) := by omega
     have hc := hw.cell i
     have hf := hw.frozen i
     rw [wcells_at _ _ (wcur_at s i k).1,(wcur_at s i k).2] at hc
     have HW := Lib.hid hw
     obtain ⟨p,hp⟩ : ∃ p,4 * i + k = p := ⟨_,rfl⟩
     have hpl : p < 64 := by omega
     have hpi : 4 * (i : Int) + (k : Int) = (p : Int) := by omega
     obtain ⟨c,hcc⟩ : ∃ c,s.getD p 0 = c := ⟨_,rfl⟩
     have hx : X[p]'(by omega) = c := by
      have h1 : X.data.toList = s := by rw [← HX.out,mk_data]
      have : X.data.toList[p]'(by rw [h1,HS.out];exact hpl) = s[p]'(by rw [HS.out];exact hpl) := by simp [h1]
      rw [← hcc,List.getD_eq_getElem?_getD,List.getElem?_eq_getElem (by rw [HS.out];exact hpl),Option.getD_some]
      exact this
     have HV := Lib.hid (show bits .or .u32 (ix (wk s i k) * 256 % 4294967296) ((c.toNat : Int) % 4294967296) = ix (wk s i (k + 1)) by
      have h8 := ix_shl' (wk s i k) 8
      have hcn := UInt8.toNat_lt c
      rw [wk,hp,hcc,show (c.toNat : Int) % 4294967296 = (c.toNat : Int) by omega,ix_byte, ← ix_or, ← h8];rfl)
     clear hw hp hcc
     go_wp2
     go_region
     go_wp2
     go_roundw
     case rel =>
      refine ⟨k + 1,by omega,by go_num,(hbl.setCell (p := ⟨B + 1,i,none⟩) (Nat.le_succ B) _).drew,(Blk.other hz (by omega) i _).drew, ?_⟩
      rw [HV.out, ← wcur_set, ← wcells_set]
      exact (HW.out.set i _).drew
     case measure => simp [intOf];omega
    ·obtain rfl : k = 4 := by omega
     rw [wcur_four] at hw
     go_wp2
     go_roundw
     case rel => exact ⟨i + 1,by omega,by go_num,hbl,hz,hw⟩
     case measure => simp [intOf];omega
  ·have hi16 : i = 16 := by omega
   have e16 : (i : Int) = 16 := by omega
   rw [hi16,wbase_end] at hw
   clear hi16 hlt hi
   rw [e16]
   clear e16
   go_wp2
   go_loopw [6] (fun jv wr => ∃ n : Nat,n ≤ 48 ∧ jv = .int .i64 ((n : Int) + 16) ∧ Below B w wr ∧ Blk wr B (wcells (List.replicate 64 0#32)) 215 ∧ Blk wr (B + 1) (wcells (wnxt s n)) 215) (fun jv _ => 64 - (intOf jv).toNat)
   case atStart => exact ⟨0,by omega,rfl,hbl,hz,hw⟩
   case round =>
    clear hbl hz hw
    obtain ⟨n,hn,rfl,hbl,hz,hw⟩ := hrel
    by_cases hnt : n < 48
    ·have n48 : (n : Int) < 48 := by omega
     have n0 : (0 : Int) ≤ (n : Int) := by omega
     have a1 := wnxt_at s n n (by omega)
     have a2 := wnxt_at s n (n + 1) (by omega)
     have a3 := wnxt_at s n (n + 9) (by omega)
     have a4 := wnxt_at s n (n + 14) (by omega)
     have c1 := (hw.cell n).trans (wcells_at _ _ a1.1)
     have c2 := (hw.cell (n + 1)).trans (wcells_at _ _ a2.1)
     have c3 := (hw.cell (n + 9)).trans (wcells_at _ _ a3.1)
     have c4 := (hw.cell (n + 14)).trans (wcells_at _ _ a4.1)
     rw [a1.2] at c1
     rw [a2.2] at c2
     rw [a3.2] at c3
     rw [a4.2] at c4
     obtain ⟨v1,h1⟩ : ∃ v,at_ (wordsW s n) n = v := ⟨_,rfl⟩
     obtain ⟨v2,h2⟩ : ∃ v,at_ (wordsW s n) (n + 1) = v := ⟨_,rfl⟩
     obtain ⟨v3,h3⟩ : ∃ v,at_ (wordsW s n) (n + 9) = v := ⟨_,rfl⟩
     obtain ⟨v4,h4⟩ : ∃ v,at_ (wordsW s n) (n + 14) = v := ⟨_,rfl⟩
     have HV := Lib.hid (show (ix v1 + ix v3 + bits .xor .u32 (bits .xor .u32 (ix (rot v2 7)) (ix (rot v2 18))) (ix v2 / 8) + bits .xor .u32 (bits .xor .u32 (ix (rot v4 17)) (ix (rot v4 19))) (ix v4 / 1024)) % 4294967296 = ix (moreW (wordsW s n) (n + 16)) by
      unfold moreW
      rw [show n + 16 - 16 = n by omega,show n + 16 - 7 = n + 9 by omega,show n + 16 - 15 = n + 1 by omega,show n + 16 - 2 = n + 14 by omega,h1,h2,h3,h4,ix_div8,ix_div1024,ix_xor,ix_xor,ix_xor,ix_xor,ix_sum,ix_sum,ix_sum]
      omega)
     rw [h1] at c1
     rw [h2] at c2
     rw [h3] at c3
     rw [h4] at c4
     have hf := hw.frozen (n + 16)
     have c5 := (hw.cell (n + 16)).trans (wcells_at _ _ (by have := wordsW_length s n;unfold wnxt;simp;omega))
     have HW := Lib.hid hw
     clear a1 a2 a3 a4 h1 h2 h3 h4 hw
     go_wp2
     have i1 : (n : Int) < 64 := by omega
     have i2 : (n : Int) + 9 < 64 := by omega
     have i3 : (0 : Int) ≤ (n : Int) + 9 := by omega
     have t9 : ((n : Int) + 9).toNat = n + 9 := by omega
     have t16 : ((n : Int) + 16).toNat = n + 16 := by omega
     have w0 : IntKind.i64.wrap (n : Int) = n := Go.IntWalk.i64_in _ (by omega)
     have w9 : IntKind.i64.wrap ((n : Int) + 9) = (n : Int) + 9 := Go.IntWalk.i64_in _ (by omega)
     have w97 : IntKind.i64.wrap ((n : Int) + 16 - 7) = (n : Int) + 9 := by rw [show (n : Int) + 16 - 7 = n + 9 by omega,w9]
     go_quiet (fail)
     go_wp2
     obtain ⟨W2,hW2⟩ : ∃ W2,wr.drewN nq = W2 := ⟨_,rfl⟩
     rw [hW2]
     have d1 : W2.cell? ⟨B + 1,n,none⟩ = some (.int .u32 (ix v1)) := by rw [← hW2];exact c1
     have d2 : W2.cell? ⟨B + 1,n + 1,none⟩ = some (.int .u32 (ix v2)) := by rw [← hW2];exact c2
     have d3 : W2.cell? ⟨B + 1,n + 9,none⟩ = some (.int .u32 (ix v3)) := by rw [← hW2];exact c3
     have d5 : W2.cell? ⟨B + 1,n + 16,none⟩ = some (.int .u32 (ix (at_ (wnxt s n) (n + 16)))) := by rw [← hW2];exact c5
     have df : W2.frozen? ⟨B + 1,n + 16,none⟩ = false := by rw [← hW2];exact hf
     have hbl2 := Lib.hid (show Below B w W2 by rw [← hW2];exact below_drewN hbl nq)
     have hz2 := Lib.hid (show Blk W2 B (wcells (List.replicate 64 0#32)) 215 by rw [← hW2];exact hz)
     have HW2 := Lib.hid (show Blk W2 (B + 1) (wcells (wnxt s n)) 215 by rw [← hW2];exact HW.out)
     clear hW2 c1 c2 c3 c4 c5 hf HW hbl hz
     refine wp_region_still_tail 28 (by kernel_rfl) (by kernel_rfl) ?_
     simp only [List.take_succ_cons,List.take_zero,List.drop_succ_cons,List.drop_zero]
     repeat (first | still_call (right_int _ _ (by decide) (by decide) _) | still_step)
     refine wpStill_nil ?_
     change wpList _ _ _ _ _ W2.drew
     go_wp2
     go_roundw
     case rel =>
      refine ⟨n + 1,by omega,by go_num,Below.setCell hbl2.out.drew (p := ⟨B + 1,n + 16,none⟩) (Nat.le_succ B) _,Blk.other hz2.out.drew (by omega) (n + 16) _, ?_⟩
      rw [HV.out, ← wnxt_set s n hnt, ← wcells_set]
      exact HW2.out.drew.set (n + 16) _
     case measure => simp [intOf];omega
    ·obtain rfl : n = 48 := by omega
     rw [wnxt_end] at hw
     have hi := info215 (wordsW s 48) (wordsW_length s 48)
     have hone := wcells_one (wordsW s 48)
     have hsz : (wcells (List.replicate 64 0#32)).size = (wcells (wordsW s 48)).size := by rw [wcells_size,wcells_size,wordsW_length];rfl
     have HI := Lib.hid hi
     have HO := Lib.hid hone
     have HZ := Lib.hid hsz
     clear hi hone hsz
     go_wp2_with (first | (refine wpList_load_row rfl 215 (.tmp 3) rfl (B + 1) rfl 215 _ (0,0) _ hw Tryz.underlying215 rfl HI.out ?_) | (refine wpList_store_row rfl 215 (.tmp 2) (.tmp 72) rfl B _ rfl rfl 215 _ hz HI.out HZ.out HO.out ?_))
     exact bodyPost_ret (results_cell_row (fn := Tryz.f139) rfl _ _ B 215 _ (0,0) _ rfl (setRow_heap _ _ _ _ _ _ hz) Tryz.underlying215 rfl HI.out) rfl ⟨rfl,below_setRow hbl (Nat.le_refl _) _⟩
open Go.RowKit
def RT (w : World) : Prop := ∀ k,k < 64 → w.cell? ⟨0,k,none⟩ = some (.int .u32 (ix (at_ rootsW k)))
theorem RT.below {w w' : World} {B : Nat} (h : RT w) (hB : 0 < B) (hb : Below B w w') : RT w' := fun k hk => (hb.cell (p := ⟨0,k,none⟩) hB).trans (h k hk)
theorem info139n : (Tryz.prog.info? 139).map (·.size) = some 8 := by kernel_rfl
theorem info139 (l : List Wd32) (h : l.length = 8) : (Tryz.prog.info? 139).map (·.size) = some (wcells l).size := by rw [info139n,wcells_size,h]
theorem list8 (l : List Wd32) (h : l.length = 8) : ∃ a b c d e f g i,l = [a,b,c,d,e,f,g,i] := by
 match l,h with
 | [a,b,c,d,e,f,g,i],_ => exact ⟨a,b,c,d,e,f,g,i,rfl⟩
theorem eight {w : World} {B : Nat} {t : TypeId} {a b c d e f g i : Wd32} (h : Blk w B (wcells [a,b,c,d,e,f,g,i]) t) :
  w.cell? ⟨B,0,none⟩ = some (.int .u32 (ix a)) ∧ w.cell? ⟨B,1,none⟩ = some (.int .u32 (ix b)) ∧ w.cell? ⟨B,2,none⟩ = some (.int .u32 (ix c)) ∧ w.cell? ⟨B,3,none⟩ = some (.int .u32 (ix d)) ∧ w.cell? ⟨B,4,none⟩ = some (.int .u32 (ix e)) ∧ w.cell? ⟨B,5,none⟩ = some (.int .u32 (ix f)) ∧ w.cell? ⟨B,6,none⟩ = some (.int .u32 (ix g)) ∧ w.cell? ⟨B,7,none⟩ = some (.int .u32 (ix i)) :=
 ⟨h.cell 0,h.cell 1,h.cell 2,h.cell 3,h.cell 4,h.cell 5,h.cell 6,h.cell 7⟩
def tW (x7 x4 x5 x6 k w : Wd32) : Wd32 := x7 + (rot x4 6 ^^^ rot x4 11 ^^^ rot x4 25) + ((x4 &&& x5) ^^^ (~~~x4 &&& x6)) + k + w
def uW (x0 x1 x2 : Wd32) : Wd32 := (rot x0 2 ^^^ rot x0 13 ^^^ rot x0 22) + ((x0 &&& x1) ^^^ (x0 &&& x2) ^^^ (x1 &&& x2))
theorem stepW_eight (a b c d e f g i k w : Wd32) : stepW [a,b,c,d,e,f,g,i] k w = [tW i e f g k w + uW a b c,a,b,c,d + tW i e f g k w,e,f,g] := rfl
theorem ix_not' (x : Wd32) : bits .xor .u32 (if IntKind.u32.signed = true then -1 else IntKind.u32.max) (ix x) = ix (~~~x) := by
 rw [← ix_not,show (if IntKind.u32.signed = true then -1 else IntKind.u32.max) = ix (BitVec.allOnes 32) by decide,show (4294967295 : Int) = ix (BitVec.allOnes 32) by decide,ix_xor,ix_xor,BitVec.xor_comm]
theorem tW_ix (x7 x4 x5 x6 k w : Wd32) : ((ix x7 + bits .xor .u32 (bits .xor .u32 (ix (rot x4 6)) (ix (rot x4 11))) (ix (rot x4 25)) + bits .xor .u32 (bits .and .u32 (ix x4) (ix x5)) (bits .and .u32 (bits .xor .u32 (if IntKind.u32.signed = true then -1 else IntKind.u32.max) (ix x4)) (ix x6)) + ix k) % 4294967296 + ix w) % 4294967296 = ix (tW x7 x4 x5 x6 k w) := by
 unfold tW
 rw [ix_not',ix_xor,ix_xor,ix_and,ix_and,ix_xor,ix_sum,ix_sum,ix_sum,ix_sum]
 omega
theorem uW_ix (x0 x1 x2 : Wd32) : (bits .xor .u32 (bits .xor .u32 (ix (rot x0 2)) (ix (rot x0 13))) (ix (rot x0 22)) + bits .xor .u32 (bits .xor .u32 (bits .and .u32 (ix x0) (ix x1)) (bits .and .u32 (ix x0) (ix x2))) (bits .and .u32 (ix x1) (ix x2))) % 4294967296 = ix (uW x0 x1 x2) := by
 unfold uW
 rw [ix_xor,ix_xor,ix_and,ix_and,ix_and,ix_xor,ix_xor,ix_sum]
theorem all8 (a b c d e f g i : Int) : (#[.int .u32 a, .int .u32 b, .int .u32 c, .int .u32 d, .int .u32 e, .int .u32 f, .int .u32 g, .int .u32 i] : Array Value).all (·.oneCell') = true := by
 rw [Array.all_eq_true_iff_forall_mem]
 intro v hv
 simp only [List.mem_toArray,List.mem_cons,List.not_mem_nil,or_false] at hv
 rcases hv with rfl | rfl | rfl | rfl | rfl | rfl | rfl | rfl <;> rfl
theorem wc8 (T U a b c d e f g S : Wd32) : wcells [T + U,a,b,c,d + S,e,f,g] = #[.int .u32 ((ix T + ix U) % 4294967296), .int .u32 (ix a), .int .u32 (ix b), .int .u32 (ix c), .int .u32 ((ix d + ix S) % 4294967296), .int .u32 (ix e), .int .u32 (ix f), .int .u32 (ix g)] := by
 unfold wcells
 simp [ix_sum]
def vkW (v x : List Wd32) (k : Nat) : List Wd32 := (List.range k).map (fun i => at_ v i + at_ x i) ++ v.drop k
theorem vkW_at (v x : List Wd32) (k : Nat) (hv : v.length = 8) (hk : k < 8) : k < (vkW v x k).length ∧ at_ (vkW v x k) k = at_ v k := by
 unfold vkW at_
 refine ⟨by simp;omega, ?_⟩
 rw [List.getD_eq_getElem?_getD,List.getElem?_append_right (by simp),List.getD_eq_getElem?_getD]
 simp
theorem vkW_set (v x : List Wd32) (k : Nat) (hv : v.length = 8) (hk : k < 8) : (vkW v x k).set k (at_ v k + at_ x k) = vkW v x (k + 1) := by
 unfold vkW
 rw [List.set_append_right _ _ (by simp),List.range_succ,List.map_append,List.append_assoc]
 congr 1
 rw [List.length_map,List.length_range,Nat.sub_self,List.drop_eq_getElem_cons (by omega : k < v.length),List.set_cons_zero]
 rfl
theorem run_index215 (A : Array Value) (i : Nat) (z : Int) (w : World) (hi : i < 64) (hk : A[i]? = some (.int .u32 z)) : Sem.run Tryz.prog (Instr.index 215 (.agg A) (.int .i64 (i : Int))) w = .ok (.int .u32 z) w := by
 unfold Instr.index
 simp [go_sem,Sem.run_bind,run_underlying Tryz.underlying215,Tryz.sizeOf137]
 rw [if_pos hi,hk]
 rfl
set_option maxRecDepth 100000 in
set_option maxHeartbeats 800000 in
theorem nextW_any (v : List Wd32) (s : Bs) (w : World) (hv : v.length = 8) (hs : s.length = 64) (hR : RT w) (h0 : 0 < w.heap.size) :
  Calls Tryz.prog 111 #[.agg (wcells v), .string (mk s)] w fun e w' => e = .returned (.agg (wcells (blockW v s))) ∧ Below w.heap.size w w' := by
 obtain ⟨B,hB⟩ : ∃ B,w.heap.size = B := ⟨_,rfl⟩
 obtain ⟨C,hC⟩ : ∃ C,wcells v = C := ⟨_,rfl⟩
 have hi : (Tryz.prog.info? 139).map (·.size) = some C.size := by rw [← hC];exact info139 v hv
 have h1 := (Blk.new w C 139).alloc (.cells #[.int .u32 0, .int .u32 0, .int .u32 0, .int .u32 0, .int .u32 0, .int .u32 0, .int .u32 0, .int .u32 0] 139)
 have h2 := h1.alloc (.cells #[.int .u32 0, .int .u32 0, .int .u32 0, .int .u32 0, .int .u32 0, .int .u32 0, .int .u32 0, .int .u32 0] 139)
 have hz1 := (Blk.new (w.alloc (.cells C 139)) #[.int .u32 0, .int .u32 0, .int .u32 0, .int .u32 0, .int .u32 0, .int .u32 0, .int .u32 0, .int .u32 0] 139).alloc (.cells #[.int .u32 0, .int .u32 0, .int .u32 0, .int .u32 0, .int .u32 0, .int .u32 0, .int .u32 0, .int .u32 0] 139)
 have h3 := Blk.new ((w.alloc (.cells C 139)).alloc (.cells #[.int .u32 0, .int .u32 0, .int .u32 0, .int .u32 0, .int .u32 0, .int .u32 0, .int .u32 0, .int .u32 0] 139)) #[.int .u32 0, .int .u32 0, .int .u32 0, .int .u32 0, .int .u32 0, .int .u32 0, .int .u32 0, .int .u32 0] 139
 have hsz : (#[.int .u32 0, .int .u32 0, .int .u32 0, .int .u32 0, .int .u32 0, .int .u32 0, .int .u32 0, .int .u32 0] : Array Value).size = C.size := by rw [← hC,wcells_size,hv];rfl
 have hone : C.all (·.oneCell') = true := by rw [← hC];exact wcells_one v
 have hb : Below w.heap.size w (((w.alloc (.cells C 139)).alloc (.cells #[.int .u32 0, .int .u32 0, .int .u32 0, .int .u32 0, .int .u32 0, .int .u32 0, .int .u32 0, .int .u32 0] 139)).alloc (.cells #[.int .u32 0, .int .u32 0, .int .u32 0, .int .u32 0, .int .u32 0, .int .u32 0, .int .u32 0, .int .u32 0] 139)) := (((Below.refl _ _).alloc (Nat.le_refl _) _).alloc (by simp) _).alloc (by simp;omega) _
 have hbs := below_setRow (g := w.heap.size + 2) hb (by omega) C
 have s1 : (w.alloc (.cells C 139)).heap.size = B + 1 := by rw [← hB];simp
 have s2 : ((w.alloc (.cells C 139)).alloc (.cells #[.int .u32 0, .int .u32 0, .int .u32 0, .int .u32 0, .int .u32 0, .int .u32 0, .int .u32 0, .int .u32 0] 139)).heap.size = B + 2 := by rw [← hB];simp
 rw [s1] at hz1
 rw [s2] at h3
 rw [hB] at h1 h2 hbs
 have hz2 : Blk ((((w.alloc (.cells C 139)).alloc (.cells #[.int .u32 0, .int .u32 0, .int .u32 0, .int .u32 0, .int .u32 0, .int .u32 0, .int .u32 0, .int .u32 0] 139)).alloc (.cells #[.int .u32 0, .int .u32 0, .int .u32 0, .int .u32 0, .int .u32 0, .int .u32 0, .int .u32 0, .int .u32 0] 139)).setRow (B + 2) C) (B + 1) #[.int .u32 0, .int .u32 0, .int .u32 0, .int .u32 0, .int .u32 0, .int .u32 0, .int .u32 0, .int .u32 0] 139 := (setRow_other _ _ _ _ (by omega)).trans hz1
 have h4 : Blk ((((w.alloc (.cells C 139)).alloc (.cells #[.int .u32 0, .int .u32 0, .int .u32 0, .int .u32 0, .int .u32 0, .int .u32 0, .int .u32 0, .int .u32 0] 139)).alloc (.cells #[.int .u32 0, .int .u32 0, .int .u32 0, .int .u32 0, .int .u32 0, .int .u32 0, .int .u32 0, .int .u32 0] 139)).setRow (B + 2) C) B C 139 := (setRow_other _ _ _ _ (by omega)).trans h2
 have h5 : Blk ((((w.alloc (.cells C 139)).alloc (.cells #[.int .u32 0, .int .u32 0, .int .u32 0, .int .u32 0, .int .u32 0, .int .u32 0, .int .u32 0, .int .u32 0] 139)).alloc (.cells #[.int .u32 0, .int .u32 0, .int .u32 0, .int .u32 0, .int .u32 0, .int .u32 0, .int .u32 0, .int .u32 0] 139)).setRow (B + 2) C) (B + 2) C 139 := setRow_heap _ _ _ _ _ _ h3
 obtain ⟨WS,hWS⟩ : ∃ q,(((w.alloc (.cells C 139)).alloc (.cells #[.int .u32 0, .int .u32 0, .int .u32 0, .int .u32 0, .int .u32 0, .int .u32 0, .int .u32 0, .int .u32 0] 139)).alloc (.cells #[.int .u32 0, .int .u32 0, .int .u32 0, .int .u32 0, .int .u32 0, .int .u32 0, .int .u32 0, .int .u32 0] 139)).setRow (B + 2) C = q := ⟨_,rfl⟩
 have sS : WS.heap.size = B + 3 := by rw [← hWS,setRow_size, ← hB];simp
 rw [hWS] at hz2 h4 h5 hbs
 have HS := Lib.hid (And.intro hbs (And.intro h4 (And.intro hz2 (And.intro h5 sS))))
 have HL1 := Lib.hid h1
 have HL3 := Lib.hid h3
 have HI := Lib.hid hi
 have HZ := Lib.hid hsz
 have HO := Lib.hid hone
 have HC := Lib.hid hC
 have HWS := Lib.hid hWS
 have KW := words_any s WS hs
 have HK := Lib.hid KW
 rw [hC]
 clear hC h1 h2 hz1 h3 hsz hone hb hbs s1 s2 hz2 h4 h5 hi hWS sS KW
 rw [hB] at h0 ⊢
 go_enter Tryz.func111,Tryz.ntmps111
 go_wp2_with (first | (refine wpList_load_row rfl 139 (.tmp 2) rfl B rfl 139 C (0,0) _ HL1.out Tryz.underlying139 rfl HI.out ?_) | (refine wpList_store_row rfl 139 (.tmp 5) (.tmp 11) rfl (B + 2) C rfl rfl 139 #[.int .u32 0, .int .u32 0, .int .u32 0, .int .u32 0, .int .u32 0, .int .u32 0, .int .u32 0, .int .u32 0] HL3.out HI.out HZ.out HO.out ?_;rw [HWS.out]) | (go_at_call 139;refine HK.out.mono ?_;rintro e w1 ⟨rfl,hb1⟩))
 rw [show B + 1 + 1 = B + 2 from rfl]
 have g0 := wordsW_length s 48
 obtain ⟨ws,hws⟩ : ∃ q,wordsW s 48 = q := ⟨_,rfl⟩
 have GW := Lib.hid hws
 rw [hws] at g0 ⊢
 have G0 := Lib.hid g0
 have HV := Lib.hid hv
 obtain ⟨A,hA⟩ : ∃ q,wcells ws = q := ⟨_,rfl⟩
 have HA := Lib.hid hA
 rw [hA]
 have asz : A.size = 64 := by rw [← hA,wcells_size,g0]
 have R0 := Lib.hid (And.intro hR h0)
 have s0 := HS.out
 rw [← HC.out] at s0
 have T0 := Lib.hid (And.intro (s0.1.trans (hb1.mono (by rw [s0.2.2.2.2];omega))) (And.intro (s0.2.1.below hb1) (And.intro (s0.2.2.1.below hb1) (s0.2.2.2.1.below hb1))))
 clear hws g0 hA hR hB s0 hb1 hv HS HL1 HL3 HWS HK HO HZ
 go_loopw [14] (fun iv wr => ∃ i : Nat,i ≤ 64 ∧ iv = .int .i64 (i : Int) ∧ Below B w wr ∧ Blk wr B (wcells v) 139 ∧ Blk wr (B + 1) #[.int .u32 0, .int .u32 0, .int .u32 0, .int .u32 0, .int .u32 0, .int .u32 0, .int .u32 0, .int .u32 0] 139 ∧ Blk wr (B + 2) (wcells (roundsW v ws i)) 139) (fun iv _ => 64 - (intOf iv).toNat)
 case atStart => exact ⟨0,by omega,rfl,T0.out⟩
 case round =>
  clear T0
  obtain ⟨i,hi,rfl,hbl,hv1,hz1,hx1⟩ := hrel
  by_cases hlt : i < 64
  ·have i0 : (0 : Int) ≤ (i : Int) := by omega
   have i1 : (i : Int) < 64 := by omega
   have xl : (roundsW v ws i).length = 8 := by
    cases i with
    | zero => exact HV.out
    | succ i => rfl
   obtain ⟨a,b,c,d,e,f,g,z,hx⟩ := list8 _ xl
   have HX := Lib.hid hx
   rw [hx] at hx1
   have hk := run_index215 A i _ wr hlt (by rw [← HA.out];exact wcells_at ws i (by rw [G0.out];exact hlt))
   have hr := (R0.out.1.below (by omega) hbl) i hlt
   obtain ⟨c0,c1,c2,c3,c4,c5,c6,c7⟩ := eight hx1
   obtain ⟨wi,hwi⟩ : ∃ q,at_ ws i = q := ⟨_,rfl⟩
   obtain ⟨ki,hki⟩ : ∃ q,at_ rootsW i = q := ⟨_,rfl⟩
   rw [hwi] at hk
   rw [hki] at hr
   have HWI := Lib.hid (And.intro hwi hki)
   have HW := Lib.hid (And.intro hbl (And.intro hv1 (And.intro hz1 hx1)))
   clear hwi hki hx xl hbl hv1 hz1 hx1
   go_wp2
   go_quiet ((go_at_call 140;exact Calls.quiet_of_same (right_int _ _ (by decide) (by decide) _)))
   rw [tW_ix]
   obtain ⟨W2,hW2⟩ : ∃ W2,wr.drewN nq = W2 := ⟨_,rfl⟩
   have HW2 := Lib.hid (show Below B w W2 ∧ Blk W2 B (wcells v) 139 ∧ Blk W2 (B + 1) #[.int .u32 0, .int .u32 0, .int .u32 0, .int .u32 0, .int .u32 0, .int .u32 0, .int .u32 0, .int .u32 0] 139 ∧ Blk W2 (B + 2) (wcells [a,b,c,d,e,f,g,z]) 139 by rw [← hW2];exact ⟨below_drewN HW.out.1 nq,HW.out.2⟩)
   rw [hW2]
   clear hW2 c0 c1 c2 c3 c4 c5 c6 c7 hk hr HW
   obtain ⟨c0,c1,c2,c3,c4,c5,c6,c7⟩ := eight HW2.out.2.2.2
   rw [ix_not']
   go_wp2
   go_quiet ((go_at_call 140;exact Calls.quiet_of_same (right_int _ _ (by decide) (by decide) _)))
   rw [uW_ix]
   obtain ⟨W3,hW3⟩ : ∃ W3,W2.drewN nq = W3 := ⟨_,rfl⟩
   have HW3 := Lib.hid (show Below B w W3 ∧ Blk W3 B (wcells v) 139 ∧ Blk W3 (B + 1) #[.int .u32 0, .int .u32 0, .int .u32 0, .int .u32 0, .int .u32 0, .int .u32 0, .int .u32 0, .int .u32 0] 139 ∧ Blk W3 (B + 2) (wcells [a,b,c,d,e,f,g,z]) 139 by rw [← hW3];exact ⟨below_drewN HW2.out.1 nq,HW2.out.2⟩)
   rw [hW3]
   clear hW3 c0 c1 c2 c3 c4 c5 c6 c7 HW2
   obtain ⟨c0,c1,c2,c3,c4,c5,c6,c7⟩ := eight HW3.out.2.2.2
   go_wp2_with (refine wpList_store_row rfl 139 (.tmp 5) (.tmp 99) rfl (B + 2) _ rfl rfl 139 _ HW3.out.2.2.2 info139n rfl (all8 _ _ _ _ _ _ _ _) ?_)
   go_roundw
   case rel =>
    refine ⟨i + 1,by omega,by go_num,below_setRow HW3.out.1 (by omega) _,(setRow_other _ _ _ _ (by omega)).trans HW3.out.2.1,(setRow_other _ _ _ _ (by omega)).trans HW3.out.2.2.1, ?_⟩
    rw [roundsW,HX.out,HWI.out.1,HWI.out.2,stepW_eight]
    rw [← wc8]
    exact setRow_heap _ _ _ _ _ _ HW3.out.2.2.2
   case measure => simp [intOf];omega
  ·obtain rfl : i = 64 := by omega
   obtain ⟨X,hX⟩ : ∃ q,roundsW v ws 64 = q := ⟨_,rfl⟩
   have HX := Lib.hid hX
   have xl : X.length = 8 := by rw [← hX];rfl
   rw [hX] at hx1
   have hv2 : Blk wr B (wcells (vkW v X 0)) 139 := hv1
   have HI8 := HV.out
   have XL := Lib.hid xl
   clear hv1 hX xl HI8
   go_wp2
   go_loopw [101] (fun iv wr => ∃ k : Nat,k ≤ 8 ∧ iv = .int .i64 (k : Int) ∧ Below B w wr ∧ Blk wr B (wcells (vkW v X k)) 139 ∧ Blk wr (B + 1) #[.int .u32 0, .int .u32 0, .int .u32 0, .int .u32 0, .int .u32 0, .int .u32 0, .int .u32 0, .int .u32 0] 139 ∧ Blk wr (B + 2) (wcells X) 139) (fun iv _ => 8 - (intOf iv).toNat)
   case atStart => exact ⟨0,by omega,rfl,hbl,hv2,hz1,hx1⟩
   case round =>
    clear hbl hv2 hz1 hx1
    obtain ⟨k,hk,rfl,hbl,hv2,hz1,hx1⟩ := hrel
    by_cases hkt : k < 8
    ·have k0 : (0 : Int) ≤ (k : Int) := by omega
     have k1 : (k : Int) < 8 := by omega
     have a1 := vkW_at v X k HV.out hkt
     have c1 := (hv2.cell k).trans (wcells_at _ _ a1.1)
     have c2 := (hx1.cell k).trans (wcells_at _ _ (by rw [XL.out];exact hkt))
     have f1 := hv2.frozen k
     rw [a1.2] at c1
     obtain ⟨p,hp⟩ : ∃ q,at_ v k = q := ⟨_,rfl⟩
     obtain ⟨q,hq⟩ : ∃ r,at_ X k = r := ⟨_,rfl⟩
     rw [hp] at c1
     rw [hq] at c2
     have HW := Lib.hid (And.intro hbl (And.intro hv2 (And.intro hz1 (And.intro hx1 (And.intro hp hq)))))
     clear hbl hv2 hz1 hx1 hp hq a1
     go_wp2
     go_region
     go_wp2
     go_roundw
     case rel =>
      refine ⟨k + 1,by omega,by go_num,(HW.out.1.setCell (p := ⟨B,k,none⟩) (Nat.le_refl _) _).drew, ?_,(Blk.other HW.out.2.2.1 (by omega) k _).drew,(Blk.other HW.out.2.2.2.1 (by omega) k _).drew⟩
      rw [← ix_sum, ← vkW_set v X k HV.out hkt, ← wcells_set,HW.out.2.2.2.2.1,HW.out.2.2.2.2.2]
      exact (HW.out.2.1.set k _).drew
     case measure => simp [intOf];omega
    ·obtain rfl : k = 8 := by omega
     have e8 : vkW v X 8 = blockW v s := by
      unfold blockW
      rw [GW.out,HX.out]
      unfold vkW
      rw [List.drop_of_length_le (by rw [HV.out];exact Nat.le_refl 8),List.append_nil]
     rw [e8] at hv2
     have hb8 : (blockW v s).length = 8 := by unfold blockW;simp
     have H8 := Lib.hid (info139 _ hb8)
     have hz8 : (#[.int .u32 0, .int .u32 0, .int .u32 0, .int .u32 0, .int .u32 0, .int .u32 0, .int .u32 0, .int .u32 0] : Array Value).size = (wcells (blockW v s)).size := by rw [wcells_size,hb8];rfl
     have ho8 := wcells_one (blockW v s)
     have HZ8 := Lib.hid hz8
     have HO8 := Lib.hid ho8
     clear e8 hb8 hz8 ho8
     go_wp2_with (first | (refine wpList_load_row rfl 139 (.tmp 2) rfl B rfl 139 _ (0,0) _ hv2 Tryz.underlying139 rfl H8.out ?_) | (refine wpList_store_row rfl 139 (.tmp 4) (.tmp 113) rfl (B + 1) _ rfl rfl 139 _ hz1 H8.out HZ8.out HO8.out ?_))
     exact bodyPost_ret (results_cell_row (fn := Tryz.f111) rfl _ _ (B + 1) 139 _ (0,0) _ rfl (setRow_heap _ _ _ _ _ _ hz1) Tryz.underlying139 rfl H8.out) rfl ⟨rfl,below_setRow hbl (by omega) _⟩
open Go.RowKit
def zeroS : Bs := List.replicate 512 0
def fullB (d : Bs) : Bs := d ++ List.replicate (512 - d.length) 0
def overlay (L : List Bs) (S : List (Nat × Bs)) : List Bs := S.foldl (fun L x => L.set x.1 x.2) L
def scells (S : List (Nat × Bs)) : List Value := S.flatMap fun x => [.int .i64 x.1, .string (mk x.2)]
theorem overlay_length (S : List (Nat × Bs)) : ∀ L,(overlay L S).length = L.length := by
 induction S with
 | nil => intro L;rfl
 | cons x S ih => intro L;unfold overlay at ih ⊢;rw [List.foldl_cons,ih,List.length_set]
theorem overlay_snoc (L : List Bs) (S : List (Nat × Bs)) (x : Nat × Bs) : overlay L (S ++ [x]) = (overlay L S).set x.1 x.2 := by simp [overlay]
theorem scells_length (S : List (Nat × Bs)) : (scells S).length = S.length * 2 := by
 induction S with
 | nil => rfl
 | cons x S ih => unfold scells at ih ⊢;rw [List.flatMap_cons,List.length_append,ih];simp;omega
theorem scells_at (S : List (Nat × Bs)) : ∀ j (h : j < S.length),(scells S)[j * 2]? = some (.int .i64 S[j].1) ∧ (scells S)[j * 2 + 1]? = some (.string (mk S[j].2)) := by
 induction S with
 | nil => intro j h;simp at h
 | cons x S ih =>
  intro j h
  have e : scells (x :: S) = .int .i64 x.1 :: .string (mk x.2) :: scells S := by unfold scells;rfl
  rw [e]
  cases j with
  | zero => exact ⟨rfl,rfl⟩
  | succ j =>
   have := ih j (by simpa using h)
   rw [show (j + 1) * 2 = j * 2 + 1 + 1 by omega]
   simpa using this
theorem scells_snoc (S : List (Nat × Bs)) (x : Nat × Bs) : scells (S ++ [x]) = scells S ++ [.int .i64 x.1, .string (mk x.2)] := by simp [scells]
structure Mv (X X' : List Nat) (w w' : World) : Prop where
 frm : Frm X w w'
 sub : ∀ x ∈ X',x ∈ X ∨ w.heap.size ≤ x
theorem Mv.of_frm {X : List Nat} {w w' : World} (h : Frm X w w') : Mv X X w w' := ⟨h,fun _ h => .inl h⟩
theorem Mv.refl (X : List Nat) (w : World) : Mv X X w w := .of_frm (Frm.refl X w)
theorem Mv.of_below (X : List Nat) {w w' : World} (h : Below w.heap.size w w') : Mv X X w w' := .of_frm (Frm.of_below X h)
theorem Mv.trans {X Y Z : List Nat} {a b c : World} (h : Mv X Y a b) (k : Mv Y Z b c) : Mv X Z a c :=
 ⟨h.frm.trans k.frm h.sub,fun z hz => (k.sub z hz).elim (h.sub z) (fun hh => .inr (Nat.le_trans h.frm.size hh))⟩
theorem Mv.drew {X Y : List Nat} {a b : World} (h : Mv X Y a b) : Mv X Y a b.drew := ⟨h.frm.drew,h.sub⟩
theorem Mv.alloc {X Y : List Nat} {a b : World} (h : Mv X Y a b) (o : Obj) : Mv X Y a (b.alloc o) := ⟨h.frm.alloc o,h.sub⟩
theorem Mv.below {X Y : List Nat} {a b c : World} (h : Mv X Y a b) (k : Below b.heap.size b c) : Mv X Y a c := h.trans (.of_below _ k)
theorem Mv.size {X Y : List Nat} {a b : World} (h : Mv X Y a b) : a.heap.size ≤ b.heap.size := h.frm.size
theorem Mv.blk {X Y : List Nat} {w w' : World} (h : Mv X Y w w') {b : Nat} {cs : Array Value} {e : TypeId} (hb : Blk w b cs e) (hx : b ∉ X) : Blk w' b cs e := h.frm.blk hb hx
structure DS where
 L : List Bs
 S : List (Nat × Bs)
 cut : Option (Nat × List Int)
 off : Bool
def keptI (keep : List Int) (k : Nat) : Bool := decide (0 < keep.length) && (bits .and .i64 (keep.getD (k % keep.length) 0) 1 == 1)
def overK (p : Nat → Bool) : Nat → List Bs → List (Nat × Bs) → List Bs
 | _,L,[] => L
 | k,L,x :: S => overK p (k + 1) (if p k then L.set x.1 x.2 else L) S
theorem overK_snoc (p : Nat → Bool) (x : Nat × Bs) : ∀ (S : List (Nat × Bs)) (k : Nat) (L : List Bs),overK p k L (S ++ [x]) = if p (k + S.length) then (overK p k L S).set x.1 x.2 else overK p k L S := by
 intro S
 induction S with
 | nil => intro k L;simp [overK]
 | cons y S ih => intro k L;rw [List.cons_append,overK,ih,List.length_cons,show k + 1 + S.length = k + (S.length + 1) by omega];rfl
theorem overK_length (p : Nat → Bool) : ∀ (S : List (Nat × Bs)) (k : Nat) (L : List Bs),(overK p k L S).length = L.length := by
 intro S
 induction S with
 | nil => intro k L;rfl
 | cons x S ih => intro k L;rw [overK,ih];split <;> simp
theorem overK_good (p : Nat → Bool) (n : Nat) : ∀ (S : List (Nat × Bs)) (k : Nat) (L : List Bs),(∀ x ∈ L,x.length = 512) → (∀ x ∈ S,x.1 < n ∧ x.2.length = 512) → ∀ x ∈ overK p k L S,x.length = 512 := by
 intro S
 induction S with
 | nil => intro k L h _;exact h
 | cons y S ih =>
  intro k L h hS
  rw [overK]
  refine ih _ _ (fun x hx => ?_) (fun z hz => hS z (List.mem_cons_of_mem _ hz))
  split at hx
  ·rcases List.mem_or_eq_of_mem_set hx with hx | rfl
   ·exact h x hx
   ·exact (hS y (List.mem_cons_self ..)).2
  ·exact h x hx
def DS.fail (d : DS) (keep : List Int) : DS := ⟨overK (keptI keep) 0 d.L d.S,[],none,true⟩
def DS.step (d : DS) : Nat × DS :=
 if d.off then (7,d) else match d.cut with
 | none => (0,d)
 | some (n,keep) => if n = 1 then (7,d.fail keep) else (0,⟨d.L,d.S,some (n - 1,keep),false⟩)
def DS.write (d : DS) (i : Nat) (b : Bs) : Nat × DS := if d.step.1 = 0 then (0,⟨d.step.2.L,d.step.2.S ++ [(i,fullB b)],d.step.2.cut,d.step.2.off⟩) else d.step
def DS.sync (d : DS) : Nat × DS := if d.step.1 = 0 then (0,⟨overlay d.step.2.L d.step.2.S,[],d.step.2.cut,d.step.2.off⟩) else d.step
def DS.vis (d : DS) : List Bs := overlay d.L d.S
structure DGood (d : DS) : Prop where
 lasts : ∀ x ∈ d.L,x.length = 512
 wrote : ∀ x ∈ d.S,x.1 < d.L.length ∧ x.2.length = 512
 small : d.L.length ≤ 4096
def icells (l : List Int) : List Value := l.map fun i => .int .i64 i
def CutAt (w : World) (X : List Nat) (v : Value) : Option (Nat × List Int) → Prop
 | none => v = .pointer none
 | some (n,keep) => 1 ≤ n ∧ n ≤ 9223372036854775807 ∧ keep.length ≤ 9223372036854775807 ∧ ∃ C A c,v = .pointer (some ⟨C,0,none⟩) ∧ C ∈ X ∧ Blk w C #[.int .i64 n, .slice A keep.length c] 231 ∧ Lies w A (icells keep) ∧ Typed w A 3 ∧ ∀ a,A = some a → a.block ∈ X
structure Dsk (w : World) (X : List Nat) (D : Nat) (d : DS) : Prop where
 blk : ∃ gL cL vS vC cnt,Blk w D #[.slice (some ⟨gL,0,none⟩) d.L.length cL,vS,vC, .bool d.off, .int .i64 cnt] 124 ∧ w.ownsRow 0 9 1 (.slice (some ⟨gL,0,none⟩) d.L.length cL) d.L.length (txc d.L) ∧
  w.ownsRow 0 134 2 vS d.S.length (scells d.S) ∧ CutAt w X vC d.cut ∧ gL ∈ X ∧ ∀ g,vS.ownBlock = some g → g ∈ X
 good : DGood d
 mem : D ∈ X
 lt : ∀ x ∈ X,x < w.heap.size
theorem Typed.frm {X : List Nat} {w w' : World} (h : Frm X w w') {A : Option Addr} {e : TypeId} (ht : Typed w A e) (hx : ∀ a,A = some a → a.block ∉ X) : Typed w' A e := by
 intro a ha
 obtain ⟨cs,fr,hc⟩ := ht a ha
 exact ⟨cs,fr,(h.block _ (Array.getElem?_eq_some_iff.1 hc).1 (hx a ha)).trans hc⟩
theorem CutAt.frm {X Y : List Nat} {w w' : World} (h : Frm Y w w') {v : Value} {o : Option (Nat × List Int)} (hc : CutAt w X v o) (hx : ∀ x ∈ X,x ∉ Y) : CutAt w' X v o := by
 cases o with
 | none => exact hc
 | some p =>
  obtain ⟨n,keep⟩ := p
  obtain ⟨h1,h2,h3,C,A,c,h4,h5,h6,h7,h8,h9⟩ := hc
  exact ⟨h1,h2,h3,C,A,c,h4,h5,h.blk h6 (hx _ h5),h.lies h7 (fun a ha => hx _ (h9 a ha)),h8.frm h (fun a ha => hx _ (h9 a ha)),h9⟩
theorem Dsk.frm {X Y : List Nat} {w w' : World} {D : Nat} {d : DS} (h : Dsk w X D d) (hf : Frm Y w w') (hx : ∀ x ∈ X,x ∉ Y) : Dsk w' X D d := by
 obtain ⟨gL,cL,vS,vC,cnt,hB,hL,hS,hC,hg,hv⟩ := h.blk
 exact ⟨⟨gL,cL,vS,vC,cnt,hf.blk hB (hx _ h.mem),hf.row hL (fun g e => by simp only [Value.ownBlock,Option.some.injEq] at e;subst e;exact hx _ hg),hf.row hS (fun g e => hx _ (hv g e)),hC.frm hf hx,hg,hv⟩,h.good,h.mem,fun x hx => Nat.lt_of_lt_of_le (h.lt x hx) hf.size⟩
theorem Dsk.below {X : List Nat} {w w' : World} {D : Nat} {d : DS} (h : Dsk w X D d) (hb : Below w.heap.size w w') : Dsk w' X D d := h.frm (Frm.of_below [] hb) (fun _ _ => by simp)
theorem Mv.apart {X X' : List Nat} {w w' : World} (h : Mv X X' w w') {b : Nat} (hb : b ∉ X) (hl : b < w.heap.size) : b ∉ X' := fun hx => (h.sub b hx).elim hb (fun hh => by omega)
theorem mk_app (a b : Bs) : mk a ++ mk b = mk (a ++ b) := by
 rw [← mk_list (mk a ++ mk b)]
 congr 1
theorem run_sum (a b : Bs) (h : a.length + b.length ≤ 1099511627776) (w : World) : (Op.stringOp .add (mk a) (mk b)).run Tryz.prog w = .ok (.string (mk (a ++ b))) w := by
 have h1 : (mk a).size = a.length := mk_size _
 have h2 : (mk b).size = b.length := mk_size _
 have h3 := mk_app a b
 obtain ⟨X,hX⟩ : ∃ X,mk a = X := ⟨_,rfl⟩
 obtain ⟨Y,hY⟩ : ∃ X,mk b = X := ⟨_,rfl⟩
 rw [hX] at h1 h3 ⊢
 rw [hY] at h2 h3 ⊢
 rw [← h3]
 have h4 : X.size + Y.size ≤ 9223372036854775807 := by omega
 clear hX hY h1 h2 h3
 go_simp
theorem ext_mk' (s : ByteArray) (a b : Nat) : s.extract a (a + b) = mk ((s.data.toList.drop a).take b) := by
 apply ByteArray.ext
 rw [ByteArray.data_extract]
 apply Array.toList_inj.1
 simp [mk,List.extract_eq_take_drop]
theorem repeat_zero : ∀ n,Lib.repeatL [0] n = List.replicate n 0
 | 0 => rfl
 | n + 1 => by rw [Lib.repeatL,repeat_zero n,List.replicate_succ];rfl
theorem blank_any (w : World) : Calls Tryz.prog 90 #[] w fun e w' => e = .returned (.string (mk zeroS)) ∧ Below w.heap.size w w' := by
 have hr : (⟨(Lib.repeatL (ByteArray.data ⟨#[0]⟩).toList 512).toArray⟩ : ByteArray) = mk zeroS := by
  rw [show (ByteArray.data ⟨#[0]⟩).toList = [0] from rfl,repeat_zero];rfl
 have K := fun w => Tryz.strings_Repeat ⟨#[0]⟩ 512 w (by decide) (by decide)
 rw [hr] at K
 go_enter Tryz.func90,Tryz.ntmps90
 go_wp2_with (go_at_call 112;refine (K _).mono ?_;rintro e w1 ⟨rfl,hb⟩)
 go_wp2
 go_ret
 exact ⟨rfl,hb⟩
theorem drop_zero (k : Nat) : zeroS.drop k = List.replicate (512 - k) 0 := by unfold zeroS;rw [List.drop_replicate]
theorem full_any (d : Bs) (w : World) (h : d.length ≤ 512) : Calls Tryz.prog 71 #[.string (mk d)] w fun e w' => e = .returned (.string (mk (fullB d))) ∧ Below w.heap.size w w' := by
 have K := blank_any w
 have zr : (mk zeroS).size = 512 := by rw [mk_size];unfold zeroS;rw [List.length_replicate]
 have zd : (mk d).size = d.length := mk_size d
 have hsl := fun (w : World) => run_slice_string_l (P := Tryz.prog) (w := w) (t := 9) (s := mk zeroS) Tryz.underlying9 .i64 (d.length : Int) (by omega) (by rw [zr];omega)
 rw [show ((d.length : Int)).toNat = d.length by omega,show (mk zeroS).extract d.length (mk zeroS).size = mk (List.replicate (512 - d.length) 0) by
  have := ext_mk' (mk zeroS) d.length (512 - d.length)
  rw [show d.length + (512 - d.length) = (mk zeroS).size by rw [zr];omega,mk_data,drop_zero,List.take_of_length_le (by simp)] at this
  exact this] at hsl
 have hsum := run_sum d (List.replicate (512 - d.length) 0) (by simp;omega)
 have hf : d ++ List.replicate (512 - d.length) 0 = fullB d := rfl
 rw [hf] at hsum
 obtain ⟨X,hX⟩ : ∃ X,mk d = X := ⟨_,rfl⟩
 obtain ⟨Z,hZ⟩ : ∃ X,mk zeroS = X := ⟨_,rfl⟩
 obtain ⟨Y,hY⟩ : ∃ X,mk (List.replicate (512 - d.length) 0) = X := ⟨_,rfl⟩
 obtain ⟨R,hR⟩ : ∃ X,mk (fullB d) = X := ⟨_,rfl⟩
 obtain ⟨k,hk⟩ : ∃ k,d.length = k := ⟨_,rfl⟩
 rw [hX,hk] at zd
 rw [hZ,hY,hk] at hsl
 rw [hX,hY,hR] at hsum
 rw [hZ] at K
 rw [hX,hR]
 clear hX hZ hY hR hk hf zr h
 go_enter Tryz.func71,Tryz.ntmps71
 go_wp2_with (go_at_call 90;refine K.mono ?_;rintro e w1 ⟨rfl,hb⟩)
 go_wp2
 go_ret
 exact ⟨rfl,hb⟩
theorem since_at {w : World} {B m : Nat} {v : Value} {S : List (Nat × Bs)} (h : w.ownsRow B 134 2 v m (scells S)) (hm : S.length = m) (j : Nat) (hj : j < S.length) : ∃ g c,v = .slice (some ⟨g,0,none⟩) m c ∧ w.cell? ⟨g,j * 2,none⟩ = some (.int .i64 S[j].1) ∧ w.cell? ⟨g,j * 2 + 1,none⟩ = some (.string (mk S[j].2)) := by
 obtain ⟨g,cap,rfl,_,_⟩ := h.form (by omega)
 obtain ⟨h0,h1⟩ := scells_at S j hj
 refine ⟨g,cap,rfl, ?_, ?_⟩
 ·rw [h.cellAt (j * 2) (by omega)];exact h0
 ·rw [h.cellAt (j * 2 + 1) (by omega)];exact h1
theorem over_drop (L : List Bs) (S : List (Nat × Bs)) (i : Nat) (h : ∀ x ∈ S,x.1 ≠ i) : (overlay L S)[i]? = L[i]? := by
 induction S generalizing L with
 | nil => rfl
 | cons x S ih =>
  unfold overlay at ih ⊢
  rw [List.foldl_cons,ih _ (fun y hy => h y (List.mem_cons_of_mem _ hy)),List.getElem?_set_ne (h x (List.mem_cons_self ..))]
theorem over_hit (L : List Bs) (S : List (Nat × Bs)) (i j : Nat) (hj : j < S.length) (he : S[j].1 = i) (h : ∀ k (hk : k < S.length),j < k → S[k].1 ≠ i) (hi : i < L.length) : (overlay L S)[i]? = some S[j].2 := by
 have e : S = S.take j ++ S[j] :: S.drop (j + 1) := by rw [← List.drop_eq_getElem_cons hj,List.take_append_drop]
 have e2 : overlay L S = overlay ((overlay L (S.take j)).set i S[j].2) (S.drop (j + 1)) := by
  conv => lhs;rw [e]
  unfold overlay
  rw [List.foldl_append,List.foldl_cons,he]
 rw [e2,over_drop _ _ _ (fun x hx => ?_),List.getElem?_set_self (by rw [overlay_length];exact hi)]
 obtain ⟨k,hk,rfl⟩ := List.getElem_of_mem hx
 rw [List.getElem_drop]
 exact h _ _ (by omega)
theorem add_any (a : Addr) (n : Int) (w : World) (hc : w.cell? a = some (.int .i64 n)) (hz : w.frozen? a = false) :
  Calls Tryz.prog 34 #[.pointer (some a), .int .i64 1] w fun e w' => (∃ v,e = .returned v) ∧ w' = w.setCell a (.int .i64 (wrap64 (n + 1))) := by
 have hadd := run_call_add (P := Tryz.prog) Tryz.func76 (by kernel_rfl) (by kernel_rfl) (by kernel_rfl) .i64 (by kernel_rfl) (y := 1) (s := wrap64 (n + 1)) hc hz (by simp [go_sem];exact Go.IntWalk.i64_left _)
 go_enter Tryz.func34,Tryz.ntmps34
 go_wp2
 go_ret
 exact ⟨⟨_,rfl⟩,rfl⟩
theorem size_any (X : List Nat) (D : Nat) (d : DS) (w : World) (h : Dsk w X D d) : Calls Tryz.prog 61 #[.pointer (some ⟨D,0,none⟩)] w fun e w' => e = .returned (.int .i64 (d.L.length : Nat)) ∧ w' = w := by
 obtain ⟨gL,cL,vS,vC,cnt,hB,_⟩ := h.blk
 have x0 := hB.cell 0
 simp at x0
 obtain ⟨n,hn⟩ : ∃ n,d.L.length = n := ⟨_,rfl⟩
 rw [hn] at x0 ⊢
 clear h hB hn
 go_enter Tryz.func61,Tryz.ntmps61
 go_wp2
 go_ret
 exact ⟨rfl,rfl⟩
theorem has_any (X : List Nat) (D : Nat) (d : DS) (i : Int) (w : World) (h : Dsk w X D d) : Calls Tryz.prog 70 #[.pointer (some ⟨D,0,none⟩), .int .i64 i] w fun e w' => e = .returned (.bool (decide (0 ≤ i ∧ i < d.L.length))) ∧ w' = w := by
 have K := size_any X D d w h
 obtain ⟨n,hn⟩ : ∃ n,d.L.length = n := ⟨_,rfl⟩
 rw [hn] at K ⊢
 clear h hn
 by_cases h0 : 0 ≤ i
 ·go_enter Tryz.func70,Tryz.ntmps70
  go_wp2_with (go_at_call 61;refine K.mono ?_;rintro e w1 ⟨rfl,rfl⟩)
  go_wp2
  go_ret
  exact ⟨by simp [h0],rfl⟩
 ·go_enter Tryz.func70,Tryz.ntmps70
  go_wp2
  go_ret
  exact ⟨by simp;omega,rfl⟩
theorem off_any (X : List Nat) (D : Nat) (d : DS) (w : World) (h : Dsk w X D d) : Calls Tryz.prog 113 #[.pointer (some ⟨D,0,none⟩)] w fun e w' => e = .returned (.bool d.off) ∧ w' = w := by
 obtain ⟨gL,cL,vS,vC,cnt,hB,_⟩ := h.blk
 have x0 := hB.cell 3
 simp at x0
 obtain ⟨o,ho⟩ : ∃ o,d.off = o := ⟨_,rfl⟩
 rw [ho] at x0 ⊢
 clear h hB ho
 go_enter Tryz.func113,Tryz.ntmps113
 go_wp2
 go_ret
 exact ⟨rfl,rfl⟩
theorem len63 {w : World} {B e size n : Nat} {v : Value} {xs : List Value} (h : w.ownsRow B e size v n xs) : n ≤ 9223372036854775807 := by
 rcases h.2 with ⟨_,e⟩ | ⟨g,c',cur,_,_,_,e,e2,_⟩
 ·omega
 ·unfold maxLen at e2;omega
set_option maxHeartbeats 1000000 in
theorem read_any (X : List Nat) (D : Nat) (d : DS) (i : Nat) (w : World) (h : Dsk w X D d) (hi : i < d.L.length) (hoff : d.off = false) :
  Calls Tryz.prog 29 #[.pointer (some ⟨D,0,none⟩), .int .i64 i] w fun e w' => e = .returned (.tuple #[.string (mk (d.vis[i]?.getD [])), .int .i64 0]) ∧ w' = w := by
 have K := has_any X D d i w h
 rw [show decide (0 ≤ (i : Int) ∧ (i : Int) < d.L.length) = true by simp;omega] at K
 obtain ⟨gL,cL,vS,vC,cnt,hB,hL,hSr,_⟩ := h.blk
 have x0 := hB.cell 0
 have x1 := hB.cell 1
 have x3 := hB.cell 3
 simp at x0 x1 x3
 rw [hoff] at x3
 unfold DS.vis
 obtain ⟨L,hLe⟩ : ∃ L,d.L = L := ⟨_,rfl⟩
 obtain ⟨S,hSe⟩ : ∃ L,d.S = L := ⟨_,rfl⟩
 rw [hLe] at hi hL x0
 rw [hSe] at hSr
 rw [hLe,hSe]
 obtain ⟨n,hn⟩ : ∃ n,L.length = n := ⟨_,rfl⟩
 rw [hn] at hi hL x0
 have hl : w.cell? ⟨gL,i,none⟩ = some (.string (mk (L[i]?.getD []))) := by
  rw [hL.cellAt i (by omega),txc_at L i (by omega),List.getElem?_eq_getElem (by omega)];rfl
 have HOV := Lib.hid (over_drop L S i)
 have HOH := Lib.hid (fun j hj he hk => over_hit L S i j hj he hk (by omega))
 obtain ⟨m,hm⟩ : ∃ m,S.length = m := ⟨_,rfl⟩
 rw [hm] at hSr
 obtain ⟨A,c,hvS⟩ : ∃ A c,vS = .slice A m c := row_form hSr
 rw [hvS] at x1 hSr
 have hm63 : m ≤ 9223372036854775807 := len63 hSr
 have HR := Lib.hid hSr
 have HM := Lib.hid hm
 obtain ⟨V,hV⟩ : ∃ V,mk ((overlay L S)[i]?.getD []) = V := ⟨_,rfl⟩
 rw [hV]
 have HV := Lib.hid hV
 clear h hB hL hvS hm hV hSr hLe hSe hn hoff
 have i0 : (0 : Int) ≤ (i : Int) := by omega
 have i1 : (i : Int) < (n : Int) := by omega
 go_enter Tryz.func29,Tryz.ntmps29
 go_wp2_with (go_at_call 70;refine K.mono ?_;rintro e w1 ⟨rfl,hw⟩;obtain rfl := hw.symm)
 go_loopw [6] (fun kv wr => ∃ k : Nat,k ≤ m ∧ kv = .int .i64 ((k : Int) - 1) ∧ (∀ j (hj : j < S.length),k ≤ j → S[j].1 ≠ i) ∧ wr = w) (fun kv _ => (intOf kv + 1).toNat)
 case atStart => exact ⟨m,Nat.le_refl _,rfl,fun j hj hk => by have := HM.out;omega,rfl⟩
 case round =>
  obtain ⟨k,hk,rfl,hno,rfl⟩ := hrel
  have HNO := Lib.hid hno
  clear hno
  cases k with
  | zero =>
   have hv : (overlay L S)[i]?.getD [] = L[i]?.getD [] := by rw [HOV.out (fun x hx => by obtain ⟨j,hj,rfl⟩ := List.getElem_of_mem hx;exact HNO.out j hj (by omega))]
   rw [← hv,HV.out] at hl
   clear hv
   go_wp2
   go_ret2
   exact ⟨rfl,rfl⟩
  | succ k =>
   have hkl : k < S.length := by have := HM.out;omega
   obtain ⟨g,c',hA,s0,s1⟩ := since_at HR.out HM.out k hkl
   injection hA with hA1 _ hA3
   subst hA1 hA3
   have e1 : ((k + 1 : Nat) : Int) - 1 = (k : Int) := by omega
   rw [e1]
   have k0 : (0 : Int) ≤ (k : Int) := by omega
   have k1 : (k : Int) < (m : Int) := by omega
   by_cases he : S[k].1 = i
   ·have hv : (overlay L S)[i]?.getD [] = S[k].2 := by rw [HOH.out k hkl he (fun j hj hjk => HNO.out j hj (by omega))];rfl
    rw [he] at s0
    rw [← hv,HV.out] at s1
    clear hv e1 he
    go_wp2
    go_ret2
    exact ⟨rfl,rfl⟩
   ·have hne : ¬ ((S[k].1 : Int) = (i : Int)) := by omega
    have hne2 : ((S[k].1 : Int) == (i : Int)) = false := beq_eq_false_iff_ne.2 hne
    have HNO2 := Lib.hid (show ∀ j (hj : j < S.length),k ≤ j → S[j].1 ≠ i from fun j hj hkj => by
     by_cases e : j = k
     ·subst e;exact he
     ·exact HNO.out j hj (by omega))
    obtain ⟨z,hz⟩ : ∃ z,S[k].1 = z := ⟨_,rfl⟩
    rw [hz] at s0 hne hne2
    clear he hz e1 s1
    go_wp2
    go_roundw
    case rel => exact ⟨k,by omega,rfl,HNO2.out,trivial⟩
    case measure => simp [intOf]
open Go.RowKit
set_option maxRecDepth 100000 in
theorem first_any (w : World) : Calls Tryz.prog 110 #[] w fun e w' => e = .returned (.agg (wcells firstW)) ∧ Below w.heap.size w w' := by
 have hb := (Below.refl w.heap.size w).alloc (Nat.le_refl _) (.cells (wcells firstW) 139)
 have hB := Blk.new w (wcells (List.replicate 8 0#32)) 139
 have HI := Lib.hid (info139 firstW rfl)
 have HO := Lib.hid (wcells_one firstW)
 have HS := Lib.hid (show (wcells (List.replicate 8 0#32)).size = (wcells firstW).size from rfl)
 have HB := Lib.hid hB
 have HC := Lib.hid (below_setRow (g := w.heap.size) ((Below.refl w.heap.size w).alloc (Nat.le_refl _) (.cells (wcells (List.replicate 8 0#32)) 139)) (Nat.le_refl _) (wcells firstW))
 clear hB hb
 go_enter Tryz.func110,Tryz.ntmps110
 go_wp2_with (refine wpList_store_row rfl 139 (.tmp 0) (.tmp 1) rfl w.heap.size (wcells firstW) rfl rfl 139 _ HB.out HI.out HS.out HO.out ?_)
 exact bodyPost_ret (results_cell_row (fn := Tryz.f110) rfl _ _ w.heap.size 139 _ (0,0) _ rfl (setRow_heap _ _ _ _ _ _ HB.out) Tryz.underlying139 rfl HI.out) rfl ⟨rfl,HC.out⟩
theorem hashW_app (v : List Wd32) (D s : Bs) : ∀ k,64 * k ≤ D.length → hashW v (D ++ s) k = hashW v D k := by
 intro k
 induction k with
 | zero => intro _;rfl
 | succ k ih =>
  intro h
  rw [hashW,hashW,ih (by omega),List.drop_append_of_le_length (by omega),List.take_append_of_le_length (by simp;omega)]
def hcells (v : List Wd32) (b : Bool) (r : Bs) (n : Nat) : Array Value := wcells v ++ #[.bool b, .string (mk r), .int .i64 (n : Int)]
def HsAt (w : World) (H : Nat) (D : Bs) : Prop := ∃ (v : List Wd32) (b : Bool),Blk w H (hcells v b (D.drop (64 * (D.length / 64))) D.length) 141 ∧ v.length = 8 ∧ (b = false → D = []) ∧ (b = true → v = hashW firstW D (D.length / 64))
theorem hcells_eight (a b c d e f g z : Wd32) (t : Bool) (r : Bs) (n : Nat) : hcells [a,b,c,d,e,f,g,z] t r n = #[.int .u32 (ix a), .int .u32 (ix b), .int .u32 (ix c), .int .u32 (ix d), .int .u32 (ix e), .int .u32 (ix f), .int .u32 (ix g), .int .u32 (ix z), .bool t, .string (mk r), .int .i64 (n : Int)] := by
 simp [hcells,wcells]
def restLen (w : World) (H : Nat) : Nat := match w.cell? ⟨H,9,none⟩ with
 | some (.string s) => s.size
 | _ => 0
theorem hs_there {w : World} {H : Nat} {v0 v1 v2 v3 v4 v5 v6 v7 v8 v9 v10 : Value} (h : Blk w H #[v0,v1,v2,v3,v4,v5,v6,v7,v8,v9,v10] 141) : w.there H 0 8 := by
 intro j hj
 refine ⟨?_,h.frozen _⟩
 rw [h.cell,Array.getElem?_eq_getElem (by simp;omega)]
 rfl
theorem hs_store {w : World} {H : Nat} {v0 v1 v2 v3 v4 v5 v6 v7 v8 v9 v10 : Value} (a b c d e f g z : Wd32) (h : Blk w H #[v0,v1,v2,v3,v4,v5,v6,v7,v8,v9,v10] 141) :
  Blk (w.setCells H 0 (wcells [a,b,c,d,e,f,g,z]).toList) H #[.int .u32 (ix a), .int .u32 (ix b), .int .u32 (ix c), .int .u32 (ix d), .int .u32 (ix e), .int .u32 (ix f), .int .u32 (ix g), .int .u32 (ix z),v8,v9,v10] 141 ∧ Frm [H] w (w.setCells H 0 (wcells [a,b,c,d,e,f,g,z]).toList) := by
 have h1 := ((((((((h.set 0 (.int .u32 (ix a))).set 1 (.int .u32 (ix b))).set 2 (.int .u32 (ix c))).set 3 (.int .u32 (ix d))).set 4 (.int .u32 (ix e))).set 5 (.int .u32 (ix f))).set 6 (.int .u32 (ix g))).set 7 (.int .u32 (ix z)))
 simp at h1
 have k : ∀ i : Nat,(⟨H,i,none⟩ : Addr).block ∈ [H] ∨ w.heap.size ≤ (⟨H,i,none⟩ : Addr).block := fun i => .inl (List.mem_singleton.2 rfl)
 exact ⟨h1,((((((((Frm.refl [H] w).setCell (k 0) _).setCell (k 1) _).setCell (k 2) _).setCell (k 3) _).setCell (k 4) _).setCell (k 5) _).setCell (k 6) _).setCell (k 7) _⟩
theorem restLen_at {w : World} {H : Nat} {a b c d e f g z : Wd32} {t : Bool} {r : Bs} {n : Int} (h : Blk w H #[.int .u32 (ix a), .int .u32 (ix b), .int .u32 (ix c), .int .u32 (ix d), .int .u32 (ix e), .int .u32 (ix f), .int .u32 (ix g), .int .u32 (ix z), .bool t, .string (mk r), .int .i64 n] 141) : restLen w H = r.length := by
 have c9 := h.cell 9
 simp at c9
 unfold restLen
 rw [c9]
 exact mk_size r
def PutQ (H : Nat) (D : Bs) (w : World) (e : Ending) (w' : World) : Prop := e = .returned (.tuple #[]) ∧ HsAt w' H D ∧ Frm [H] w w'
theorem hs_start {W : World} {H : Nat} {a b c d e f g z : Wd32} {T : ByteArray} {x : Int} {E R : Bs} (h : Blk W H #[.int .u32 (ix a), .int .u32 (ix b), .int .u32 (ix c), .int .u32 (ix d), .int .u32 (ix e), .int .u32 (ix f), .int .u32 (ix g), .int .u32 (ix z), .bool true, .string T, .int .i64 x] 141) (hT : mk R = T) (hx : (E.length : Int) = x) :
  Blk W H (hcells [a,b,c,d,e,f,g,z] true R E.length) 141 := by
 rw [hcells_eight,hT,hx];exact h
set_option maxRecDepth 100000 in
set_option maxHeartbeats 4000000 in
theorem hput_any (H : Nat) (D s : Bs) (w : World) (h : HsAt w H D) (hn : D.length + s.length ≤ 1099511627776) (hR : RT w) (hH : 0 < H) :
  Calls Tryz.prog 74 #[.pointer (some ⟨H,0,none⟩), .string (mk s)] w (PutQ H (D ++ s) w) := by
 have hw0 : 0 < w.heap.size := by obtain ⟨_,_,h,_⟩ := h;exact Nat.lt_of_le_of_lt (Nat.zero_le _) h.lt
 obtain ⟨v,t,h,hl,ht0,ht1⟩ := h
 obtain ⟨a0,b0,c0,d0,e0,f0,g0,z0,hx0⟩ := list8 _ hl
 obtain ⟨a,b,c,d,e,f,g,z,hx⟩ := list8 (hashW firstW D (D.length / 64)) (hashW_length _ _ rfl _)
 have h64 : 64 * (D.length / 64) ≤ D.length := by omega
 have hap := hashW_app firstW D s (D.length / 64) h64
 have hdr : (D ++ s).drop (64 * (D.length / 64)) = D.drop (64 * (D.length / 64)) ++ s := List.drop_append_of_le_length h64
 have hEl : (((D ++ s).length : Nat) : Int) = (D.length : Int) + (s.length : Int) := by rw [List.length_append];omega
 have hk0 : 64 * (D.length / 64) ≤ (D ++ s).length := by rw [List.length_append];omega
 rw [hx] at hap
 rw [hx0,hcells_eight] at h
 obtain ⟨r,hr⟩ : ∃ q,D.drop (64 * (D.length / 64)) = q := ⟨_,rfl⟩
 rw [hr] at hdr h
 have KF := first_any w
 have hfb : t = false → firstW = [a,b,c,d,e,f,g,z] := fun e => by rw [← hx,ht0 e];rfl
 have htb : t = true → [a0,b0,c0,d0,e0,f0,g0,z0] = [a,b,c,d,e,f,g,z] := fun e => by rw [← hx, ← hx0];exact ht1 e
 obtain ⟨k,hk⟩ : ∃ q,D.length / 64 = q := ⟨_,rfl⟩
 rw [hk] at hk0 hdr hap
 obtain ⟨n,hnn⟩ : ∃ q,D.length = q := ⟨_,rfl⟩
 obtain ⟨m,hm⟩ : ∃ q,s.length = q := ⟨_,rfl⟩
 rw [hnn] at h hn hEl
 rw [hm] at hn hEl
 have zr := mk_size r
 have zs := mk_size s
 have rl : r.length ≤ 63 := by rw [← hr,List.length_drop];omega
 rw [hm] at zs
 have happ := mk_app r s
 obtain ⟨R,hRR⟩ : ∃ q,mk r = q := ⟨_,rfl⟩
 obtain ⟨S,hSS⟩ : ∃ q,mk s = q := ⟨_,rfl⟩
 rw [hRR] at h zr happ
 rw [hSS] at zs happ ⊢
 obtain ⟨T,hT⟩ : ∃ q,mk (r ++ s) = q := ⟨_,rfl⟩
 rw [hT] at happ
 obtain ⟨E,hE⟩ : ∃ q,D ++ s = q := ⟨_,rfl⟩
 rw [hE] at hdr hEl hk0 hap ⊢
 have HE := Lib.hid (And.intro hap (And.intro hdr (And.intro hEl (And.intro hk0 hT))))
 have HB := Lib.hid h
 have n0 : (0 : Int) ≤ (n : Int) + (m : Int) := by omega
 have n1 : (n : Int) + (m : Int) ≤ 1099511627776 := by omega
 have HR := Lib.hid (And.intro hR (And.intro hH hw0))
 clear hw0 hx hl ht0 ht1 hx0 h64 hap hdr hEl hk0 hk hr hnn hm hT hRR hSS hE hR
 cases t
 all_goals first
  | (
   have htb := htb rfl
   simp only [List.cons.injEq,and_true] at htb
   obtain ⟨rfl,rfl,rfl,rfl,rfl,rfl,rfl,rfl⟩ := htb
   clear hfb KF
   have c8 := h.cell 8
   have c9 := h.cell 9
   have c10 := h.cell 10
   have f9 := h.frozen 9
   have f10 := h.frozen 10
   simp at c8 c9 c10
   clear h
   go_enter Tryz.func74,Tryz.ntmps74
   go_wp2)
  | (
   have hfb := hfb rfl
   rw [hfb] at KF
   have KF := Lib.hid KF
   clear htb hfb
   have c8 := h.cell 8
   simp at c8
   clear h
   go_enter Tryz.func74,Tryz.ntmps74
   go_wp2_with (first
    | (go_at_call 110;refine KF.out.mono ?_;rintro e w1 ⟨rfl,hb1⟩;have hT1 := hs_there (HB.out.below hb1);have HST := Lib.hid (And.intro hb1 (hs_store a b c d e f g z (HB.out.below hb1)));clear hb1)
    | (
     refine wpList_store_mid rfl 139 (.tmp 15) (.tmp 13) rfl H 0 (wcells [a,b,c,d,e,f,g,z]) rfl rfl hT1 info139n (wcells_one _) ?_
     have hw1 := HST.out.2.1
     have hw2 := (Frm.of_below [H] HST.out.1).trans HST.out.2.2 (fun y hy => .inl hy)
     obtain ⟨WF,hWF⟩ : ∃ q,w1.setCells H 0 (wcells [a,b,c,d,e,f,g,z]).toList = q := ⟨_,rfl⟩
     rw [hWF] at hw1 hw2 ⊢
     have HFW := Lib.hid hw2
     have HBW := Lib.hid hw1
     have c8 := hw1.cell 8
     have c9 := hw1.cell 9
     have c10 := hw1.cell 10
     have f8 := hw1.frozen 8
     have f9 := hw1.frozen 9
     have f10 := hw1.frozen 10
     simp at c8 c9 c10
     clear hWF hw1 hw2 HST hT1)))
 all_goals
  go_loopw [35] (fun _ wr => Frm [H] w wr ∧ ∃ k v,64 * k ≤ E.length ∧ v = hashW firstW E k ∧ Blk wr H (hcells v true (E.drop (64 * k)) E.length) 141) (fun _ wr => restLen wr H)
  case atStart => first | exact ⟨((Frm.refl [H] w).setCell (p := ⟨H,10,none⟩) (.inl (List.mem_singleton.2 rfl)) _).setCell (p := ⟨H,9,none⟩) (.inl (List.mem_singleton.2 rfl)) _,k,_,HE.out.2.2.2.1,HE.out.1.symm,hs_start ((HB.out.set 10 _).set 9 _) (by rw [HE.out.2.1];exact HE.out.2.2.2.2) HE.out.2.2.1⟩ | exact ⟨(((HFW.out.setCell (p := ⟨H,8,none⟩) (.inl (List.mem_singleton.2 rfl)) _).setCell (p := ⟨H,10,none⟩) (.inl (List.mem_singleton.2 rfl)) _).setCell (p := ⟨H,9,none⟩) (.inl (List.mem_singleton.2 rfl)) _),k,_,HE.out.2.2.2.1,HE.out.1.symm,hs_start (((HBW.out.set 8 _).set 10 _).set 9 _) (by rw [HE.out.2.1];exact HE.out.2.2.2.2) HE.out.2.2.1⟩
  case round =>
   clear c8 c9 c10 f9 f10 n0 n1 happ
   obtain ⟨hfr,k1,v1,hk1,hv1,hB1⟩ := hrel
   obtain ⟨a1,b1,c1,d1,e1,f1,g1,z1,hx1⟩ := list8 v1 (by rw [hv1];exact hashW_length _ _ rfl _)
   rw [hx1,hcells_eight] at hB1
   obtain ⟨L,hL⟩ : ∃ q,E.length = q := ⟨_,rfl⟩
   obtain ⟨P,hP⟩ : ∃ q,E.drop (64 * k1) = q := ⟨_,rfl⟩
   have hPl : P.length + 64 * k1 = L := by rw [← hP,List.length_drop];omega
   have zP := mk_size P
   have hrs := restLen_at hB1
   rw [hP] at hB1 hrs
   obtain ⟨Q,hQ⟩ : ∃ q,mk P = q := ⟨_,rfl⟩
   rw [hQ] at hB1 zP
   obtain ⟨l,hl⟩ : ∃ q,P.length = q := ⟨_,rfl⟩
   rw [hl] at zP hPl hrs
   have HL := Lib.hid (And.intro hL (And.intro hP (And.intro hl (And.intro hQ (And.intro hrs (And.intro hx1 hv1))))))
   have HF := Lib.hid hfr
   have c9 := hB1.cell 9
   simp at c9
   rw [hL] at hB1
   have HB1 := Lib.hid hB1
   clear hfr hx1 hv1 hL hP hQ hl hrs
   by_cases hlt : 64 ≤ l
   ·have hl64 : (64 : Int) ≤ (l : Int) := by omega
    clear hB1
    have hq1 : Q.extract 0 64 = mk (P.take 64) := by
     have := ext_mk' Q 0 64
     rw [Nat.zero_add, ← HL.out.2.2.2.1,mk_data,List.drop_zero] at this
     rw [← HL.out.2.2.2.1];exact this
    have hq2 : Q.extract 64 Q.size = mk (P.drop 64) := by
     have h5 := ext_mk' Q 64 (l - 64)
     rw [show 64 + (l - 64) = Q.size by rw [zP];omega] at h5
     rw [h5, ← HL.out.2.2.2.1,mk_data,List.take_of_length_le (by rw [List.length_drop,HL.out.2.2.1];exact Nat.le_refl _)]
    have hsl1 := fun (w : World) => run_slice_string_h (P := Tryz.prog) (w := w) (t := 9) (s := Q) Tryz.underlying9 .i64 (64 : Int) (by omega) (by rw [zP];omega)
    have hsl2 := fun (w : World) => run_slice_string_l (P := Tryz.prog) (w := w) (t := 9) (s := Q) Tryz.underlying9 .i64 (64 : Int) (by omega) (by rw [zP];omega)
    rw [show ((64 : Int)).toNat = 64 from rfl,hq1] at hsl1
    rw [show ((64 : Int)).toNat = 64 from rfl,hq2] at hsl2
    have KN : ∀ w1,RT w1 → 0 < w1.heap.size → Calls Tryz.prog 111 #[.agg #[.int .u32 (ix a1), .int .u32 (ix b1), .int .u32 (ix c1), .int .u32 (ix d1), .int .u32 (ix e1), .int .u32 (ix f1), .int .u32 (ix g1), .int .u32 (ix z1)], .string (mk (P.take 64))] w1 fun e w' => e = .returned (.agg (wcells (blockW [a1,b1,c1,d1,e1,f1,g1,z1] (P.take 64)))) ∧ Below w1.heap.size w1 w' := fun w1 h1 h2 =>
     nextW_any [a1,b1,c1,d1,e1,f1,g1,z1] (P.take 64) w1 rfl (by rw [List.length_take,HL.out.2.2.1];omega) h1 h2
    obtain ⟨a2,b2,c2,d2,e2,f2,g2,z2,hx2⟩ := list8 (blockW [a1,b1,c1,d1,e1,f1,g1,z1] (P.take 64)) (by unfold blockW;simp)
    rw [hx2] at KN
    have HX2 := Lib.hid hx2
    have hrw : RT wr := fun j hj => (HF.out.cell (p := ⟨0,j,none⟩) HR.out.2.2 (by simpa using Nat.ne_of_lt HR.out.2.1)).trans (HR.out.1 j hj)
    have mixed := mixedT
    obtain ⟨G1,hG1⟩ : ∃ q,mk (P.take 64) = q := ⟨_,rfl⟩
    obtain ⟨G2,hG2⟩ : ∃ q,mk (P.drop 64) = q := ⟨_,rfl⟩
    rw [hG1] at KN
    simp only [hG1] at hsl1
    simp only [hG2] at hsl2
    have HG := Lib.hid (And.intro hG1 hG2)
    have HK := Lib.hid (KN wr.drew hrw (Nat.lt_of_lt_of_le HR.out.2.2 HF.out.size))
    clear hq1 hq2 KN hx2 hrw hG1 hG2
    go_wp2
    refine wp_region_S 13 (fun _ => True) (fun w' => Blk w' H #[.int .u32 (ix a1), .int .u32 (ix b1), .int .u32 (ix c1), .int .u32 (ix d1), .int .u32 (ix e1), .int .u32 (ix f1), .int .u32 (ix g1), .int .u32 (ix z1), .bool true, .string Q, .int .i64 (L : Int)] 141) mixed ?_
    change wpAnyS _ _ _ _ _ _ _ _ _ _ wr.drew
    have HBd := Lib.hid HB1.out.drew
    have HFd := Lib.hid HF.out.drew
    obtain ⟨wd,hwd⟩ : ∃ q,wr.drew = q := ⟨_,rfl⟩
    rw [hwd] at HBd HFd HK ⊢
    clear hwd HB1 HF c9
    have hE0 : ∀ M : Array Bool,HeldS 13 (fun _ => True) (fun w' => Blk w' H #[.int .u32 (ix a1), .int .u32 (ix b1), .int .u32 (ix c1), .int .u32 (ix d1), .int .u32 (ix e1), .int .u32 (ix f1), .int .u32 (ix g1), .int .u32 (ix z1), .bool true, .string Q, .int .i64 (L : Int)] 141) M wd := fun M => ⟨trivial,fun _ => HBd.out⟩
    refine tkS 0 (.pointer (some ⟨H,0,none⟩)) rfl (hE0 _) (fun w' hS => ?_) ?_
    ·clear hS;go_simp
    try go_simp
    refine tkS 1 (.pointer (some ⟨H,0,none⟩)) rfl (hE0 _) (fun w' hS => ?_) ?_
    ·clear hS;go_simp
    try go_simp
    refine tkS 2 (.pointer (some ⟨H,0,none⟩)) rfl (hE0 _) (fun w' hS => ?_) ?_
    ·clear hS;go_simp
    try go_simp
    refine tkS 3 (.pointer (some ⟨H,0,none⟩)) rfl (hE0 _) (fun w' hS => ?_) ?_
    ·clear hS;go_simp
    try go_simp
    refine wpAnyS_take2 (i := 4) (v := .agg #[.int .u32 (ix a1), .int .u32 (ix b1), .int .u32 (ix c1), .int .u32 (ix d1), .int .u32 (ix e1), .int .u32 (ix f1), .int .u32 (ix g1), .int .u32 (ix z1)]) rfl (by decide) rfl (by kernel_rfl) (by kernel_rfl) (by kernel_rfl) (by kernel_rfl) (by kernel_rfl) (fun c a w h => h) (.inl ⟨by kernel_rfl,fun w' hS => ?_⟩) (hE0 _) ?_
    ·have x0 := hS.2.cell 0;have x1 := hS.2.cell 1;have x2 := hS.2.cell 2;have x3 := hS.2.cell 3;have x4 := hS.2.cell 4;have x5 := hS.2.cell 5;have x6 := hS.2.cell 6;have x7 := hS.2.cell 7;simp at x0 x1 x2 x3 x4 x5 x6 x7;go_simp
    try go_simp
    refine tkS 5 (.pointer (some ⟨H,0,none⟩)) rfl (hE0 _) (fun w' hS => ?_) ?_
    ·clear hS;go_simp
    try go_simp
    refine tkS 6 (.pointer (some ⟨H,0,none⟩)) rfl (hE0 _) (fun w' hS => ?_) ?_
    ·clear hS;go_simp
    try go_simp
    refine tkS 7 (.pointer (some ⟨H,9,none⟩)) rfl (hE0 _) (fun w' hS => ?_) ?_
    ·clear hS;go_simp
    try go_simp
    refine wpAnyS_take2 (i := 8) (v := .string Q) rfl (by decide) rfl (by kernel_rfl) (by kernel_rfl) (by kernel_rfl) (by kernel_rfl) (by kernel_rfl) (fun c a w h => h) (.inl ⟨by kernel_rfl,fun w' hS => ?_⟩) (hE0 _) ?_
    ·have x9 := hS.2.cell 9;simp at x9;go_simp
    try go_simp
    refine tkS 9 (.string G1) rfl (hE0 _) (fun w' hS => ?_) ?_
    ·clear hS;go_simp
    try go_simp
    refine alS 10 ?_
    unfold wpOp
    go_simp
    refine .inl ?_
    refine HK.out.mono ?_
    rintro e w2 ⟨rfl,hb2⟩
    have hB2 := HBd.out.below hb2
    have hF2 := HFd.out.trans (Frm.of_below [H] hb2) (fun y hy => .inl hy)
    have hE2 : ∀ M : Array Bool,HeldS 13 (fun _ => True) (fun w' => Blk w' H #[.int .u32 (ix a1), .int .u32 (ix b1), .int .u32 (ix c1), .int .u32 (ix d1), .int .u32 (ix e1), .int .u32 (ix f1), .int .u32 (ix g1), .int .u32 (ix z1), .bool true, .string Q, .int .i64 (L : Int)] 141) M w2 := fun M => ⟨trivial,fun _ => hB2⟩
    refine ⟨hE2 _, ?_⟩
    try go_simp
    have HB2 := Lib.hid hB2
    have HF2 := Lib.hid hF2
    clear hB2 hF2 hb2 hE0 HK HBd HFd
    refine tkS 11 (.pointer (some ⟨H,0,none⟩)) rfl (hE2 _) (fun w' hS => ?_) ?_
    ·clear hS;go_simp
    try go_simp
    refine tkS 12 (.pointer (some ⟨H,0,none⟩)) rfl (hE2 _) (fun w' hS => ?_) ?_
    ·clear hS;go_simp
    try go_simp
    refine alS 13 ?_
    refine wpOp_of rfl rfl (wp_store_mid (P := Tryz.prog) 139 (.tmp 53) (.tmp 51) rfl H 0 (wcells [a2,b2,c2,d2,e2,f2,g2,z2]) (by rfl) (by rfl) (hs_there HB2.out) info139n (wcells_one _) ?_)
    refine ⟨⟨trivial,fun e => by simp at e⟩, ?_⟩
    refine wpAnyS_done (by kernel_rfl) ?_ _
    obtain ⟨hB3,hF3⟩ := hs_store a2 b2 c2 d2 e2 f2 g2 z2 HB2.out
    obtain ⟨W3,hW3⟩ : ∃ q,w2.setCells H 0 (wcells [a2,b2,c2,d2,e2,f2,g2,z2]).toList = q := ⟨_,rfl⟩
    rw [hW3] at hB3 hF3 ⊢
    have hF4 := HF2.out.trans hF3 (fun y hy => .inl hy)
    have c9 := hB3.cell 9
    have f9 := hB3.frozen 9
    simp at c9
    have HB3 := Lib.hid hB3
    have HF4 := Lib.hid hF4
    clear hW3 hB3 hF3 hF4 HB2 HF2 hE2
    go_wp2
    go_roundw
    case rel =>
     refine ⟨HF4.out.setCell (p := ⟨H,9,none⟩) (.inl (List.mem_singleton.2 rfl)) _,k1 + 1,[a2,b2,c2,d2,e2,f2,g2,z2],by rw [HL.out.1];omega, ?_, ?_⟩
     ·rw [hashW, ← HL.out.2.2.2.2.2.2,HL.out.2.2.2.2.2.1,HL.out.2.1,HX2.out]
     ·have e1 : E.drop (64 * (k1 + 1)) = P.drop 64 := by rw [← HL.out.2.1,List.drop_drop];congr 1
      rw [e1]
      exact hs_start (HB3.out.set 9 _) HG.out.2 (by rw [HL.out.1])
    case measure =>
     have m1 := HL.out.2.2.2.2.1
     have m2 := restLen_at (r := P.drop 64) (show Blk (W3.setCell ⟨H,9,none⟩ (.string G2)) H #[.int .u32 (ix a2), .int .u32 (ix b2), .int .u32 (ix c2), .int .u32 (ix d2), .int .u32 (ix e2), .int .u32 (ix f2), .int .u32 (ix g2), .int .u32 (ix z2), .bool true, .string (mk (P.drop 64)), .int .i64 (L : Int)] 141 by rw [HG.out.2];exact HB3.out.set 9 _)
     rw [m1]
     refine Nat.lt_of_le_of_lt (Nat.le_of_eq m2) ?_
     rw [List.length_drop,HL.out.2.2.1]
     omega
   ·have hl64 : (l : Int) < 64 := by omega
    have hk64 : E.length / 64 = k1 := by rw [HL.out.1];omega
    have HK4 := Lib.hid hk64
    clear hk64
    go_wp2
    go_end0
    refine ⟨rfl,⟨v1,true, ?_,by rw [HL.out.2.2.2.2.2.1];rfl,(fun e => by cases e),(fun _ => by rw [HK4.out];exact HL.out.2.2.2.2.2.2)⟩,HF.out⟩
    rw [HL.out.2.2.2.2.2.1,HK4.out,hcells_eight,HL.out.2.1,HL.out.2.2.2.1,HL.out.1]
    exact HB1.out
open Go.RowKit
theorem noughts_any (k : Nat) (hk : k ≤ 512) (w : World) : Calls Tryz.prog 112 #[.string ⟨#[0]⟩, .int .i64 k] w fun e w' => e = .returned (.string (mk (List.replicate k 0))) ∧ Below w.heap.size w w' := by
 have K := Tryz.strings_Repeat ⟨#[0]⟩ k w (by omega) (by rw [show (ByteArray.size ⟨#[0]⟩) = 1 from rfl];omega)
 rw [show (⟨(Lib.repeatL (ByteArray.data ⟨#[0]⟩).toList k).toArray⟩ : ByteArray) = mk (List.replicate k 0) by
  rw [show (ByteArray.data ⟨#[0]⟩).toList = [0] from rfl,repeat_zero];rfl] at K
 exact K
theorem padded_any (d : Bs) (w : World) (h : d.length ≤ 512) : Calls Tryz.prog 101 #[.string (mk d)] w fun e w' => e = .returned (.string (mk (fullB d))) ∧ Below w.heap.size w w' := by
 have K := fun w => noughts_any (512 - d.length) (by omega) w
 rw [show ((512 - d.length : Nat) : Int) = 512 - (d.length : Int) by omega] at K
 have zd : (mk d).size = d.length := mk_size d
 have hsum := run_sum d (List.replicate (512 - d.length) 0) (by simp;omega)
 rw [show d ++ List.replicate (512 - d.length) 0 = fullB d from rfl] at hsum
 obtain ⟨X,hX⟩ : ∃ X,mk d = X := ⟨_,rfl⟩
 obtain ⟨Y,hY⟩ : ∃ X,mk (List.replicate (512 - d.length) 0) = X := ⟨_,rfl⟩
 obtain ⟨R,hR⟩ : ∃ X,mk (fullB d) = X := ⟨_,rfl⟩
 obtain ⟨k,hk⟩ : ∃ k,d.length = k := ⟨_,rfl⟩
 rw [hX,hk] at zd
 rw [hY,hk] at K
 rw [hX,hY,hR] at hsum
 rw [hX,hR]
 rw [hk] at h
 clear hX hY hR hk
 go_enter Tryz.func101,Tryz.ntmps101
 go_wp2_with (go_at_call 112;refine (K _).mono ?_;rintro e w1 ⟨rfl,hb⟩)
 go_wp2
 go_ret
 exact ⟨rfl,hb⟩
theorem dataAt_any (n : Nat) (w : World) (h : n ≤ 1000000) : Calls Tryz.prog 62 #[.int .i64 n] w fun e w' => e = .returned (.int .i64 ((n + 7 : Nat) : Int)) ∧ w' = w := by
 have h0 : (0 : Int) ≤ (n : Int) := by omega
 have h1 : (n : Int) ≤ 1000000 := by omega
 go_enter Tryz.func62,Tryz.ntmps62
 go_wp2
 go_ret
 refine ⟨?_,rfl⟩
 show Ending.returned (.int .i64 (2 + (n : Int) + 5)) = _
 rw [show 2 + (n : Int) + 5 = ((n + 7 : Nat) : Int) by omega]
theorem needs_any (n : Nat) (w : World) (h : n ≤ 1000000000) : Calls Tryz.prog 53 #[.int .i64 n] w fun e w' => e = .returned (.int .i64 (((n + 511) / 512 : Nat) : Int)) ∧ w' = w := by
 have h0 : (0 : Int) ≤ (n : Int) := by omega
 have h1 : (n : Int) ≤ 1000000000 := by omega
 have ht : ((n : Int) + 512 - 1).tdiv 512 = (((n + 511) / 512 : Nat) : Int) := by rw [Int.tdiv_eq_ediv_of_nonneg (by omega)];omega
 go_enter Tryz.func53,Tryz.ntmps53
 go_wp2
 go_ret
 exact ⟨rfl,rfl⟩
theorem conv_blk {w : World} {b c : Nat} {l : Bs} {cs : Array Value} (h : Blk w b cs 5) (hcs : ∀ j (hj : j < l.length),cs[j]? = some (.int .u8 (l[j].toNat : Int))) : (convert 64 9 (.slice (some ⟨b,0,none⟩) l.length c)).run Tryz.prog w = .ok (.string (mk l)) w :=
 run_convert_bytes_back (P := Tryz.prog) w 64 9 5 ⟨b,0,none⟩ c l Tryz.underlying64 Tryz.underlying5 Tryz.underlying9 (fun j hj => by
  rw [add_lit',Nat.zero_add,h.cell j];exact hcs j hj)
def twoB (n : Nat) : Bs := [UInt8.ofNat (n / 256),UInt8.ofNat n]
set_option maxRecDepth 100000 in
theorem two_any (n : Nat) (w : World) (h : n ≤ 1000000) : Calls Tryz.prog 102 #[.int .i64 n] w fun e w' => e = .returned (.string (mk (twoB n))) ∧ Below w.heap.size w w' := by
 have h0 : (0 : Int) ≤ (n : Int) := by omega
 have h1 : (n : Int) ≤ 1000000 := by omega
 have hcv : (convert 64 9 (.slice (some ⟨w.heap.size,0,none⟩) 2 2)).run Tryz.prog (w.alloc (.cells #[.int .u8 ((n : Int) / 256 % 256), .int .u8 ((n : Int) % 256)] 5)) = .ok (.string (mk (twoB n))) (w.alloc (.cells #[.int .u8 ((n : Int) / 256 % 256), .int .u8 ((n : Int) % 256)] 5)) :=
  conv_blk (l := twoB n) (Blk.new w #[.int .u8 ((n : Int) / 256 % 256), .int .u8 ((n : Int) % 256)] 5) (fun j hj => by
   have h2 : j < 2 := hj
   match j,h2 with
   | 0,_ => simp [twoB]
   | 1,_ => simp [twoB])
 obtain ⟨X,hX⟩ : ∃ X,mk (twoB n) = X := ⟨_,rfl⟩
 rw [hX] at hcv ⊢
 clear hX
 go_enter Tryz.func102,Tryz.ntmps102
 go_wp2
 go_ret
 exact ⟨rfl,below_alloc _ _⟩
def headB (s f : Nat) : Bs := fullB ([83,70] ++ twoB s ++ twoB f)
set_option maxRecDepth 100000 in
theorem head_any (s f : Nat) (w : World) (hs : s ≤ 1000000) (hf : f ≤ 1000000) : Calls Tryz.prog 63 #[.int .i64 s, .int .i64 f] w fun e w' => e = .returned (.string (mk (headB s f))) ∧ Below w.heap.size w w' := by
 have K1 := fun w => two_any s w hs
 have K2 := fun w => two_any f w hf
 have KP := fun w => padded_any ([83,70] ++ twoB s ++ twoB f) w (by simp [twoB])
 have s1 := run_sum [83,70] (twoB s) (by simp [twoB])
 have s2 := run_sum ([83,70] ++ twoB s) (twoB f) (by simp [twoB])
 rw [show mk [83,70] = ⟨#[83,70]⟩ from rfl] at s1
 have hh : fullB ([83,70] ++ twoB s ++ twoB f) = headB s f := rfl
 rw [hh] at KP
 obtain ⟨A,hA⟩ : ∃ X,mk (twoB s) = X := ⟨_,rfl⟩
 obtain ⟨B,hB⟩ : ∃ X,mk (twoB f) = X := ⟨_,rfl⟩
 obtain ⟨C,hC⟩ : ∃ X,mk ([83,70] ++ twoB s) = X := ⟨_,rfl⟩
 obtain ⟨D,hD⟩ : ∃ X,mk ([83,70] ++ twoB s ++ twoB f) = X := ⟨_,rfl⟩
 obtain ⟨R,hR⟩ : ∃ X,mk (headB s f) = X := ⟨_,rfl⟩
 rw [hA] at K1 s1
 rw [hB] at K2 s2
 rw [hC] at s1 s2
 rw [hD] at s2 KP
 rw [hR] at KP ⊢
 clear hA hB hC hD hR hh
 go_enter Tryz.func63,Tryz.ntmps63
 go_wp2_with (first
  | (go_at_call 102;(with_reducible refine (K1 _).mono ?_);rintro e w1 ⟨rfl,hb1⟩)
  | (go_at_call 102;(with_reducible refine (K2 _).mono ?_);rintro e w2 ⟨rfl,hb2⟩)
  | (go_at_call 101;refine (KP _).mono ?_;rintro e w3 ⟨rfl,hb3⟩))
 go_wp2
 go_ret
 exact ⟨rfl,(hb1.trans (hb2.mono hb1.size)).trans (hb3.mono (Nat.le_trans hb1.size hb2.size))⟩
def be (n : Nat) : Nat → Bs
 | 0 => []
 | k + 1 => be (n / 256) k ++ [UInt8.ofNat n]
def kOf (n : Nat) : Nat := Nat.log2 n / 7
def pre (k : Nat) : Nat := 256 - 2 ^ (8 - k)
def putB (n : Nat) : Bs := UInt8.ofNat (pre (kOf n) + n / 256 ^ kOf n) :: be n (kOf n)
theorem be_length (k : Nat) : ∀ n,(be n k).length = k := by
 induction k with
 | zero => intro n;rfl
 | succ k ih => intro n;simp [be,ih]
theorem be_cons (k : Nat) : ∀ n,be n (k + 1) = UInt8.ofNat (n / 256 ^ k) :: be n k := by
 induction k with
 | zero => intro n;simp [be]
 | succ k ih =>
  intro n
  rw [be,ih,be,List.cons_append,Nat.div_div_eq_div_mul,Nat.pow_succ,Nat.mul_comm 256]
def num (a : Nat) (l : Bs) : Nat := l.foldl (fun n c => n * 256 + c.toNat) a
theorem kOf_lt (n : Nat) : n < 128 ^ (kOf n + 1) := by
 unfold kOf
 rcases Nat.eq_zero_or_pos n with h | h
 ·subst h;exact Nat.pos_of_ne_zero (by simp)
 ·have h1 := Nat.lt_log2_self (n := n)
  have h2 : n.log2 + 1 ≤ 7 * (n.log2 / 7 + 1) := by omega
  calc n < 2 ^ (n.log2 + 1) := h1
   _ ≤ 2 ^ (7 * (n.log2 / 7 + 1)) := Nat.pow_le_pow_right (by omega) h2
   _ = 128 ^ (n.log2 / 7 + 1) := by rw [Nat.pow_mul]
theorem kOf_ge (n : Nat) (h : 0 < kOf n) : 128 ^ kOf n ≤ n := by
 unfold kOf at *
 have hn : n ≠ 0 := by rintro rfl;simp at h
 have h1 := Nat.log2_self_le hn
 calc 128 ^ (n.log2 / 7) = 2 ^ (7 * (n.log2 / 7)) := by rw [Nat.pow_mul]
  _ ≤ 2 ^ n.log2 := Nat.pow_le_pow_right (by omega) (by omega)
  _ ≤ n := h1
theorem kOf_le (n : Nat) (h : n ≤ 1099511627776) : kOf n ≤ 5 := by
 rcases Nat.lt_or_ge 5 (kOf n) with h1 | h1
 ·have h2 := kOf_ge n (by omega)
  have h3 : 128 ^ 6 ≤ 128 ^ kOf n := Nat.pow_le_pow_right (by omega) h1
  have h4 : (128 : Nat) ^ 6 = 4398046511104 := rfl
  omega
 ·exact h1
theorem top_lt (n : Nat) (h : n ≤ 1099511627776) : n / 256 ^ kOf n < 2 ^ (7 - kOf n) := by
 have h1 := kOf_lt n
 have h2 := kOf_le n h
 rw [Nat.div_lt_iff_lt_mul (Nat.pos_of_ne_zero (by simp))]
 have h3 : kOf n = 0 ∨ kOf n = 1 ∨ kOf n = 2 ∨ kOf n = 3 ∨ kOf n = 4 ∨ kOf n = 5 := by omega
 rcases h3 with e | e | e | e | e | e <;> rw [e] at h1 ⊢ <;> simpa using h1
def lead1 (c : UInt8) : Nat := if c.toNat < 128 then 0 else if c.toNat < 192 then 1 else if c.toNat < 224 then 2 else if c.toNat < 240 then 3 else if c.toNat < 248 then 4 else if c.toNat < 252 then 5 else if c.toNat < 254 then 6 else if c.toNat < 255 then 7 else 8
def getB (s : Bs) : Nat × Nat × Nat :=
 match s with
 | [] => (0,0,3)
 | c :: r => if 5 < lead1 c then (0,0,2) else if r.length < lead1 c then (0,0,3) else
  if 1099511627776 < num (c.toNat % 2 ^ (8 - lead1 c)) (r.take (lead1 c)) ∨ kOf (num (c.toNat % 2 ^ (8 - lead1 c)) (r.take (lead1 c))) ≠ lead1 c then (0,0,2)
  else (num (c.toNat % 2 ^ (8 - lead1 c)) (r.take (lead1 c)),lead1 c + 1,0)
theorem putB_length (n : Nat) : (putB n).length = kOf n + 1 := by simp [putB,be_length]
def nextB (s : Bs) : Bs × Nat × Nat :=
 match getB s with
 | (n,k,e) => if e ≠ 0 then ([],0,e) else if 262144 < n then ([],0,6) else if s.length < n + k then ([],0,3) else ((s.drop k).take n,k + n,0)
def joinB (l : List Bs) : Bs := l.flatMap fun t => putB t.length ++ t
theorem joinB_nil : joinB [] = [] := rfl
theorem joinB_cons (t : Bs) (l : List Bs) : joinB (t :: l) = putB t.length ++ (t ++ joinB l) := by simp [joinB]
theorem joinB_snoc (l : List Bs) (t : Bs) : joinB (l ++ [t]) = joinB l ++ putB t.length ++ t := by simp [joinB]
inductive SplitR : Bs → List Bs → Nat → Prop
 | nil : SplitR [] [] 0
 | err {s t k e} (h : s ≠ []) (hn : nextB s = (t,k,e)) (he : e ≠ 0) : SplitR s [] e
 | step {s t k l} (h : s ≠ []) (hn : nextB s = (t,k,0)) (hl : SplitR (s.drop k) l 0) : SplitR s (t :: l) 0
 | late {s t k e} (h : s ≠ []) (hn : nextB s = (t,k,0)) (hl : SplitR (s.drop k) [] e) (he : e ≠ 0) : SplitR s [] e
open Go.RowKit
theorem ret_i64 {a b : Int} (h : a = b) : Ending.returned (.int .i64 a) = .returned (.int .i64 b) := by rw [h]
theorem bitLenAux_log : ∀ (f x : Nat),0 < x → x < 2 ^ f → Lib.bitLenAux f x = Nat.log2 x + 1 := by
 intro f
 induction f with
 | zero => intro x h0 h1;simp at h1;omega
 | succ f ih =>
  intro x h0 h1
  rw [Lib.bitLenAux,if_neg (by omega),Nat.log2_def]
  by_cases h2 : 2 ≤ x
  ·rw [if_pos h2,ih (x / 2) (by omega) (by rw [Nat.pow_succ] at h1;omega)]
   omega
  ·have : x = 1 := by omega
   subst this
   rw [if_neg (by omega)]
   have : Lib.bitLenAux f (1 / 2) = 0 := by cases f <;> simp [Lib.bitLenAux]
   omega
theorem bitLen_log (x : Nat) (h0 : 0 < x) (h1 : x ≤ 9223372036854775807) : Lib.bitLen x = Nat.log2 x + 1 ∧ Nat.log2 x < 63 := by
 refine ⟨bitLenAux_log 64 x h0 (by omega), ?_⟩
 exact (Nat.log2_lt (by omega)).2 (by omega)
theorem behind_any (n : Nat) (w : World) (h : n ≤ 9223372036854775807) : Calls Tryz.prog 145 #[.int .i64 n] w fun e w' => e = .returned (.int .i64 (kOf n)) ∧ w = w' := by
 have KL := Tryz.bits_Len (n : Int) w (by omega) (by omega)
 rw [Int.toNat_natCast] at KL
 have n0 : (0 : Int) ≤ (n : Int) := by omega
 have n1 : (n : Int) ≤ 9223372036854775807 := by omega
 rcases Nat.eq_zero_or_pos n with hz | hp
 ·subst hz
  have hL : Lib.bitLen 0 = 0 := by decide
  rw [hL] at KL
  clear hL
  go_enter Tryz.func145,Tryz.ntmps145
  go_wp2_with (go_at_call 152;refine KL.mono ?_;rintro e w' ⟨rfl,rfl⟩)
  go_ret
  exact ⟨rfl,rfl⟩
 ·obtain ⟨hL,hlog⟩ := bitLen_log n hp h
  rw [hL] at KL
  obtain ⟨L,hLL⟩ : ∃ L,Nat.log2 n = L := ⟨_,rfl⟩
  have HK : Hid (kOf n = L / 7) := Lib.hid (by unfold kOf;rw [hLL])
  rw [hLL] at KL hlog
  clear hL hLL
  have l0 : (0 : Int) ≤ (L : Int) := by omega
  have l1 : (L : Int) < 63 := by omega
  go_enter Tryz.func145,Tryz.ntmps145
  go_wp2_with (go_at_call 152;refine KL.mono ?_;rintro e w' ⟨rfl,rfl⟩)
  go_ret
  exact ⟨ret_i64 (by rw [HK.out];omega),rfl⟩
def Bl (w : World) (b : Nat) (cs : Array Value) (e : TypeId) : Prop := w.heap[b]? = some (.cells cs e (0,0))
theorem Bl.cell {w : World} {b : Nat} {cs : Array Value} {e : TypeId} (h : Bl w b cs e) (i : Nat) : w.cell? ⟨b,i,none⟩ = cs[i]? := by
 unfold Bl at h
 unfold World.cell?;rw [h];simp
theorem Bl.frozen {w : World} {b : Nat} {cs : Array Value} {e : TypeId} (h : Bl w b cs e) (i : Nat) : w.frozen? ⟨b,i,none⟩ = false := by
 unfold Bl at h
 unfold World.frozen?;rw [h];simp
theorem Bl.set {w : World} {b : Nat} {cs : Array Value} {e : TypeId} (h : Bl w b cs e) (i : Nat) (v : Value) : Bl (w.setCell ⟨b,i,none⟩ v) b (cs.setIfInBounds i v) e := by
 unfold Bl at h ⊢
 show (w.heap.modify b _)[b]? = _
 rw [Array.getElem?_modify,if_pos rfl,h];simp
theorem Bl.lt {w : World} {b : Nat} {cs : Array Value} {e : TypeId} (h : Bl w b cs e) : b < w.heap.size := (Array.getElem?_eq_some_iff.1 h).1
theorem Bl.below {w w' : World} {b : Nat} {cs : Array Value} {e : TypeId} (h : Bl w b cs e) (hb : Below w.heap.size w w') : Bl w' b cs e := (hb.block b h.lt).trans h
theorem Bl.new (w : World) (cs : Array Value) (e : TypeId) : Bl (w.alloc (.cells cs e)) w.heap.size cs e := heap_alloc_new w _
theorem Bl.alloc {w : World} {b : Nat} {cs : Array Value} {e : TypeId} (h : Bl w b cs e) (o : Obj) : Bl (w.alloc o) b cs e := (heap_alloc_old w o h.lt).trans h
theorem Bl.drew {w : World} {b : Nat} {cs : Array Value} {e : TypeId} (h : Bl w b cs e) : Bl w.drew b cs e := h
theorem Bl.other {w : World} {b X : Nat} {cs : Array Value} {e : TypeId} (h : Bl w b cs e) (hne : b ≠ X) (i : Nat) (v : Value) : Bl (w.setCell ⟨X,i,none⟩ v) b cs e := (Below.heap_setCell w ⟨X,i,none⟩ v b hne).trans h
theorem be_zeros (k : Nat) (n : Nat) (j : Nat) (h : j ≤ k) : ((List.replicate (k + 1 - j) (0 : UInt8) ++ be n j).set (k - j) (UInt8.ofNat (n / 256 ^ j))) = List.replicate (k + 1 - (j + 1)) 0 ++ be n (j + 1) := by
 have e : k + 1 - j = (k - j) + 1 := by omega
 rw [e,show k + 1 - (j + 1) = k - j by omega,be_cons,List.replicate_succ',List.append_assoc,List.set_append_right _ _ (by simp)]
 simp
def bcells (l : Bs) : List Value := l.map fun c => .int .u8 (c.toNat : Int)
theorem byte_int (N : Nat) : (N : Int) % 256 = ((UInt8.ofNat N).toNat : Int) := by rw [UInt8.toNat_ofNat'];omega
theorem bcells_set (l : Bs) (i : Nat) (c : UInt8) : (bcells l).toArray.setIfInBounds i (.int .u8 (c.toNat : Int)) = (bcells (l.set i c)).toArray := by
 simp [bcells,List.map_set]
theorem or_pre0 (x : Nat) (h : x < 2 ^ (7 - 0)) : (bits BinOp.or IntKind.u8 (x : Int) (bits BinOp.xor IntKind.u8 (if IntKind.u8.signed = true then -1 else IntKind.u8.max) 255)) = ((pre 0 : Nat) : Int) + (x : Int) :=
 (by decide +kernel : ∀ y : Fin 128,(bits BinOp.or IntKind.u8 (y.val : Int) (bits BinOp.xor IntKind.u8 (if IntKind.u8.signed = true then -1 else IntKind.u8.max) 255)) = ((pre 0 : Nat) : Int) + (y.val : Int)) ⟨x,h⟩
theorem or_pre1 (x : Nat) (h : x < 2 ^ (7 - 1)) : (bits BinOp.or IntKind.u8 (x : Int) (bits BinOp.xor IntKind.u8 (if IntKind.u8.signed = true then -1 else IntKind.u8.max) 127)) = ((pre 1 : Nat) : Int) + (x : Int) :=
 (by decide +kernel : ∀ y : Fin 64,(bits BinOp.or IntKind.u8 (y.val : Int) (bits BinOp.xor IntKind.u8 (if IntKind.u8.signed = true then -1 else IntKind.u8.max) 127)) = ((pre 1 : Nat) : Int) + (y.val : Int)) ⟨x,h⟩
theorem or_pre2 (x : Nat) (h : x < 2 ^ (7 - 2)) : (bits BinOp.or IntKind.u8 (x : Int) (bits BinOp.xor IntKind.u8 (if IntKind.u8.signed = true then -1 else IntKind.u8.max) 63)) = ((pre 2 : Nat) : Int) + (x : Int) :=
 (by decide +kernel : ∀ y : Fin 32,(bits BinOp.or IntKind.u8 (y.val : Int) (bits BinOp.xor IntKind.u8 (if IntKind.u8.signed = true then -1 else IntKind.u8.max) 63)) = ((pre 2 : Nat) : Int) + (y.val : Int)) ⟨x,h⟩
theorem or_pre3 (x : Nat) (h : x < 2 ^ (7 - 3)) : (bits BinOp.or IntKind.u8 (x : Int) (bits BinOp.xor IntKind.u8 (if IntKind.u8.signed = true then -1 else IntKind.u8.max) 31)) = ((pre 3 : Nat) : Int) + (x : Int) :=
 (by decide +kernel : ∀ y : Fin 16,(bits BinOp.or IntKind.u8 (y.val : Int) (bits BinOp.xor IntKind.u8 (if IntKind.u8.signed = true then -1 else IntKind.u8.max) 31)) = ((pre 3 : Nat) : Int) + (y.val : Int)) ⟨x,h⟩
theorem or_pre4 (x : Nat) (h : x < 2 ^ (7 - 4)) : (bits BinOp.or IntKind.u8 (x : Int) (bits BinOp.xor IntKind.u8 (if IntKind.u8.signed = true then -1 else IntKind.u8.max) 15)) = ((pre 4 : Nat) : Int) + (x : Int) :=
 (by decide +kernel : ∀ y : Fin 8,(bits BinOp.or IntKind.u8 (y.val : Int) (bits BinOp.xor IntKind.u8 (if IntKind.u8.signed = true then -1 else IntKind.u8.max) 15)) = ((pre 4 : Nat) : Int) + (y.val : Int)) ⟨x,h⟩
theorem or_pre5 (x : Nat) (h : x < 2 ^ (7 - 5)) : (bits BinOp.or IntKind.u8 (x : Int) (bits BinOp.xor IntKind.u8 (if IntKind.u8.signed = true then -1 else IntKind.u8.max) 7)) = ((pre 5 : Nat) : Int) + (x : Int) :=
 (by decide +kernel : ∀ y : Fin 4,(bits BinOp.or IntKind.u8 (y.val : Int) (bits BinOp.xor IntKind.u8 (if IntKind.u8.signed = true then -1 else IntKind.u8.max) 7)) = ((pre 5 : Nat) : Int) + (y.val : Int)) ⟨x,h⟩
theorem pre_lt (k x : Nat) (hk : k ≤ 5) (h : x < 2 ^ (7 - k)) : pre k + x < 256 := by
 have h5 : k = 0 ∨ k = 1 ∨ k = 2 ∨ k = 3 ∨ k = 4 ∨ k = 5 := by omega
 unfold pre
 rcases h5 with rfl | rfl | rfl | rfl | rfl | rfl <;> simp only [Nat.reducePow,Nat.reduceSub] at h ⊢ <;> omega
set_option maxRecDepth 100000 in
theorem conv_bl {w : World} {b n k x : Nat} (h : Bl w b ((bcells (UInt8.ofNat x :: be n k)).toArray.setIfInBounds 0 (.int .u8 (((pre k : Nat) : Int) + (x : Int)))) 5) (hk : k = kOf n) (hx : x = n / 256 ^ kOf n) (hl : pre (kOf n) + n / 256 ^ kOf n < 256) (l c : Nat) (hlen : l = kOf n + 1) :
  (convert 64 9 (.slice (some ⟨b,0,none⟩) l c)).run Tryz.prog w = .ok (.string (mk (putB n))) w := by
 subst hk
 subst hx
 have e : (bcells (UInt8.ofNat (n / 256 ^ kOf n) :: be n (kOf n))).toArray.setIfInBounds 0 (.int .u8 (((pre (kOf n) : Nat) : Int) + ((n / 256 ^ kOf n : Nat) : Int))) = (bcells (putB n)).toArray := by
  rw [show ((pre (kOf n) : Nat) : Int) + ((n / 256 ^ kOf n : Nat) : Int) = ((UInt8.ofNat (pre (kOf n) + n / 256 ^ kOf n)).toNat : Int) by rw [UInt8.toNat_ofNat',Nat.mod_eq_of_lt hl];omega,bcells_set]
  rfl
 rw [e] at h
 rw [hlen, ← putB_length]
 exact run_convert_bytes_back (P := Tryz.prog) w 64 9 5 ⟨b,0,none⟩ c (putB n) Tryz.underlying64 Tryz.underlying5 Tryz.underlying9 (fun j hj => by
  rw [Go.Lib.add_plain,Nat.zero_add,h.cell j]
  simp [bcells,hj])
theorem made_zero (m : Nat) : madeCells (Value.int .u8 0).cells m = (bcells (List.replicate m 0)).toArray := by
 refine Array.ext (by simp [madeCells,bcells]) fun i h1 h2 => ?_
 simp [madeCells,bcells,Value.cells,Nat.mod_one]
theorem info5n : (Tryz.prog.info? 5).map (fun i => (i.zero,i.size,i.bytes)) = some (some (.int .u8 0),1,1) := by kernel_rfl
set_option maxRecDepth 100000 in
set_option maxHeartbeats 4000000 in
theorem put_any (n : Nat) (w : World) (h : n ≤ 1099511627776) : Calls Tryz.prog 117 #[.int .i64 n] w fun e w' => e = .returned (.string (mk (putB n))) ∧ Below w.heap.size w w' := by
 obtain ⟨i5,hi5,hz0,hz1,hz2⟩ := info_parts info5n
 have KB := behind_any n w (by omega)
 have hk5 := kOf_le n h
 obtain ⟨k,hk⟩ : ∃ k,kOf n = k := ⟨_,rfl⟩
 rw [hk] at KB hk5
 have HK := Lib.hid hk
 have n0 : (0 : Int) ≤ (n : Int) := by omega
 have n1 : (n : Int) ≤ 1099511627776 := by omega
 have k0 : (0 : Int) ≤ (k : Int) := by omega
 have k5 : (k : Int) ≤ 5 := by omega
 have hmk := run_make (P := Tryz.prog) w 64 5 i5 _ Tryz.underlying64 hi5 hz0 .i64 .i64 ((k : Int) + 1) ((k : Int) + 1) (by omega) (by omega) (by rw [hz2];omega) (by omega)
 have hN1 : ((k : Int) + 1).toNat = k + 1 := by omega
 rw [hN1,hz1,Nat.mul_one] at hmk
 have hcs := made_zero (k + 1)
 rw [hcs] at hmk
 have hB0 := Bl.new w (bcells (List.replicate (k + 1) 0)).toArray 5
 have hb0 := below_alloc w (.cells (bcells (List.replicate (k + 1) 0)).toArray 5)
 obtain ⟨b,hb⟩ : ∃ b,w.heap.size = b := ⟨_,rfl⟩
 have HBB := Lib.hid hb
 obtain ⟨W,hW⟩ : ∃ W,w.alloc (.cells (bcells (List.replicate (k + 1) 0)).toArray 5) = W := ⟨_,rfl⟩
 rw [hW] at hmk hB0 hb0
 rw [hb] at hmk hB0 hb0 ⊢
 have HB0 := Lib.hid hB0
 have Hb0 := Lib.hid hb0
 clear hcs hN1 hb hW hk hB0 hb0
 go_enter Tryz.func117,Tryz.ntmps117
 go_wp2_with (go_at_call 145;refine KB.mono ?_;rintro e w' ⟨rfl,rfl⟩)
 go_loopw [0,5] (fun nv iv wr => ∃ j : Nat,j ≤ k + 1 ∧ nv = .int .i64 ((n / 256 ^ j : Nat) : Int) ∧ iv = .int .i64 ((k : Int) - (j : Int)) ∧ Bl wr b (bcells (List.replicate (k + 1 - j) 0 ++ be n j)).toArray 5 ∧ Below b w wr) (fun _ iv _ => (intOf iv + 1).toNat)
 case atStart => exact ⟨0,by omega,by simp,by go_num,by simpa [be] using HB0.out,Hb0.out⟩
 case round =>
  obtain ⟨j,hj,rfl,rfl,hB,hb⟩ := hrel
  clear hmk HB0 Hb0
  rcases Nat.lt_or_ge k j with hge | hlt
  ·obtain rfl : j = k + 1 := by omega
   rw [Nat.sub_self,List.replicate_zero,List.nil_append,be_cons] at hB
   have htop := top_lt n h
   rw [HK.out] at htop
   obtain ⟨x,hx⟩ : ∃ x,n / 256 ^ k = x := ⟨_,rfl⟩
   have HX := Lib.hid hx
   rw [hx] at hB htop
   have hx7 : (UInt8.ofNat x).toNat = x := by
    have : 2 ^ (7 - k) ≤ 128 := by
     have := Nat.pow_le_pow_right (n := 2) (by omega) (show 7 - k ≤ 7 by omega)
     simpa using this
    rw [UInt8.toNat_ofNat'];omega
   have hc := hB.cell 0
   have hf := hB.frozen 0
   have e0 : (bcells (UInt8.ofNat x :: be n k)).toArray[0]? = some (.int .u8 (x : Int)) := by simp [bcells,hx7]
   rw [e0] at hc
   have HB := Lib.hid hB
   have Hb := Lib.hid hb
   have HK5 := Lib.hid hk5
   have Htop := Lib.hid htop
   obtain ⟨y,hy⟩ : ∃ y,n / 256 ^ (k + 1) = y := ⟨_,rfl⟩
   rw [hy]
   have kk : k = 0 ∨ k = 1 ∨ k = 2 ∨ k = 3 ∨ k = 4 ∨ k = 5 := by omega
   clear hx hx7 e0 hB hb htop hy
   rcases kk with rfl | rfl | rfl | rfl | rfl | rfl
   ·have hV := or_pre0 x Htop.out
    go_wp2
    go_region
    have hBf := (HB.out.set 0 (.int .u8 (((pre 0 : Nat) : Int) + (x : Int)))).drew
    have hcv := conv_bl (n := n) hBf (by rw [HK.out]) (by rw [HK.out,HX.out]) (by rw [HK.out,HX.out];exact pre_lt 0 x (by omega) Htop.out) 1 1 (by rw [HK.out])
    go_wp2
    go_ret
    exact ⟨rfl,(Hb.out.setCell (p := ⟨b,0,none⟩) (Nat.le_refl _) _).drew⟩
   ·have hV := or_pre1 x Htop.out
    go_wp2
    go_region
    have hBf := (HB.out.set 0 (.int .u8 (((pre 1 : Nat) : Int) + (x : Int)))).drew
    have hcv := conv_bl (n := n) hBf (by rw [HK.out]) (by rw [HK.out,HX.out]) (by rw [HK.out,HX.out];exact pre_lt 1 x (by omega) Htop.out) 2 2 (by rw [HK.out])
    go_wp2
    go_ret
    exact ⟨rfl,(Hb.out.setCell (p := ⟨b,0,none⟩) (Nat.le_refl _) _).drew⟩
   ·have hV := or_pre2 x Htop.out
    go_wp2
    go_region
    have hBf := (HB.out.set 0 (.int .u8 (((pre 2 : Nat) : Int) + (x : Int)))).drew
    have hcv := conv_bl (n := n) hBf (by rw [HK.out]) (by rw [HK.out,HX.out]) (by rw [HK.out,HX.out];exact pre_lt 2 x (by omega) Htop.out) 3 3 (by rw [HK.out])
    go_wp2
    go_ret
    exact ⟨rfl,(Hb.out.setCell (p := ⟨b,0,none⟩) (Nat.le_refl _) _).drew⟩
   ·have hV := or_pre3 x Htop.out
    go_wp2
    go_region
    have hBf := (HB.out.set 0 (.int .u8 (((pre 3 : Nat) : Int) + (x : Int)))).drew
    have hcv := conv_bl (n := n) hBf (by rw [HK.out]) (by rw [HK.out,HX.out]) (by rw [HK.out,HX.out];exact pre_lt 3 x (by omega) Htop.out) 4 4 (by rw [HK.out])
    go_wp2
    go_ret
    exact ⟨rfl,(Hb.out.setCell (p := ⟨b,0,none⟩) (Nat.le_refl _) _).drew⟩
   ·have hV := or_pre4 x Htop.out
    go_wp2
    go_region
    have hBf := (HB.out.set 0 (.int .u8 (((pre 4 : Nat) : Int) + (x : Int)))).drew
    have hcv := conv_bl (n := n) hBf (by rw [HK.out]) (by rw [HK.out,HX.out]) (by rw [HK.out,HX.out];exact pre_lt 4 x (by omega) Htop.out) 5 5 (by rw [HK.out])
    go_wp2
    go_ret
    exact ⟨rfl,(Hb.out.setCell (p := ⟨b,0,none⟩) (Nat.le_refl _) _).drew⟩
   ·have hV := or_pre5 x Htop.out
    go_wp2
    go_region
    have hBf := (HB.out.set 0 (.int .u8 (((pre 5 : Nat) : Int) + (x : Int)))).drew
    have hcv := conv_bl (n := n) hBf (by rw [HK.out]) (by rw [HK.out,HX.out]) (by rw [HK.out,HX.out];exact pre_lt 5 x (by omega) Htop.out) 6 6 (by rw [HK.out])
    go_wp2
    go_ret
    exact ⟨rfl,(Hb.out.setCell (p := ⟨b,0,none⟩) (Nat.le_refl _) _).drew⟩
  ·obtain ⟨I,hI⟩ : ∃ I,k - j = I := ⟨_,rfl⟩
   have hkj : (k : Int) - (j : Int) = (I : Int) := by omega
   rw [hkj]
   have hd : n / 256 ^ (j + 1) = n / 256 ^ j / 256 := by rw [Nat.pow_succ,Nat.div_div_eq_div_mul]
   have hNle : n / 256 ^ j ≤ n := Nat.div_le_self _ _
   have hz := be_zeros k n j hlt
   rw [hI] at hz
   obtain ⟨N,hN⟩ : ∃ N,n / 256 ^ j = N := ⟨_,rfl⟩
   rw [hN] at hd hz hNle ⊢
   have hc := hB.cell I
   have hf := hB.frozen I
   have hc0 : ∃ x,(bcells (List.replicate (k + 1 - j) 0 ++ be n j)).toArray[I]? = some x := by
    have : I < (bcells (List.replicate (k + 1 - j) 0 ++ be n j)).toArray.size := by simp [bcells];omega
    exact ⟨_,Array.getElem?_eq_getElem this⟩
   obtain ⟨x0,hx0⟩ := hc0
   rw [hx0] at hc
   have HD := Lib.hid hd
   have HZ := Lib.hid hz
   have HB := Lib.hid hB
   have Hb := Lib.hid hb
   have i0 : (0 : Int) ≤ (I : Int) := by omega
   have i1 : (I : Int) < (k : Int) + 1 := by omega
   have N0 : (0 : Int) ≤ (N : Int) := by omega
   have N1 : (N : Int) ≤ 1099511627776 := by omega
   clear hd hz hN hB hb hx0 hkj hNle
   go_wp2
   go_roundw
   case rel =>
    refine ⟨j + 1,by omega,congrArg _ (by rw [HD.out];omega),congrArg _ (by omega), ?_,Hb.out.setCell (p := ⟨b,I,none⟩) (Nat.le_refl _) _⟩
    rw [← HZ.out, ← bcells_set, ← show (N : Int) % 256 = ((UInt8.ofNat N).toNat : Int) from byte_int N]
    exact HB.out.set I _
   case measure => simp [intOf]
open Go.RowKit
theorem info141n : (Tryz.prog.info? 141).map (·.size) = some 11 := by kernel_rfl
theorem hcells_size (v : List Wd32) (b : Bool) (r : Bs) (n : Nat) (h : v.length = 8) : (hcells v b r n).size = 11 := by simp [hcells,wcells,h]
theorem hcells_one (v : List Wd32) (b : Bool) (r : Bs) (n : Nat) : (hcells v b r n).all (·.oneCell') = true := by
 rw [Array.all_eq_true_iff_forall_mem]
 intro u hu
 rcases Array.mem_append.1 hu with hu | hu
 ·exact (Array.all_eq_true_iff_forall_mem.1 (wcells_one v)) u hu
 ·simp only [List.mem_toArray,List.mem_cons,List.not_mem_nil,or_false] at hu
  rcases hu with rfl | rfl | rfl <;> rfl
theorem hcells_all (v : List Wd32) (b : Bool) (r : Bs) (n : Nat) (h : v.length = 8) : (hcells v b r n)[10]? = some (.int .i64 (n : Int)) := by
 obtain ⟨a,b1,c,d,e,f,g,z,rfl⟩ := list8 v h
 rw [hcells_eight];rfl
def tail1 (n : Nat) : Bs := 128 :: List.replicate ((119 - n % 64) % 64) 0
def tail2 (n : Nat) : Bs := (List.range 8).map fun i => UInt8.ofNat (n * 8 / 256 ^ (7 - i))
theorem tails (n : Nat) : tail1 n ++ tail2 n = tailW n := rfl
theorem run_index139 (A : Array Value) (i : Nat) (z : Int) (w : World) (hi : i < 8) (hk : A[i]? = some (.int .u32 z)) : Sem.run Tryz.prog (Instr.index 139 (.agg A) (.int .i64 (i : Int))) w = .ok (.int .u32 z) w := by
 unfold Instr.index
 simp [go_sem,Sem.run_bind,run_underlying Tryz.underlying139,Tryz.sizeOf137]
 rw [if_pos hi,hk]
 rfl
theorem bytes_ix (y : Wd32) : bcells (bytesW y) = [.int .u8 (ix y / 16777216), .int .u8 (ix y / 65536 % 256), .int .u8 (ix y / 256 % 256), .int .u8 (ix y % 256)] := by
 have h := y.isLt
 simp [bcells,bytesW,ix,UInt8.toNat_ofNat']
 omega
theorem HsAt.range {w : World} {H : Nat} {E : Bs} (h : HsAt w H E) (hE : E ≠ []) : w.rangeAt H 0 (wcells (hashW firstW E (E.length / 64))).toList := by
 obtain ⟨v,b,h1,h2,h3,h4⟩ := h
 cases b with
 | false => exact absurd (h3 rfl) hE
 | true =>
  rw [← h4 rfl]
  intro j u hu
  rw [Nat.zero_add,h1.cell]
  unfold hcells
  rw [Array.getElem?_append]
  have hl := (List.getElem?_eq_some_iff.1 hu).1
  rw [if_pos (by simpa using hl)]
  simpa using hu
theorem HsAt.frm {w w' : World} {X : List Nat} {H : Nat} {D : Bs} (h : HsAt w H D) (hf : Frm X w w') (hx : H ∉ X) : HsAt w' H D := by
 obtain ⟨v,b,h1,h2⟩ := h
 exact ⟨v,b,hf.blk h1 hx,h2⟩
def nfill (n i : Nat) : Bs := (tail2 n).take i ++ List.replicate (8 - i) 0
theorem nfill_at (n i : Nat) (h : i < 8) : (bcells (nfill n i)).toArray[i]? = some (.int .u8 0) := by
 have : (nfill n i)[i]? = some 0 := by
  unfold nfill
  have hl : (List.take i (tail2 n)).length = i := by rw [List.length_take];simp [tail2];omega
  rw [List.getElem?_append_right (by omega),hl,Nat.sub_self,List.getElem?_replicate,if_pos (by omega)]
 simp [bcells,this]
theorem or_low (a y : Nat) (ha : a < 32) (hy : y < 8) : bits .or .u8 ((a * 8 : Nat) : Int) (y : Int) = ((a * 8 + y : Nat) : Int) :=
 (by decide +kernel : ∀ (a : Fin 32) (y : Fin 8),bits .or .u8 ((a.val * 8 : Nat) : Int) (y.val : Int) = ((a.val * 8 + y.val : Nat) : Int)) ⟨a,ha⟩ ⟨y,hy⟩
theorem and_255 (q : Nat) (h : q < 1000000001) : bits .and .i64 (q : Int) 255 = ((q % 256 : Nat) : Int) := by
 unfold bits
 rw [show IntKind.i64.bits = 64 from rfl,show (255 : Int) = ((255 : Nat) : Int) from rfl,BitVec.ofInt_natCast,BitVec.ofInt_natCast]
 have : (BitVec.ofNat 64 q &&& BitVec.ofNat 64 255).toNat = q % 256 := by
  rw [BitVec.toNat_and,BitVec.toNat_ofNat,BitVec.toNat_ofNat,Nat.mod_eq_of_lt (by omega),show 255 % 2 ^ 64 = 2 ^ 8 - 1 by decide,Nat.and_two_pow_sub_one_eq_mod]
 show IntKind.i64.wrap (((BitVec.ofNat 64 q &&& BitVec.ofNat 64 255).toNat : Nat) : Int) = _
 rw [this]
 exact Go.IntWalk.i64_in _ (by omega)
theorem count_byte (n i : Nat) (h : i < 7) : ((n / 2 ^ (56 - 8 * i) % 32) * 8 + n / 2 ^ (48 - 8 * i) % 256 / 32 : Nat) = (UInt8.ofNat (n * 8 / 256 ^ (7 - i))).toNat := by
 have h1 : n / 2 ^ (56 - 8 * i) = n / 2 ^ (48 - 8 * i) / 256 := by
  rw [Nat.div_div_eq_div_mul,show 56 - 8 * i = (48 - 8 * i) + 8 by omega,Nat.pow_add]
 have h2 : n * 8 / 256 ^ (7 - i) = n / 2 ^ (48 - 8 * i) / 32 := by
  rw [show (256 : Nat) = 2 ^ 8 by rfl, ← Nat.pow_mul,show 8 * (7 - i) = (48 - 8 * i) + 5 + 3 by omega,Nat.pow_add _ _ 3,show (2 : Nat) ^ 3 = 8 by rfl,Nat.mul_div_mul_right _ _ (by decide),Nat.pow_add, ← Nat.div_div_eq_div_mul]
 rw [h1,h2,UInt8.toNat_ofNat']
 omega
theorem nfill_set (n i : Nat) (h : i < 8) : (nfill n i).set i (UInt8.ofNat (n * 8 / 256 ^ (7 - i))) = nfill n (i + 1) := by
 have hl : (List.take i (tail2 n)).length = i := by rw [List.length_take];simp [tail2];omega
 have h8 : (tail2 n).length = 8 := by simp [tail2]
 unfold nfill
 rw [List.set_append_right _ _ (by omega),hl,Nat.sub_self,show 8 - i = (8 - (i + 1)) + 1 by omega,List.replicate_succ,List.set_cons_zero,List.take_succ_eq_append_getElem (by omega),List.append_assoc]
 congr 1
 simp [tail2]
theorem HsAt.below {w w' : World} {H : Nat} {D : Bs} (h : HsAt w H D) (hb : Below w.heap.size w w') : HsAt w' H D := by
 obtain ⟨v,b,h1,h2⟩ := h
 exact ⟨v,b,h1.below hb,h2⟩
set_option maxRecDepth 100000 in
set_option maxHeartbeats 4000000 in
theorem hsum_any (H : Nat) (D : Bs) (w : World) (h : HsAt w H D) (hn : D.length ≤ 1000000000) (hR : RT w) (hH : 0 < H) :
  Calls Tryz.prog 75 #[.pointer (some ⟨H,0,none⟩)] w fun e w' => e = .returned (.string (mk (shaS D))) ∧ Below w.heap.size w w' := by
 obtain ⟨v,t,h,hl,ht0,ht1⟩ := h
 have hi : (Tryz.prog.info? 141).map (·.size) = some (hcells v t (D.drop (64 * (D.length / 64))) D.length).size := by rw [info141n,hcells_size _ _ _ _ hl]
 have ho := hcells_one v t (D.drop (64 * (D.length / 64))) D.length
 have hA := hcells_all v t (D.drop (64 * (D.length / 64))) D.length hl
 have hsz := hcells_size v t (D.drop (64 * (D.length / 64))) D.length hl
 have hHl := h.lt
 obtain ⟨C,hC⟩ : ∃ q,hcells v t (D.drop (64 * (D.length / 64))) D.length = q := ⟨_,rfl⟩
 have HCC := Lib.hid (And.intro hC (And.intro hl (And.intro ht0 ht1)))
 rw [hC] at hi ho hsz h hA
 obtain ⟨n,hnn⟩ : ∃ q,D.length = q := ⟨_,rfl⟩
 rw [hnn] at hA hn
 obtain ⟨B,hB⟩ : ∃ q,w.heap.size = q := ⟨_,rfl⟩
 have b0 := below_alloc w (.cells #[.int .u32 0, .int .u32 0, .int .u32 0, .int .u32 0, .int .u32 0, .int .u32 0, .int .u32 0, .int .u32 0, .bool false, .string ⟨#[]⟩, .int .i64 0] 141)
 have b1 := Blk.new w #[.int .u32 0, .int .u32 0, .int .u32 0, .int .u32 0, .int .u32 0, .int .u32 0, .int .u32 0, .int .u32 0, .bool false, .string ⟨#[]⟩, .int .i64 0] 141
 rw [hB] at b1 b0 hHl ⊢
 have b2 := setRow_heap _ _ _ C _ _ b1
 have b3 := below_setRow b0 (Nat.le_refl B) C
 have HB1 := Lib.hid b1
 have c10 := (b3.cell (p := ⟨H,10,none⟩) hHl).trans ((h.cell 10).trans hA)
 have c10' := (h.cell 10).trans hA
 obtain ⟨W1,hW1⟩ : ∃ q,(w.alloc (.cells #[.int .u32 0, .int .u32 0, .int .u32 0, .int .u32 0, .int .u32 0, .int .u32 0, .int .u32 0, .int .u32 0, .bool false, .string ⟨#[]⟩, .int .i64 0] 141)).setRow B C = q := ⟨_,rfl⟩
 have hz1 : W1.heap.size = B + 1 := by rw [← hW1,setRow_size, ← hB];simp
 rw [hW1] at b2 b3 c10
 have h2 : HsAt W1 B D := ⟨v,t,by rw [HCC.out.1];exact b2,hl,ht0,ht1⟩
 have hB0 : 0 < B := by omega
 have hR1 : RT W1 := hR.below hB0 b3
 have HT1 := Lib.hid (And.intro h2 (And.intro b3 (And.intro hz1 hR1)))
 have HW1 := Lib.hid hW1
 have HI := Lib.hid hi
 have HO := Lib.hid ho
 have HS := Lib.hid (show (#[.int .u32 0, .int .u32 0, .int .u32 0, .int .u32 0, .int .u32 0, .int .u32 0, .int .u32 0, .int .u32 0, .bool false, .string ⟨#[]⟩, .int .i64 0] : Array Value).size = C.size by rw [hsz];rfl)
 have HH := Lib.hid h
 have HN := Lib.hid hnn
 have HR := Lib.hid (And.intro hR (And.intro hH hHl))
 have HC10 := Lib.hid c10'
 obtain ⟨p,hp⟩ : ∃ q,(119 - n % 64) % 64 = q := ⟨_,rfl⟩
 have hp64 : p < 64 := by omega
 have KZ := fun (w1 : World) => noughts_any p (by omega) w1
 have hsum := run_sum [128] (List.replicate p 0) (by simp;omega)
 have ht1 : tail1 n = [128] ++ List.replicate p 0 := by unfold tail1;rw [hp];rfl
 rw [← ht1] at hsum
 have KP := fun (w1 : World) (h1 : HsAt w1 B D) (h3 : RT w1) => hput_any B D (tail1 n) w1 h1 (by rw [ht1,hnn];simp;omega) h3 hB0
 obtain ⟨G1,hG1⟩ : ∃ q,mk (tail1 n) = q := ⟨_,rfl⟩
 obtain ⟨G0,hG0⟩ : ∃ q,mk (List.replicate p 0) = q := ⟨_,rfl⟩
 rw [hG1] at hsum KP
 rw [hG0] at hsum KZ
 rw [show mk [128] = ⟨#[128]⟩ from rfl] at hsum
 have HKP := Lib.hid KP
 have HKZ := Lib.hid KZ
 have m1 : (n : Int).tmod 64 = ((n % 64 : Nat) : Int) := by rw [Int.tmod_eq_emod_of_nonneg (by omega)];omega
 have m2 : ((119 : Int) - ((n % 64 : Nat) : Int)).tmod 64 = (p : Int) := by rw [Int.tmod_eq_emod_of_nonneg (by omega)];omega
 have m3 : IntKind.i64.wrap ((119 : Int) - ((n % 64 : Nat) : Int)) = (119 : Int) - ((n % 64 : Nat) : Int) := Go.IntWalk.i64_in _ (by omega)
 obtain ⟨nm,hnm⟩ : ∃ q,n % 64 = q := ⟨_,rfl⟩
 rw [hnm] at m1 m2 m3
 have nm0 : nm < 64 := by omega
 clear b0 b1 b2 b3 hi ho hsz hnn hC hl ht0 ht1 hR h hA c10' hW1 hz1 h2 hR1 KP KZ hG1 hG0 hp hnm
 have c10 := HC10.out
 go_enter Tryz.func75,Tryz.ntmps75
 go_wp2_with (first | (refine wpList_load_row rfl 141 (.tmp 12) rfl H rfl 141 C (0,0) _ HH.out Tryz.underlying141 rfl HI.out ?_) | (refine wpList_store_row rfl 141 (.tmp 3) (.tmp 13) rfl B C rfl rfl 141 _ HB1.out HI.out HS.out HO.out ?_;rw [HW1.out]) | (go_at_call 112;refine (HKZ.out _).mono ?_;rintro e w2 ⟨rfl,hb2⟩;have HT2 := Lib.hid (show HsAt w2 B D ∧ Below B w w2 ∧ B + 1 ≤ w2.heap.size ∧ RT w2 from ⟨HsAt.below HT1.out.1 hb2,HT1.out.2.1.trans (hb2.mono (by rw [HT1.out.2.2.1];omega)),by rw [← HT1.out.2.2.1];exact hb2.size,HT1.out.2.2.2.below (by rw [HT1.out.2.2.1];omega) hb2⟩);clear hb2) | (go_at_call 74;refine (HKP.out w2 HT2.out.1 HT2.out.2.2.2).mono ?_;rintro e w3 ⟨rfl,h3,hf3⟩;have HT3 := Lib.hid (show HsAt w3 B (D ++ tail1 n) ∧ Below B w w3 ∧ B + 1 ≤ w3.heap.size ∧ RT w3 from ⟨h3,HT2.out.2.1.trans (Frm.below hf3 (by simp) (by have := HT2.out.2.2.1;omega)),Nat.le_trans HT2.out.2.2.1 hf3.size,fun j hj => (hf3.cell (p := ⟨0,j,none⟩) (by have := HT2.out.2.2.1;show 0 < _;omega) (by simp;omega)).trans (HT2.out.2.2.2 j hj)⟩);clear h3 hf3))
 obtain ⟨N,hN⟩ : ∃ q,w3.heap.size = q := ⟨_,rfl⟩
 have d1 := Blk.new w3 #[.int .u8 0, .int .u8 0, .int .u8 0, .int .u8 0, .int .u8 0, .int .u8 0, .int .u8 0, .int .u8 0] 193
 have d2 : HsAt (w3.alloc (.cells #[.int .u8 0, .int .u8 0, .int .u8 0, .int .u8 0, .int .u8 0, .int .u8 0, .int .u8 0, .int .u8 0] 193)) B (D ++ tail1 n) := HT3.out.1.below (below_alloc _ _)
 have d3 : Below B w (w3.alloc (.cells #[.int .u8 0, .int .u8 0, .int .u8 0, .int .u8 0, .int .u8 0, .int .u8 0, .int .u8 0, .int .u8 0] 193)) := HT3.out.2.1.alloc (by have := HT3.out.2.2.1;omega) _
 have d4 : RT (w3.alloc (.cells #[.int .u8 0, .int .u8 0, .int .u8 0, .int .u8 0, .int .u8 0, .int .u8 0, .int .u8 0, .int .u8 0] 193)) := HT3.out.2.2.2.below (by have := HT3.out.2.2.1;omega) (below_alloc _ _)
 have d5 : (w3.alloc (.cells #[.int .u8 0, .int .u8 0, .int .u8 0, .int .u8 0, .int .u8 0, .int .u8 0, .int .u8 0, .int .u8 0] 193)).heap.size = N + 1 := by rw [← hN];simp
 have hNB : B + 1 ≤ N := by rw [← hN];exact HT3.out.2.2.1
 have d6 := (d3.cell (p := ⟨H,10,none⟩) hHl).trans HC10.out
 rw [hN] at d1
 obtain ⟨W4,hW4⟩ : ∃ q,w3.alloc (.cells #[.int .u8 0, .int .u8 0, .int .u8 0, .int .u8 0, .int .u8 0, .int .u8 0, .int .u8 0, .int .u8 0] 193) = q := ⟨_,rfl⟩
 rw [hW4] at d1 d2 d3 d4 d5 d6 ⊢
 rw [hN]
 have HT4 := Lib.hid (And.intro d2 (And.intro d3 (And.intro d4 (And.intro d5 d6))))
 have d1' : Blk W4 N (bcells (nfill n 0)).toArray 193 := d1
 clear d1 d2 d3 d4 d5 d6 hW4 hN c10
 go_loopw [24] (fun iv wr => ∃ i : Nat,i ≤ 8 ∧ iv = .int .i64 (i : Int) ∧ Frm [N] W4 wr ∧ Blk wr N (bcells (nfill n i)).toArray 193) (fun iv _ => 8 - (intOf iv).toNat)
 case atStart => exact ⟨0,by omega,rfl,Frm.refl _ _,d1'⟩
 case round =>
  clear d1'
  obtain ⟨i,hi,rfl,hf,hn1⟩ := hrel
  have c10 := (hf.cell (p := ⟨H,10,none⟩) (by rw [HT4.out.2.2.2.1];show H < _;omega) (by simp;omega)).trans HT4.out.2.2.2.2
  by_cases hlt : i < 8
  ·have i0 : (0 : Int) ≤ (i : Int) := by omega
   have i8 : (i : Int) < 8 := by omega
   have e0 : (bcells (nfill n i)).toArray[i]? = some (.int .u8 0) := nfill_at n i hlt
   have c0 := (hn1.cell i).trans e0
   have f0 := hn1.frozen i
   obtain ⟨q1,hq1⟩ : ∃ q,n / 2 ^ (56 - 8 * i) = q := ⟨_,rfl⟩
   have hq1n : q1 ≤ n := by rw [← hq1];exact Nat.div_le_self _ _
   have e1 : (n : Int) / 2 ^ (56 - 8 * i) = (q1 : Int) := by rw [← hq1];simp
   have n0 : (0 : Int) ≤ (q1 : Int) := by omega
   have n1 : (q1 : Int) ≤ 1000000000 := by omega
   have HF := Lib.hid (And.intro hf hn1)
   clear hf hn1 e0
   by_cases h7 : i < 7
   ·have i7 : (i : Int) < 7 := by omega
    have hcb := count_byte n i h7
    rw [hq1] at hcb
    obtain ⟨q2,hq2⟩ : ∃ q,n / 2 ^ (48 - 8 * i) = q := ⟨_,rfl⟩
    rw [hq2] at hcb
    have hq2n : q2 ≤ n := by rw [← hq2];exact Nat.div_le_self _ _
    have e2 : (n : Int) / 2 ^ (48 - 8 * i) = (q2 : Int) := by rw [← hq2];simp
    have e3 := and_255 q2 (by omega)
    have HV := Lib.hid (show bits .or .u8 ((q1 : Int) * 8 % 256) (((q2 % 256 : Nat) : Int) / 32) = ((UInt8.ofNat (n * 8 / 256 ^ (7 - i))).toNat : Int) by
     rw [show (q1 : Int) * 8 % 256 = ((q1 % 32 * 8 : Nat) : Int) by omega,show ((q2 % 256 : Nat) : Int) / 32 = ((q2 % 256 / 32 : Nat) : Int) by omega,or_low _ _ (by omega) (by omega),hcb])
    obtain ⟨r,hr⟩ : ∃ q,q2 % 256 = q := ⟨_,rfl⟩
    rw [hr] at e3 HV
    have hr2 : r < 256 := by omega
    have r0 : (0 : Int) ≤ (r : Int) := by omega
    have r1 : (r : Int) ≤ 255 := by omega
    have q20 : (0 : Int) ≤ (q2 : Int) := by omega
    have q21 : (q2 : Int) ≤ 1000000000 := by omega
    clear hq1 hq2 hr hcb
    go_wp2
    go_region
    go_wp2
    go_roundw
    case rel =>
     refine ⟨i + 1,by omega,by go_num,((HF.out.1.setCell (p := ⟨N,i,none⟩) (.inl (List.mem_singleton.2 rfl)) _).setCell (p := ⟨N,i,none⟩) (.inl (List.mem_singleton.2 rfl)) _).drew, ?_⟩
     rw [HV.out, ← nfill_set n i hlt, ← bcells_set]
     have h3 := (HF.out.2.set i (.int .u8 ((q1 : Int) * 8 % 256))).set i (.int .u8 ((UInt8.ofNat (n * 8 / 256 ^ (7 - i))).toNat : Int))
     rw [Array.setIfInBounds_setIfInBounds] at h3
     exact h3.drew
    case measure => simp [intOf];omega
   ·have i7 : ¬ (i : Int) < 7 := by omega
    have HV := Lib.hid (show (q1 : Int) * 8 % 256 = ((UInt8.ofNat (n * 8 / 256 ^ (7 - i))).toNat : Int) by
     obtain rfl : i = 7 := by omega
     rw [show 56 - 8 * 7 = 0 from rfl,Nat.pow_zero,Nat.div_one] at hq1
     rw [UInt8.toNat_ofNat',Nat.sub_self,Nat.pow_zero,Nat.div_one,hq1]
     omega)
    clear hq1
    go_wp2
    go_roundw
    case rel =>
     refine ⟨i + 1,by omega,by go_num,HF.out.1.setCell (p := ⟨N,i,none⟩) (.inl (List.mem_singleton.2 rfl)) _, ?_⟩
     rw [HV.out, ← nfill_set n i hlt, ← bcells_set]
     exact HF.out.2.set i _
    case measure => simp [intOf];omega
  ·obtain rfl : i = 8 := by omega
   have e8 : nfill n 8 = tail2 n := by unfold nfill;rw [List.take_of_length_le (by simp [tail2])];simp
   rw [e8] at hn1
   have l8 : (tail2 n).length = 8 := by simp [tail2]
   have hcv := run_convert_bytes_back (P := Tryz.prog) wr 64 9 5 ⟨N,0,none⟩ 8 (tail2 n) Tryz.underlying64 Tryz.underlying5 Tryz.underlying9 (fun j hj => by
    rw [Go.Lib.add_plain,Nat.zero_add,hn1.cell j]
    simp [bcells,hj])
   rw [l8,show (⟨(tail2 n).toArray⟩ : ByteArray) = mk (tail2 n) from rfl] at hcv
   have g1 : HsAt wr B (D ++ tail1 n) := HT4.out.1.frm hf (by simp;omega)
   have g2 : Below B w wr := HT4.out.2.1.trans (Frm.below hf (by simp;omega) (by rw [HT4.out.2.2.2.1];omega))
   have g3 : RT wr := fun j hj => (hf.cell (p := ⟨0,j,none⟩) (by rw [HT4.out.2.2.2.1];exact Nat.succ_pos N) (by simp;omega)).trans (HT4.out.2.2.1 j hj)
   have g4 : B + 1 ≤ wr.heap.size := by have := hf.size;rw [HT4.out.2.2.2.1] at this;omega
   have KQ := hput_any B (D ++ tail1 n) (tail2 n) wr g1 (by rw [List.length_append,HN.out,l8];unfold tail1;simp;omega) g3 (by omega)
   rw [List.append_assoc,tails] at KQ
   obtain ⟨G2,hG2⟩ : ∃ q,mk (tail2 n) = q := ⟨_,rfl⟩
   rw [hG2] at KQ hcv
   have HKQ := Lib.hid KQ
   have HG := Lib.hid (And.intro g2 (And.intro g4 g3))
   clear KQ g1 g2 g3 g4 hG2 e8 l8 hf hn1 hi hlt
   obtain ⟨i5,hi5,hz0,hz1,hz2⟩ := info_parts info5n
   have hmk := fun (w : World) => run_make (P := Tryz.prog) w 64 5 i5 _ Tryz.underlying64 hi5 hz0 .i64 .i64 0 32 (by omega) (by omega) (by rw [hz2];omega) (by omega)
   rw [show ((0 : Int)).toNat = 0 from rfl,show ((32 : Int)).toNat = 32 from rfl,hz1] at hmk
   have HMK := Lib.hid hmk
   have HI5 := Lib.hid (And.intro hi5 (And.intro hz0 (And.intro hz1 hz2)))
   clear hmk
   go_wp2_with (first | (go_at_call 74;refine HKQ.out.mono ?_;rintro e w5 ⟨rfl,h5,hf5⟩;have HT5 := Lib.hid (show HsAt w5 B (D ++ tailW n) ∧ Below B w w5 ∧ B + 1 ≤ w5.heap.size from ⟨h5,HG.out.1.trans (Frm.below hf5 (by simp) (by have := HG.out.2.1;omega)),Nat.le_trans HG.out.2.1 hf5.size⟩);have hmk := HMK.out w5;have HRA := Lib.hid (HsAt.range (h5.below (below_alloc w5 (.cells (madeCells (Value.int .u8 0).cells (32 * 1)) 5))) (by unfold tailW;simp));clear h5 hf5) | (refine wpList_load_mid rfl 139 (.tmp 62) rfl B 0 rfl (wcells (hashW firstW (D ++ tailW n) ((D ++ tailW n).length / 64))).toList _ HRA.out Tryz.underlying139 rfl (by rw [info139n,Array.length_toList,wcells_size,hashW_length _ _ rfl]) ?_))
   have hu8 : (hashW firstW (D ++ tailW n) ((D.length + (tailW n).length) / 64)).length = 8 := hashW_length _ _ rfl _
   have hsha : shaS D = (hashW firstW (D ++ tailW n) ((D.length + (tailW n).length) / 64)).flatMap bytesW := by unfold shaS;rw [HN.out]
   obtain ⟨u,hu⟩ : ∃ q,hashW firstW (D ++ tailW n) ((D.length + (tailW n).length) / 64) = q := ⟨_,rfl⟩
   rw [hu] at hu8 hsha ⊢
   have o1 := World.ownsRow_made (base := w5.heap.size) (e := 5) (size := 1) w5 (madeCells #[.int .u8 0] 32) 32 (Nat.le_refl _) (by decide) (by simp [madeCells])
   have o2 := HT5.out.2.1.alloc (by have := HT5.out.2.2;omega) (.cells (madeCells #[.int .u8 0] 32) 5)
   obtain ⟨B5,hB5⟩ : ∃ q,w5.heap.size = q := ⟨_,rfl⟩
   have hBB : B ≤ B5 := by rw [← hB5];have := HT5.out.2.2;omega
   obtain ⟨W6,hW6⟩ : ∃ q,w5.alloc (.cells (madeCells #[.int .u8 0] 32) 5) = q := ⟨_,rfl⟩
   have hs6 : B5 ≤ W6.heap.size := by rw [← hW6, ← hB5];simp
   rw [hB5] at o1
   rw [hW6] at o1 o2 ⊢
   rw [hB5]
   obtain ⟨U,hU⟩ : ∃ q,wcells u = q := ⟨_,rfl⟩
   rw [hU]
   have HU := Lib.hid (And.intro hU (And.intro hu8 hsha))
   clear hu hu8 hsha hW6 hB5 hU hmk HRA HMK
   have HO1 := Lib.hid (And.intro o1 (And.intro o2 hs6))
   clear o1 o2 hs6
   go_loopw [6,64] (fun ov jv wr => ∃ j : Nat,j ≤ 8 ∧ jv = .int .i64 (j : Int) ∧ wr.ownsRow B5 5 1 ov (4 * j) (bcells ((u.take j).flatMap bytesW)) ∧ Below B w wr ∧ B5 ≤ wr.heap.size) (fun _ jv _ => 8 - (intOf jv).toNat)
   case atStart => exact ⟨0,by omega,rfl,HO1.out.1,HO1.out.2.1,HO1.out.2.2⟩
   case round =>
    clear HO1
    obtain ⟨j,hj,rfl,hown,hbl,hs6⟩ := hrel
    obtain ⟨A,cp,rfl⟩ := row_form hown
    by_cases hjt : j < 8
    ·have j0 : (0 : Int) ≤ (j : Int) := by omega
     have j8 : (j : Int) < 8 := by omega
     have hk := run_index139 U j (ix (at_ u j)) wr hjt (by rw [← HU.out.1];exact wcells_at u j (by rw [HU.out.2.1];exact hjt))
     have hx1 := ix_lt (at_ u j)
     have hbw := bytes_ix (at_ u j)
     have htk : (u.take (j + 1)).flatMap bytesW = (u.take j).flatMap bytesW ++ bytesW (at_ u j) := by
      rw [List.take_succ_eq_append_getElem (by rw [HU.out.2.1];exact hjt),List.flatMap_append]
      congr 1
      unfold at_
      rw [List.getD_eq_getElem?_getD,List.getElem?_eq_getElem (by rw [HU.out.2.1];exact hjt)]
      simp
     obtain ⟨x,hx⟩ : ∃ q,ix (at_ u j) = q := ⟨_,rfl⟩
     obtain ⟨y,hy⟩ : ∃ q,at_ u j = q := ⟨_,rfl⟩
     rw [hx] at hk hx1 hbw
     rw [hy] at hbw htk
     have HBW := Lib.hid (And.intro hbw htk)
     have hnw := World.news_of_block (cs := #[.int .u8 (x / 16777216), .int .u8 (x / 65536 % 256), .int .u8 (x / 256 % 256), .int .u8 (x % 256)]) (heap_alloc_new wr (.cells #[.int .u8 (x / 16777216), .int .u8 (x / 65536 % 256), .int .u8 (x / 256 % 256), .int .u8 (x % 256)] 5))
     have hr2 := World.ownsRow.alloc hown (.cells #[.int .u8 (x / 16777216), .int .u8 (x / 65536 % 256), .int .u8 (x / 256 % 256), .int .u8 (x % 256)] 5)
     have hb2 := hbl.alloc (by omega) (.cells #[.int .u8 (x / 16777216), .int .u8 (x / 65536 % 256), .int .u8 (x / 256 % 256), .int .u8 (x % 256)] 5)
     have HNW := Lib.hid (And.intro hnw (And.intro hr2 (And.intro hb2 hs6)))
     clear hbw htk hx hy hnw hr2 hb2 hbl hown
     go_wp2_with (at_builtin;refine wpList_append_lies _ rfl (.tmp 67) (.tmp 79) 64 rfl B5 5 i5 _ 1 1 Tryz.underlying64 HI5.out.1 HI5.out.2.1 HI5.out.2.2.1 HI5.out.2.2.2 rfl (by decide) (.slice A (4 * j) cp) (4 * j) _ rfl HNW.out.2.1 ⟨_,0,none⟩ 4 4 [.int .u8 (x / 16777216), .int .u8 (x / 65536 % 256), .int .u8 (x / 256 % 256), .int .u8 (x % 256)] rfl rfl HNW.out.1 (by simp [Value.oneCell']) (by omega) (by unfold maxLen;omega) (by omega) (by simp;omega) _ rfl ?_;intro g3 c3 W3 hS3 hg3 _ _;have HS3 := Lib.hid hS3;have HG3 := Lib.hid hg3;clear hS3 hg3)
     go_roundw
     case rel =>
      have hb3 := HNW.out.2.2.1.grown HG3.out (by simp;have := HNW.out.2.2.2;omega) (fun y hy => Nat.le_trans hBB (HNW.out.2.1.lt y hy).1)
      refine ⟨j + 1,by omega,by go_num, ?_,hb3, ?_⟩
      ·rw [HBW.out.2,show bcells ((u.take j).flatMap bytesW ++ bytesW y) = bcells ((u.take j).flatMap bytesW) ++ bcells (bytesW y) by simp [bcells],HBW.out.1]
       exact HS3.out
      ·have := HG3.out.size
       simp at this
       have := HNW.out.2.2.2
       omega
     case measure => simp [intOf];omega
    ·obtain rfl : j = 8 := by omega
     rw [List.take_of_length_le (by rw [HU.out.2.1];exact Nat.le_refl 8), ← HU.out.2.2] at hown
     have hl32 : (shaS D).length = 32 := shaS_length D
     have hL := row_lies hown
     obtain ⟨g,o,hA,_,hc⟩ := hL (by simp [bcells,hl32])
     subst hA
     have hcv := run_convert_bytes_back (P := Tryz.prog) wr 64 9 5 ⟨g,o,none⟩ cp (shaS D) Tryz.underlying64 Tryz.underlying5 Tryz.underlying9 (fun q hq => by
      rw [Go.Lib.add_plain]
      exact hc q _ (by simp [bcells,hq]))
     rw [hl32,show (⟨(shaS D).toArray⟩ : ByteArray) = mk (shaS D) from rfl] at hcv
     obtain ⟨G,hG⟩ : ∃ q,mk (shaS D) = q := ⟨_,rfl⟩
     rw [hG] at hcv
     have HGG := Lib.hid hG
     clear hown hL hc hG hj hjt hl32
     go_wp2
     go_ret
     exact ⟨congrArg (fun q => Ending.returned (Value.string q)) HGG.out.symm,hbl⟩
open Go.RowKit
def signC (c : UInt8) : Bool := 33 ≤ c && c ≤ 126
def goodF (s : Bs) : Bool := decide (1 ≤ s.length) && decide (s.length ≤ 80) && s.all signC
theorem signC_nat (c : UInt8) : signC c = true ↔ 33 ≤ c.toNat ∧ c.toNat ≤ 126 := by
 unfold signC
 simp only [Bool.and_eq_true,decide_eq_true_eq,UInt8.le_iff_toNat_le]
 simp
theorem all_take_succ (p : UInt8 → Bool) (l : Bs) (k : Nat) (h : k < l.length) (h0 : (l.take k).all p = true) : (l.take (k + 1)).all p = p l[k] := by
 rw [List.take_succ_eq_append_getElem h,List.all_append,h0]
 simp
theorem all_false (p : UInt8 → Bool) (l : Bs) (k : Nat) (h : k < l.length) (h0 : p l[k] = false) : l.all p = false := by
 rw [List.all_eq_false]
 exact ⟨l[k],List.getElem_mem h,by simp [h0]⟩
theorem rune_good (r : Int) (w : World) (h0 : 33 ≤ r) (h1 : r ≤ 126) : Calls Tryz.prog 115 #[.int .i32 r] w fun e w' => e = .returned (.bool false) ∧ w' = w := by
 have h2 : ¬ r < 33 := by omega
 have h3 : ¬ 126 < r := by omega
 go_enter Tryz.func115,Tryz.ntmps115
 go_wp2
 go_ret
 exact ⟨rfl,rfl⟩
theorem rune_bad (r : Int) (w : World) (h : r < 33 ∨ 126 < r) : Calls Tryz.prog 115 #[.int .i32 r] w fun e w' => e = .returned (.bool true) ∧ w' = w := by
 by_cases h2 : r < 33
 ·clear h
  go_enter Tryz.func115,Tryz.ntmps115
  go_wp2
  go_ret
  exact ⟨rfl,rfl⟩
 ·have h3 : 126 < r := by omega
  clear h
  go_enter Tryz.func115,Tryz.ntmps115
  go_wp2
  go_ret
  exact ⟨rfl,rfl⟩
def IdxP (s : ByteArray) (w : World) (e : Ending) (w' : World) : Prop := (∃ i : Int,e = .returned (.int .i64 i) ∧ decide (i < 0) = s.data.toList.all signC ∧ -1 ≤ i) ∧ Below w.heap.size w w'
set_option maxHeartbeats 1000000 in
theorem idx_any (s : ByteArray) (w : World) (hs : s.size ≤ 9223372036854775807) : Calls Tryz.prog 144 #[.string s, .func (.func 115) #[] #[], .bool true] w (IdxP s w) := by
 have hsl : s.data.toList.length = s.size := by simp
 unfold IdxP
 go_enter Tryz.func144,Tryz.ntmps144
 go_wp2
 go_loopw [12] (fun _ wr => ∃ k : Nat,k ≤ s.size ∧ (s.data.toList.take k).all signC = true ∧ wr.heap[w.heap.size]? = some (.stringIter s k) ∧ Below w.heap.size w wr) (fun _ wr => match wr.heap[w.heap.size]? with | some (.stringIter _ k) => s.size - k | _ => 0)
 case atStart => exact ⟨0,Nat.zero_le _,rfl,heap_alloc_new _ _,below_alloc _ _⟩
 case round =>
  obtain ⟨k,hk,hall,hit,hb⟩ := hrel
  by_cases hlt : k < s.size
  ·have hnx := fun ty => Lib.run_next_any_at (P := Tryz.prog) wr w.heap.size s k ty hit hlt
   have hlt' : k < s.data.toList.length := by rw [hsl];exact hlt
   have H1 := Lib.hid (all_take_succ signC s.data.toList k hlt' hall)
   have H2 := Lib.hid (fun h => all_false signC s.data.toList k hlt' h)
   have hget : s.data.toList[k] = s[k] := rfl
   rw [hget] at H1 H2
   have hsg := signC_nat s[k]
   have hk63 : wrap64 (k : Int) = (k : Int) := Go.IntWalk.wrap64_in _ (by omega)
   by_cases hc : signC s[k] = true
   ·obtain ⟨c1,c2⟩ := hsg.1 hc
    have hda := decode_ascii s k hlt (by omega)
    simp only [hda] at hnx
    have HI := Lib.hid (Lib.iterAt_heap wr w.heap.size s k (k + 1) hit)
    have HB := Lib.hid (Lib.below_iterAt hb (Nat.le_refl _) s (k + 1))
    have HA := Lib.hid (H1.out.trans hc)
    obtain ⟨r,hr⟩ : ∃ r,s[k].toNat = r := ⟨_,rfl⟩
    rw [hr] at hnx c1 c2
    have KG := rune_good (r : Int) (wr.iterAt w.heap.size s (k + 1)) (by omega) (by omega)
    obtain ⟨W1,hW1⟩ : ∃ q,wr.iterAt w.heap.size s (k + 1) = q := ⟨_,rfl⟩
    rw [hW1] at HI HB KG
    simp only [hW1] at hnx
    have HIT := Lib.hid hit
    clear hall hit hb hsl hsg hc hda hr hW1 hget hk63
    go_wp2_with (go_at_call 115;refine KG.mono ?_;rintro e w1 ⟨rfl,hw⟩;obtain rfl := hw.symm)
    go_roundw
    case rel => exact ⟨k + 1,by omega,HA.out,HI.out,HB.out⟩
    case measure => rw [HI.out,HIT.out];simp;omega
   ·have hc' : signC s[k] = false := by simpa using hc
    have HAF := Lib.hid (H2.out hc')
    have hbad : ∃ (r q : Nat),Utf8.decode s k = (r,q) ∧ ((r : Int) < 33 ∨ 126 < (r : Int)) := by
     by_cases h128 : s[k].toNat < 128
     ·refine ⟨_,_,decode_ascii s k hlt h128, ?_⟩
      rcases Nat.lt_or_ge (s[k].toNat) 33 with h | h
      ·exact .inl (by omega)
      ·exact .inr (by
        have : ¬ (33 ≤ s[k].toNat ∧ s[k].toNat ≤ 126) := fun h => hc (hsg.2 h)
        omega)
     ·have h1 := (decode_high s k hlt (Nat.le_of_not_lt h128)).1
      obtain ⟨d,hd⟩ : ∃ d,Utf8.decode s k = d := ⟨_,rfl⟩
      rw [hd] at h1
      obtain ⟨a,b⟩ := d
      exact ⟨a,b,hd, .inr (by have h1' : 128 ≤ a := h1;omega)⟩
    obtain ⟨r,q,hde,hrb⟩ := hbad
    simp only [hde] at hnx
    have HB := Lib.hid (Lib.below_iterAt hb (Nat.le_refl _) s (k + q))
    obtain ⟨W1,hW1⟩ : ∃ u,wr.iterAt w.heap.size s (k + q) = u := ⟨_,rfl⟩
    rw [hW1] at HB
    simp only [hW1] at hnx
    have KB := rune_bad (r : Int) W1 hrb
    have HN := Lib.hid (show decide ((k : Int) < 0) = s.data.toList.all signC by rw [HAF.out];simp)
    clear hall hit hb hsl hsg hc hc' hW1 hget hde hrb hk63
    go_wp2_with (go_at_call 115;refine KB.mono ?_;rintro e w1 ⟨rfl,hw⟩;obtain rfl := hw.symm)
    go_ret
    exact ⟨⟨k,rfl,HN.out,by omega⟩,HB.out⟩
  ·have hnx := fun ty => Lib.run_next_end_at (P := Tryz.prog) wr w.heap.size s k ty hit hlt
   obtain rfl : k = s.size := by omega
   have HA := Lib.hid (show decide ((-1 : Int) < 0) = s.data.toList.all signC by rw [List.take_of_length_le (by omega)] at hall;rw [hall];rfl)
   have HB := Lib.hid hb
   clear hall hit hb hlt hsl
   go_wp2
   go_ret
   exact ⟨⟨-1,rfl,HA.out,by omega⟩,HB.out⟩
theorem idxf_any (s : ByteArray) (w : World) (hs : s.size ≤ 9223372036854775807) : Calls Tryz.prog 114 #[.string s, .func (.func 115) #[] #[]] w (IdxP s w) := by
 have K := idx_any s w hs
 unfold IdxP at K ⊢
 go_enter Tryz.func114,Tryz.ntmps114
 go_wp2_with (go_at_call 144;refine K.mono ?_;rintro e w1 ⟨⟨i,rfl,h1,h2⟩,hb⟩;have H1 := Lib.hid (And.intro h1 h2);clear h1 h2)
 go_ret
 exact ⟨⟨i,rfl,H1.out⟩,hb⟩
set_option maxHeartbeats 1000000 in
theorem good_any (s : Bs) (w : World) (hs : s.length ≤ 9223372036854775807) : Calls Tryz.prog 78 #[.string (mk s)] w fun e w' => e = .returned (.bool (goodF s)) ∧ Below w.heap.size w w' := by
 have hz := mk_size s
 have K := idxf_any (mk s) w (by omega)
 unfold IdxP at K
 rw [mk_data] at K
 have HG := Lib.hid (show goodF s = (decide (1 ≤ s.length) && decide (s.length ≤ 80) && s.all signC) from rfl)
 obtain ⟨X,hX⟩ : ∃ q,mk s = q := ⟨_,rfl⟩
 rw [hX] at hz K ⊢
 obtain ⟨n,hn⟩ : ∃ q,s.length = q := ⟨_,rfl⟩
 rw [hn] at hz HG hs
 obtain ⟨g,hg⟩ : ∃ q,goodF s = q := ⟨_,rfl⟩
 rw [hg] at HG ⊢
 clear hX hn hg
 by_cases h1 : 1 ≤ n
 ·by_cases h2 : n ≤ 80
  ·have i1 : (0 : Int) < (n : Int) := by omega
   have i1n : 0 < n := by omega
   have i2 : (n : Int) ≤ 80 := by omega
   have HG2 := Lib.hid (show g = s.all signC by rw [HG.out,decide_eq_true h1,decide_eq_true h2];rfl)
   clear HG h1 hs
   go_enter Tryz.func78,Tryz.ntmps78
   go_wp2_with (go_at_call 114;refine K.mono ?_;rintro e w1 ⟨⟨i,rfl,h1,h2⟩,hb⟩;have H1 := Lib.hid h1;clear h1 h2)
   go_ret
   refine ⟨?_,hb⟩
   rw [HG2.out, ← H1.out]
   rfl
  ·have i2 : ¬ ((n : Int) ≤ 80) := by omega
   have i1 : (0 : Int) < (n : Int) := by omega
   have i1n : 0 < n := by omega
   have HG2 := Lib.hid (show g = false by rw [HG.out,decide_eq_false h2];simp)
   clear HG h1 K hs
   go_enter Tryz.func78,Tryz.ntmps78
   go_wp2
   go_ret
   obtain rfl := HG2.out
   exact ⟨rfl,Below.refl _ _⟩
 ·have i1 : ¬ ((0 : Int) < (n : Int)) := by omega
  obtain rfl : n = 0 := by omega
  have HG2 := Lib.hid (show g = false by rw [HG.out];simp)
  clear HG h1 K hs
  go_enter Tryz.func78,Tryz.ntmps78
  go_wp2
  go_ret
  obtain rfl := HG2.out
  exact ⟨rfl,Below.refl _ _⟩
def digB : Bs := [48,49,50,51,52,53,54,55,56,57,97,98,99,100,101,102]
def digC (n : Nat) : UInt8 := digB.getD n 0
def hexB (d : Bs) : Bs := d.flatMap fun c => [digC (c.toNat / 16),digC (c.toNat % 16)]
theorem hexB_length (d : Bs) : (hexB d).length = 2 * d.length := by
 unfold hexB
 induction d with
 | nil => rfl
 | cons c d ih => rw [List.flatMap_cons,List.length_append,ih,List.length_cons];simp;omega
def digN (c : UInt8) : Option Nat := digB.findIdx? (· == c)
def parseH : Bs → Option Bs
 | [] => some []
 | [_] => none
 | a :: b :: l => match digN a,digN b,parseH l with
  | some x,some y,some r => some (UInt8.ofNat (16 * x + y) :: r)
  | _,_,_ => none
theorem dig_back : ∀ n,n < 16 → digN (digC n) = some n := by decide
theorem parse_hex (d : Bs) : parseH (hexB d) = some d := by
 induction d with
 | nil => rfl
 | cons c d ih =>
  have e : hexB (c :: d) = digC (c.toNat / 16) :: digC (c.toNat % 16) :: hexB d := by simp [hexB]
  have hc := UInt8.toNat_lt c
  rw [e,parseH,dig_back _ (by omega),dig_back _ (by omega),ih]
  have : UInt8.ofNat (16 * (c.toNat / 16) + c.toNat % 16) = c := by
   rw [show 16 * (c.toNat / 16) + c.toNat % 16 = c.toNat by omega]
   exact UInt8.ofNat_toNat
  simp only [this]
theorem dig_sign : ∀ n,n < 16 → signC (digC n) = true := by decide
theorem hex_sign (d : Bs) : (hexB d).all signC = true := by
 rw [List.all_eq_true]
 intro c hc
 unfold hexB at hc
 obtain ⟨x,_,hx⟩ := List.mem_flatMap.1 hc
 have hl := UInt8.toNat_lt x
 simp only [List.mem_cons,List.not_mem_nil,or_false] at hx
 rcases hx with rfl | rfl
 ·exact dig_sign _ (by omega)
 ·exact dig_sign _ (by omega)
def nameL (id : Bs) : Bs := 111 :: hexB id
def tmpL : Bs := [116,109,112]
theorem nameL_length (id : Bs) : (nameL id).length = 2 * id.length + 1 := by unfold nameL;rw [List.length_cons,hexB_length]
theorem nameL_good {id : Bs} (h : id.length ≤ 32) : goodF (nameL id) = true := by
 have h1 := nameL_length id
 have h2 : (nameL id).all signC = true := by
  unfold nameL
  rw [List.all_cons,hex_sign]
  rfl
 unfold goodF
 rw [h2,h1]
 simp
 omega
theorem nameL_tmp (id : Bs) : nameL id ≠ tmpL := fun h => by
 have := (List.cons.inj h).1
 revert this
 decide
def idOf : Bs → Option Bs
 | 111 :: h => if h.length = 64 then parseH h else none
 | _ => none
def listL (N : List Bs) : List Bs := N.filterMap idOf
theorem idOf_name {id : Bs} (h : id.length = 32) : idOf (nameL id) = some id := by
 show (if (hexB id).length = 64 then parseH (hexB id) else none) = _
 rw [hexB_length,h,if_pos rfl,parse_hex]
end Go.Proofs.YtmjdmijloanfnaaGreatDoor
namespace Go.Proofs
open Go.Shelf
def Tryz.lays137_ren : Go.Shelf.Ren := ⟨fun | 137 => 88 | 217 => 128 | 266 => 153 | n => n,fun | 9 => 9 | 5 => 5 | 3 => 3 | n => n,fun | n => n⟩
theorem Tryz.lays137 : Go.Proofs.Lays.n137 Tryz.prog Tryz.lays137_ren := {
 mixed := by kernel_rfl
 f137 := Tryz.func88.trans (congrArg some (by kernel_rfl))
 f217 := Tryz.func128.trans (congrArg some (by kernel_rfl))
 f266 := Tryz.func153.trans (congrArg some (by kernel_rfl))
 t3 := Tryz.underlying3
 a3 := Tryz.isAgg3
 z3 := Tryz.sizeOf3
 v3 := Tryz.zeroValue3
 t5 := Tryz.underlying5
 a5 := Tryz.isAgg5
 z5 := Tryz.sizeOf5
 v5 := Tryz.zeroValue5
 t9 := Tryz.underlying9
 a9 := Tryz.isAgg9
 z9 := Tryz.sizeOf9
 v9 := Tryz.zeroValue9 }
open Go.RowKit in
theorem Tryz.strings_IndexByte (s : ByteArray) (c : Int) (w : World) :
  Calls Tryz.prog 88 #[.string s, .int .u8 c] w fun e w' => e = .returned (.int .i64 (Lib.indexByte s.data.toList c.toNat.toUInt8)) ∧ w' = w := Any.strings_IndexByte Tryz.lays137 s c w
def Tryz.lays103_ren : Go.Shelf.Ren := ⟨fun | 103 => 41 | 210 => 87 | 206 => 127 | n => n,fun | 9 => 9 | 4 => 4 | 24 => 79 | 3 => 3 | n => n,fun | n => n⟩
theorem Tryz.lays103 : Go.Proofs.Lays.n103 Tryz.prog Tryz.lays103_ren := {
 mixed := by kernel_rfl
 f103 := Tryz.func41.trans (congrArg some (by kernel_rfl))
 f206 := Tryz.func127.trans (congrArg some (by kernel_rfl))
 f210 := Tryz.func87.trans (congrArg some (by kernel_rfl))
 t3 := Tryz.underlying3
 a3 := Tryz.isAgg3
 z3 := Tryz.sizeOf3
 v3 := Tryz.zeroValue3
 t4 := Tryz.underlying4
 a4 := Tryz.isAgg4
 z4 := Tryz.sizeOf4
 v4 := Tryz.zeroValue4
 t9 := Tryz.underlying9
 a9 := Tryz.isAgg9
 z9 := Tryz.sizeOf9
 v9 := Tryz.zeroValue9
 t24 := Tryz.underlying79
 a24 := Tryz.isAgg79
 z24 := Tryz.sizeOf79
 v24 := Tryz.zeroValue79 }
open Go.RowKit in
theorem Tryz.strings_CutPrefix (s p : ByteArray) (w : World) :
  Calls Tryz.prog 41 #[.string s, .string p] w fun e w' => e = .returned (.tuple #[.string ⟨(Lib.trimPrefix s.data.toList p.data.toList).toArray⟩, .bool (Lib.hasPrefix s.data.toList p.data.toList)]) ∧ w' = w := Any.strings_CutPrefix Tryz.lays103 s p w
end Go.Proofs
namespace Go.Proofs.YtmjdmijloanfnaaGreatDoor
open Go.RowKit
theorem hs_new (w : World) : HsAt (w.alloc (.cells #[.int .u32 0, .int .u32 0, .int .u32 0, .int .u32 0, .int .u32 0, .int .u32 0, .int .u32 0, .int .u32 0, .bool false, .string ⟨#[]⟩, .int .i64 0] 141)) w.heap.size [] :=
 ⟨List.replicate 8 0#32,false,by
  have := Blk.new w #[.int .u32 0, .int .u32 0, .int .u32 0, .int .u32 0, .int .u32 0, .int .u32 0, .int .u32 0, .int .u32 0, .bool false, .string ⟨#[]⟩, .int .i64 0] 141
  exact this,rfl,(fun _ => rfl),(fun e => by cases e)⟩
set_option maxRecDepth 100000 in
set_option maxHeartbeats 1000000 in
theorem sum1_any (s : Bs) (g o c : Nat) (w : World) (hc : w.cell? ⟨g,o,none⟩ = some (.string (mk s))) (hn : s.length ≤ 1000000000) (hR : RT w) (hw : 0 < w.heap.size) :
  Calls Tryz.prog 31 #[.slice (some ⟨g,o,none⟩) 1 c] w fun e w' => e = .returned (.string (mk (shaS s))) ∧ Below w.heap.size w w' := by
 have hg := cell_lt hc
 have hg' : g < w.heap.size := hg
 have h1 := hs_new w
 have h2 := below_alloc w (.cells #[.int .u32 0, .int .u32 0, .int .u32 0, .int .u32 0, .int .u32 0, .int .u32 0, .int .u32 0, .int .u32 0, .bool false, .string ⟨#[]⟩, .int .i64 0] 141)
 obtain ⟨H,hH⟩ : ∃ q,w.heap.size = q := ⟨_,rfl⟩
 have h3 : (w.alloc (.cells #[.int .u32 0, .int .u32 0, .int .u32 0, .int .u32 0, .int .u32 0, .int .u32 0, .int .u32 0, .int .u32 0, .bool false, .string ⟨#[]⟩, .int .i64 0] 141)).heap.size = H + 1 := by rw [← hH];simp
 rw [hH] at h1 h2 hw hg' ⊢
 have HW := Lib.hid (And.intro h1 (And.intro h2 (And.intro h3 hR)))
 have HC := Lib.hid hc
 clear h1 h2 h3 hR hc hg
 go_enter Tryz.func31,Tryz.ntmps31
 go_wp2
 go_loopw [8] (fun kv wr => ∃ k : Nat,k ≤ 1 ∧ kv = .int .i64 (k : Int) ∧ HsAt wr H (if k = 0 then [] else s) ∧ Below H w wr ∧ H + 1 ≤ wr.heap.size) (fun kv _ => 1 - (intOf kv).toNat)
 case atStart => exact ⟨0,by omega,rfl,HW.out.1,HW.out.2.1,by rw [HW.out.2.2.1];exact Nat.le_refl _⟩
 case round =>
  obtain ⟨k,hk,rfl,hs,hbl,hsz⟩ := hrel
  by_cases h0 : k = 0
  ·subst h0
   have hcc := (hbl.cell (p := ⟨g,o,none⟩) hg').trans HC.out
   have HP := Lib.hid (hput_any H [] s wr hs (by simp;omega) (HW.out.2.2.2.below hw hbl) hw)
   obtain ⟨S,hS⟩ : ∃ q,mk s = q := ⟨_,rfl⟩
   rw [hS] at hcc HP
   have HB := Lib.hid (And.intro hbl hsz)
   clear hs hbl hS hk hsz
   go_wp2_with (go_at_call 74;refine HP.out.mono ?_;rintro e w2 ⟨rfl,h2,hf2⟩;have H2 := Lib.hid (show HsAt w2 H s ∧ Below H w w2 ∧ H + 1 ≤ w2.heap.size from ⟨h2,HB.out.1.trans (Frm.below hf2 (by simp) (by have := HB.out.2;omega)),Nat.le_trans HB.out.2 hf2.size⟩);clear h2 hf2)
   go_roundw
   case rel => exact ⟨1,by omega,by go_num,H2.out⟩
   case measure => simp [intOf]
  ·obtain rfl : k = 1 := by omega
   have HP := Lib.hid (hsum_any H s wr hs hn (HW.out.2.2.2.below hw hbl) hw)
   have HB := Lib.hid (And.intro hbl hsz)
   clear hs hbl hk h0 hsz
   go_wp2_with (go_at_call 75;refine HP.out.mono ?_;rintro e w2 ⟨rfl,hb2⟩)
   go_ret
   exact ⟨rfl,HB.out.1.trans (hb2.mono (by have := HB.out.2;omega))⟩
theorem run_dig (q : Nat) (h : q < 16) (w : World) : Sem.run Tryz.prog (Instr.index 9 (.string ⟨#[48,49,50,51,52,53,54,55,56,57,97,98,99,100,101,102]⟩) (.int .u8 (q : Int))) w = .ok (.int .u8 ((digC q).toNat : Int)) w := by
 have e : (⟨#[48,49,50,51,52,53,54,55,56,57,97,98,99,100,101,102]⟩ : ByteArray)[q]? = some (digC q) :=
  (by decide +kernel : ∀ y : Fin 16,(⟨#[48,49,50,51,52,53,54,55,56,57,97,98,99,100,101,102]⟩ : ByteArray)[y.val]? = some (digC y.val)) ⟨q,h⟩
 unfold Instr.index
 simp [go_sem,Sem.run_bind,run_underlying Tryz.underlying9]
 rw [e]
 rfl
theorem and_15 (c : UInt8) : bits .and .u8 (c.toNat : Int) 15 = ((c.toNat % 16 : Nat) : Int) :=
 (by decide +kernel : ∀ y : Fin 256,bits .and .u8 (y.val : Int) 15 = ((y.val % 16 : Nat) : Int)) ⟨c.toNat,UInt8.toNat_lt c⟩
set_option maxRecDepth 100000 in
set_option maxHeartbeats 1000000 in
theorem hex_any (d : Bs) (w : World) (hd : d.length = 32) : Calls Tryz.prog 81 #[.string (mk d)] w fun e w' => e = .returned (.string (mk (hexB d))) ∧ Below w.heap.size w w' := by
 obtain ⟨i5,hi5,hz0,hz1,hz2⟩ := info_parts info5n
 have hmk := run_make (P := Tryz.prog) w 64 5 i5 _ Tryz.underlying64 hi5 hz0 .i64 .i64 0 64 (by omega) (by omega) (by rw [hz2];omega) (by omega)
 rw [show ((0 : Int)).toNat = 0 from rfl,show ((64 : Int)).toNat = 64 from rfl,hz1] at hmk
 have HI5 := Lib.hid (And.intro hi5 (And.intro hz0 (And.intro hz1 hz2)))
 have zs : (mk d).size = 32 := by rw [mk_size,hd]
 obtain ⟨X,hX⟩ : ∃ X,mk d = X := ⟨_,rfl⟩
 rw [hX] at zs ⊢
 have HD := Lib.hid (show ∀ j (h : j < 32),X[j]'(by omega) = d.getD j 0 from fun j h => by
  have h1 : X.data.toList = d := by rw [← hX,mk_data]
  have : X.data.toList[j]'(by rw [h1,hd];exact h) = d[j]'(by rw [hd];exact h) := by simp [h1]
  rw [List.getD_eq_getElem?_getD,List.getElem?_eq_getElem (by rw [hd];exact h),Option.getD_some]
  exact this)
 have o1 := World.ownsRow_made (base := w.heap.size) (e := 5) (size := 1) w (madeCells #[.int .u8 0] 64) 64 (Nat.le_refl _) (by decide) (by simp [madeCells])
 have o2 := below_alloc w (.cells (madeCells #[.int .u8 0] 64) 5)
 obtain ⟨B,hB⟩ : ∃ q,w.heap.size = q := ⟨_,rfl⟩
 obtain ⟨W,hW⟩ : ∃ q,w.alloc (.cells (madeCells #[.int .u8 0] 64) 5) = q := ⟨_,rfl⟩
 rw [show (madeCells (Value.int .u8 0).cells (64 * 1)) = madeCells #[.int .u8 0] 64 from rfl,hW,hB] at hmk
 rw [hW,hB] at o1 o2
 have hs6 : B ≤ W.heap.size := by rw [← hW, ← hB];simp
 have HO1 := Lib.hid (And.intro o1 (And.intro o2 hs6))
 have HL := Lib.hid hd
 rw [hB]
 clear o1 o2 hs6 hW hB hX hd
 have mixed := mixedT
 go_enter Tryz.func81,Tryz.ntmps81
 go_wp2
 go_loopw [3,9] (fun ov jv wr => ∃ j : Nat,j ≤ 32 ∧ jv = .int .i64 (j : Int) ∧ wr.ownsRow B 5 1 ov (2 * j) (bcells (hexB (d.take j))) ∧ Below B w wr ∧ B ≤ wr.heap.size) (fun _ jv _ => 32 - (intOf jv).toNat)
 case atStart => exact ⟨0,by omega,rfl,HO1.out.1,HO1.out.2.1,HO1.out.2.2⟩
 case round =>
  clear HO1 hmk
  obtain ⟨j,hj,rfl,hown,hbl,hs6⟩ := hrel
  obtain ⟨A,cp,rfl⟩ := row_form hown
  by_cases hjt : j < 32
  ·have j0 : (0 : Int) ≤ (j : Int) := by omega
   have j8 : (j : Int) < 32 := by omega
   have hx := HD.out j hjt
   have htk : hexB (d.take (j + 1)) = hexB (d.take j) ++ [digC ((d.getD j 0).toNat / 16),digC ((d.getD j 0).toNat % 16)] := by
    rw [List.take_succ_eq_append_getElem (by rw [HL.out];exact hjt)]
    unfold hexB
    rw [List.flatMap_append,List.getD_eq_getElem?_getD,List.getElem?_eq_getElem (by rw [HL.out];exact hjt)]
    simp
   obtain ⟨c,hc⟩ : ∃ q,d.getD j 0 = q := ⟨_,rfl⟩
   rw [hc] at hx htk
   have hcn := UInt8.toNat_lt c
   have ha := and_15 c
   have r1 := fun (w : World) => run_dig (c.toNat / 16) (by omega) w
   have r2 := fun (w : World) => run_dig (c.toNat % 16) (by omega) w
   have hdv : (c.toNat : Int) / 16 = ((c.toNat / 16 : Nat) : Int) := by omega
   obtain ⟨q1,hq1⟩ : ∃ q,c.toNat / 16 = q := ⟨_,rfl⟩
   obtain ⟨q2,hq2⟩ : ∃ q,c.toNat % 16 = q := ⟨_,rfl⟩
   rw [hq1] at r1 hdv htk
   rw [hq2] at r2 ha htk
   have HT := Lib.hid htk
   obtain ⟨d1,hd1⟩ : ∃ q,digC q1 = q := ⟨_,rfl⟩
   obtain ⟨d2,hd2⟩ : ∃ q,digC q2 = q := ⟨_,rfl⟩
   rw [hd1] at r1 HT
   rw [hd2] at r2 HT
   have HOB := Lib.hid (And.intro hown (And.intro hbl hs6))
   have hd0 : wr.drew.ownsRow B 5 1 (.slice A (2 * j) cp) (2 * j) (bcells (hexB (d.take j))) := hown.drew
   have hd00 := hbl.drew
   clear hc htk hq1 hq2 hd1 hd2 hown hbl
   go_wp2
   refine wp_region_held (S := fun _ => True) mixed ?_
   change wpAnyH _ _ _ _ _ _ _ _ wr.drew
   have hS0 : True := trivial
   obtain ⟨W0,hW0⟩ : ∃ q,wr.drew = q := ⟨_,rfl⟩
   have hs0 : B ≤ W0.heap.size := by rw [← hW0];exact hs6
   rw [hW0] at hd0 hd00 ⊢
   clear hW0 HOB
   refine tkQ 0 (.slice A (2 * j) cp) rfl hS0 ?_
   try go_simp
   refine tkQ 1 (.string X) rfl hS0 ?_
   try go_simp
   refine tkQ 2 (.int .i64 (j : Int)) rfl hS0 ?_
   try go_simp
   refine tkQ 3 (.int .u8 (c.toNat : Int)) rfl hS0 ?_
   try go_simp
   refine tkQ 4 (.int .u8 (q1 : Int)) rfl hS0 ?_
   try go_simp
   refine tkQ 5 (.int .u8 (d1.toNat : Int)) rfl hS0 ?_
   try go_simp
   refine tkQ 6 (.string X) rfl hS0 ?_
   try go_simp
   refine tkQ 7 (.int .i64 (j : Int)) rfl hS0 ?_
   try go_simp
   refine tkQ 8 (.int .u8 (c.toNat : Int)) rfl hS0 ?_
   try go_simp
   refine tkQ 9 (.int .u8 (q2 : Int)) rfl hS0 ?_
   try go_simp
   refine tkQ 10 (.int .u8 (d2.toNat : Int)) rfl hS0 ?_
   try go_simp
   refine alH 11 ?_
   unfold wpOp
   go_simp
   refine .inl ?_
   have hnw := World.news_of_block (cs := #[.int .u8 (d1.toNat : Int), .int .u8 (d2.toNat : Int)]) (heap_alloc_new W0 (.cells #[.int .u8 (d1.toNat : Int), .int .u8 (d2.toNat : Int)] 5))
   have hr2 := World.ownsRow.alloc hd0 (.cells #[.int .u8 (d1.toNat : Int), .int .u8 (d2.toNat : Int)] 5)
   have hb2 := hd00.alloc hs0 (.cells #[.int .u8 (d1.toNat : Int), .int .u8 (d2.toNat : Int)] 5)
   have hs1 : B ≤ (W0.alloc (.cells #[.int .u8 (d1.toNat : Int), .int .u8 (d2.toNat : Int)] 5)).heap.size := by simp;omega
   obtain ⟨W1,hW1⟩ : ∃ q,W0.alloc (.cells #[.int .u8 (d1.toNat : Int), .int .u8 (d2.toNat : Int)] 5) = q := ⟨_,rfl⟩
   rw [hW1] at hnw hr2 hb2 hs1 ⊢
   clear hW1 hd0 hd00 hs0
   refine alH 12 ?_
   refine wpOp_of rfl rfl (wp_append_lies (P := Tryz.prog) W1 (.tmp 12) (.tmp 23) 64 rfl B 5 i5 _ 1 1 Tryz.underlying64 HI5.out.1 HI5.out.2.1 HI5.out.2.2.1 HI5.out.2.2.2 (by rfl) (by decide) (.slice A (2 * j) cp) (2 * j) _ (by rfl) hr2 ⟨_,0,none⟩ 2 2 [.int .u8 (d1.toNat : Int), .int .u8 (d2.toNat : Int)] (by rfl) (by rfl) hnw (by simp [Value.oneCell']) (by omega) (by unfold maxLen;omega) (by omega) hs1 _ rfl ?_)
   intro g3 c3 W3 hr3 hg3 _ _
   have hb3 := hb2.grown hg3 hs1 (fun y hy => (hr2.lt y hy).1)
   have hs3 : B ≤ W3.heap.size := Nat.le_trans hs1 hg3.size
   refine ⟨trivial, ?_⟩
   clear hnw hr2 hb2 hs1 hg3
   have HF := Lib.hid (And.intro hr3 (And.intro hb3 hs3))
   clear hr3 hb3 hs3
   try go_simp
   refine tkQ 13 (.slice (some ⟨g3,0,none⟩) (2 * j + 2) c3) rfl hS0 ?_
   try go_simp
   refine wpAnyH_done (by kernel_rfl) ?_ _
   go_wp2
   go_roundw
   case rel =>
    refine ⟨j + 1,by omega,by go_num, ?_,HF.out.2⟩
    rw [HT.out,show bcells (hexB (d.take j) ++ [d1,d2]) = bcells (hexB (d.take j)) ++ [.int .u8 (d1.toNat : Int), .int .u8 (d2.toNat : Int)] by simp [bcells]]
    exact HF.out.1
   case measure => simp [intOf];omega
  ·obtain rfl : j = 32 := by omega
   rw [List.take_of_length_le (by rw [HL.out];exact Nat.le_refl 32)] at hown
   have hl64 : (hexB d).length = 64 := by rw [hexB_length,HL.out]
   obtain ⟨g,o,hA,_,hc⟩ := (row_lies hown) (by simp [bcells,hl64])
   subst hA
   have hcv := run_convert_bytes_back (P := Tryz.prog) wr 64 9 5 ⟨g,o,none⟩ cp (hexB d) Tryz.underlying64 Tryz.underlying5 Tryz.underlying9 (fun q hq => by
    rw [Go.Lib.add_plain]
    exact hc q _ (by simp [bcells,hq]))
   rw [hl64,show (⟨(hexB d).toArray⟩ : ByteArray) = mk (hexB d) from rfl] at hcv
   obtain ⟨G,hG⟩ : ∃ q,mk (hexB d) = q := ⟨_,rfl⟩
   rw [hG] at hcv
   have HGG := Lib.hid hG
   clear hown hc hG hj hjt hl64
   go_wp2
   go_ret
   exact ⟨congrArg (fun q => Ending.returned (Value.string q)) HGG.out.symm,hbl⟩
end Go.Proofs.YtmjdmijloanfnaaGreatDoor
