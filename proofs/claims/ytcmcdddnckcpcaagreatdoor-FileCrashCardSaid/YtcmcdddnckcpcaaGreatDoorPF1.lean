/- Packed: Shelf, Kt, Os, Wt, Nb, Nu, Ng, Bu, Nj, Cr, Dk, Fa, Dz, Dw, Dy, Wh. -/
import Derived.Shelf.Strings.Builder1
import Derived.Shelf.Strings.Builder2
import Derived.Shelf.Small.Bits
import Derived.Shelf.Strings.BuilderF
import Derived.Shelf.Strconv.Itoa0
import Derived.Shelf.Strings.Prefix
import Derived.Shelf.Bits.Mul64
import Derived.Shelf.Strings.Repeat
import Derived.Ground.Names2Prog
import Derived.Shelf.Slices.Clone
import Derived.Shelf.Slices.SearchI
import Derived.Ground.SlgnProg
import Derived.Shelf.SlicesE.Clone
import Derived.Test.YtcmcdddnckcpcaaGreatDoorProg
import Derived.Test.YtcmcdddnckcpcaaGreatDoorRows
import Derived.WalkKit
import Derived.Lib.Hide
import Derived.Laws.NewBlocks
import Derived.BigRegion
import Derived.Laws.IdiomStrings
import Derived.Laws.MakeOwn
import Derived.Deep.QuietTactic
import Derived.BigQuiet
import Derived.Deep.RegionHeld3
import Derived.Deep.CutRange
import Derived.IntWalk
import Derived.Laws.Cover1
import Derived.Deep.AppendLies
import Derived.OrdersHeld
import Derived.Below
import Derived.OwnWalk
import Derived.Laws.AppendOwn
import Derived.Laws.OwnMore
import Derived.KernelRfl
import Derived.Laws.Strings
import Derived.RegionTactic
import Derived.Lib.ItoaMem
import Derived.ChangeAlike
import Derived.Lib.SmallJoins
import Derived.Lib.Builder
import Derived.Lib.AppendStr
import Derived.Laws.Externs
namespace Go.Proofs
open Go.Shelf
def Tryz.lays170_ren : Go.Shelf.Ren := ⟨fun | 170 => 130 | n => n,fun | 70 => 91 | 3 => 3 | 0 => 0 | 72 => 93 | 37 => 62 | 5 => 5 | n => n,fun | n => n⟩
theorem Tryz.lays170 : Go.Proofs.Lays.n170 Tryz.prog Tryz.lays170_ren := {
 mixed := by kernel_rfl
 f170 := Tryz.func130.trans (congrArg some (by kernel_rfl))
 t0 := Tryz.underlying0
 a0 := Tryz.isAgg0
 z0 := Tryz.sizeOf0
 v0 := Tryz.zeroValue0
 t3 := Tryz.underlying3
 a3 := Tryz.isAgg3
 z3 := Tryz.sizeOf3
 v3 := Tryz.zeroValue3
 t37 := Tryz.underlying62
 a37 := Tryz.isAgg62
 z37 := Tryz.sizeOf62
 v37 := Tryz.zeroValue62
 t70 := Tryz.underlying91
 a70 := Tryz.isAgg91
 z70 := Tryz.sizeOf91
 v70 := Tryz.zeroValue91
 t72 := Tryz.underlying93
 a72 := Tryz.isAgg93
 z72 := Tryz.sizeOf93
 v72 := Tryz.zeroValue93 }
open Go.RowKit in
theorem Tryz.Builder_Len (B b : Nat) (bs : List Value) (w : World) (h : Lib.IsBuilder 93 5 B b bs w) :
  Calls Tryz.prog 130 #[.pointer (some ⟨b,0,none⟩)] w fun e w' => e = .returned (.int .i64 bs.length) ∧ w' = w := Any.Builder_Len Tryz.lays170 B b bs w h
def Tryz.lays169_ren : Go.Shelf.Ren := ⟨fun | 169 => 46 | n => n,fun | 70 => 91 | 9 => 9 | 0 => 0 | 72 => 93 | 37 => 62 | 127 => 150 | 3 => 3 | 5 => 5 | n => n,fun | n => n⟩
theorem Tryz.lays169 : Go.Proofs.Lays.n169 Tryz.prog Tryz.lays169_ren := {
 mixed := by kernel_rfl
 f169 := Tryz.func46.trans (congrArg some (by kernel_rfl))
 t0 := Tryz.underlying0
 a0 := Tryz.isAgg0
 z0 := Tryz.sizeOf0
 v0 := Tryz.zeroValue0
 t3 := Tryz.underlying3
 a3 := Tryz.isAgg3
 z3 := Tryz.sizeOf3
 v3 := Tryz.zeroValue3
 t9 := Tryz.underlying9
 a9 := Tryz.isAgg9
 z9 := Tryz.sizeOf9
 v9 := Tryz.zeroValue9
 t37 := Tryz.underlying62
 a37 := Tryz.isAgg62
 z37 := Tryz.sizeOf62
 v37 := Tryz.zeroValue62
 t70 := Tryz.underlying91
 a70 := Tryz.isAgg91
 z70 := Tryz.sizeOf91
 v70 := Tryz.zeroValue91
 t72 := Tryz.underlying93
 a72 := Tryz.isAgg93
 z72 := Tryz.sizeOf93
 v72 := Tryz.zeroValue93
 t127 := Tryz.underlying150
 a127 := Tryz.isAgg150
 z127 := Tryz.sizeOf150
 v127 := Tryz.zeroValue150 }
theorem Tryz.Builder_Extra_169 : Builder.Extra Tryz.prog Tryz.lays169_ren := {
 sizeBuilder := by kernel_rfl
 liesBuilder := by kernel_rfl
 t5 := Tryz.underlying5
 a5 := Tryz.isAgg5
 z5 := Tryz.sizeOf5
 v5 := Tryz.zeroValue5
 infoByte := by kernel_rfl
 cellsByte := by kernel_rfl
 sizeByte := by kernel_rfl
 neB5 := by decide }
open Go.RowKit in
theorem Tryz.Builder_String (B b : Nat) (l : List UInt8) (w : World) (h : Lib.IsBuilder 93 5 B b (Lib.byteCells l) w) (h0 : l ≠ []) :
  Calls Tryz.prog 46 #[.pointer (some ⟨b,0,none⟩)] w fun e w' => e = .returned (.string ⟨l.toArray⟩) ∧ Below B w w' := Any.Builder_String Tryz.lays169 Tryz.Builder_Extra_169 B b l w h h0
open Go.RowKit in
theorem Tryz.Builder_String_any (B b : Nat) (l : List UInt8) (w : World) (h : Lib.IsBuilder 93 5 B b (Lib.byteCells l) w) (hBw : B ≤ w.heap.size) :
  Calls Tryz.prog 46 #[.pointer (some ⟨b,0,none⟩)] w fun e w' => e = .returned (.string ⟨l.toArray⟩) ∧ Below B w w' := Any.Builder_String_any Tryz.lays169 Tryz.Builder_Extra_169 B b l w h hBw
def Tryz.lays125_ren : Go.Shelf.Ren := ⟨fun | 125 => 120 | 128 => 144 | 129 => 145 | n => n,fun | 46 => 87 | 3 => 3 | 51 => 153 | 53 => 199 | 4 => 4 | 5 => 5 | 9 => 9 | n => n,fun | n => n⟩
theorem Tryz.lays125 : Go.Proofs.Lays.n125 Tryz.prog Tryz.lays125_ren := {
 mixed := by kernel_rfl
 f125 := Tryz.func120.trans (congrArg some (by kernel_rfl))
 f128 := Tryz.func144.trans (congrArg some (by kernel_rfl))
 f129 := Tryz.func145.trans (congrArg some (by kernel_rfl))
 t3 := Tryz.underlying3
 a3 := Tryz.isAgg3
 z3 := Tryz.sizeOf3
 v3 := Tryz.zeroValue3
 t4 := Tryz.underlying4
 a4 := Tryz.isAgg4
 z4 := Tryz.sizeOf4
 v4 := Tryz.zeroValue4
 t5 := Tryz.underlying5
 a5 := Tryz.isAgg5
 z5 := Tryz.sizeOf5
 v5 := Tryz.zeroValue5
 t9 := Tryz.underlying9
 a9 := Tryz.isAgg9
 z9 := Tryz.sizeOf9
 v9 := Tryz.zeroValue9
 t46 := Tryz.underlying87
 a46 := Tryz.isAgg87
 z46 := Tryz.sizeOf87
 v46 := Tryz.zeroValue87
 t51 := Tryz.underlying153
 a51 := Tryz.isAgg153
 z51 := Tryz.sizeOf153
 v51 := Tryz.zeroValue153
 t53 := Tryz.underlying199
 a53 := Tryz.isAgg199
 z53 := Tryz.sizeOf199
 v53 := Tryz.zeroValue199 }
theorem Tryz.bits_Len (x : Int) (w : World) (h0 : 0 ≤ x) (h1 : x ≤ 18446744073709551615) :
  Calls Tryz.prog 120 #[.int .u64 x] w fun e w' => e = .returned (.int .i64 (Lib.bitLen x.toNat)) ∧ w' = w := Any.bits_Len Tryz.lays125 x w h0 h1
def Tryz.lays131_ren : Go.Shelf.Ren := ⟨fun | 131 => 147 | 126 => 166 | n => n,fun | 5 => 5 | 3 => 3 | 9 => 9 | n => n,fun | n => n⟩
theorem Tryz.lays131 : Go.Proofs.Lays.n131 Tryz.prog Tryz.lays131_ren := {
 mixed := by kernel_rfl
 f126 := Tryz.func166.trans (congrArg some (by kernel_rfl))
 f131 := Tryz.func147.trans (congrArg some (by kernel_rfl))
 t3 := Tryz.underlying3
 a3 := Tryz.isAgg3
 z3 := Tryz.sizeOf3
 v3 := Tryz.zeroValue3
 t5 := Tryz.underlying5
 a5 := Tryz.isAgg5
 z5 := Tryz.sizeOf5
 v5 := Tryz.zeroValue5
 t9 := Tryz.underlying9
 a9 := Tryz.isAgg9
 z9 := Tryz.sizeOf9
 v9 := Tryz.zeroValue9 }
theorem Tryz.bits_LeadingZeros8 (x : Int) (w : World) (h0 : 0 ≤ x) (h1 : x ≤ 255) :
  Calls Tryz.prog 147 #[.int .u8 x] w fun e w' => e = .returned (.int .i64 (8 - (Lib.bitLen x.toNat : Int))) ∧ w' = w := Any.bits_LeadingZeros8 Tryz.lays131 x w h0 h1
def Tryz.lays264_ren : Go.Shelf.Ren := ⟨fun | 264 => 127 | n => n,fun | 53 => 199 | 46 => 87 | n => n,fun | n => n⟩
theorem Tryz.lays264 : Go.Proofs.Lays.n264 Tryz.prog Tryz.lays264_ren := {
 mixed := by kernel_rfl
 f264 := Tryz.func127.trans (congrArg some (by kernel_rfl))
 t46 := Tryz.underlying87
 a46 := Tryz.isAgg87
 z46 := Tryz.sizeOf87
 v46 := Tryz.zeroValue87
 t53 := Tryz.underlying199
 a53 := Tryz.isAgg199
 z53 := Tryz.sizeOf199
 v53 := Tryz.zeroValue199 }
open Go.RowKit Go.Lib in
theorem Tryz.bits_Mul64 (x y : Nat) (hx : x < 18446744073709551616) (hy : y < 18446744073709551616) (w : World) :
  Calls Tryz.prog 127 #[.int .u64 x, .int .u64 y] w fun e w' => e = .returned (.tuple #[.int .u64 ((x * y / 18446744073709551616 : Nat) : Int), .int .u64 ((x * y % 18446744073709551616 : Nat) : Int)]) ∧ w' = w := Any.bits_Mul64 Tryz.lays264 x y hx hy w
def Tryz.lays212_ren : Go.Shelf.Ren := ⟨fun | 212 => 102 | 263 => 126 | 264 => 127 | n => n,fun | 46 => 87 | 51 => 153 | 146 => 197 | 53 => 199 | 148 => 200 | n => n,fun | n => n⟩
theorem Tryz.lays212 : Go.Proofs.Lays.n212 Tryz.prog Tryz.lays212_ren := {
 mixed := by kernel_rfl
 f212 := Tryz.func102.trans (congrArg some (by kernel_rfl))
 f263 := Tryz.func126.trans (congrArg some (by kernel_rfl))
 f264 := Tryz.func127.trans (congrArg some (by kernel_rfl))
 t46 := Tryz.underlying87
 a46 := Tryz.isAgg87
 z46 := Tryz.sizeOf87
 v46 := Tryz.zeroValue87
 t51 := Tryz.underlying153
 a51 := Tryz.isAgg153
 z51 := Tryz.sizeOf153
 v51 := Tryz.zeroValue153
 t53 := Tryz.underlying199
 a53 := Tryz.isAgg199
 z53 := Tryz.sizeOf199
 v53 := Tryz.zeroValue199
 t146 := Tryz.underlying197
 a146 := Tryz.isAgg197
 z146 := Tryz.sizeOf197
 v146 := Tryz.zeroValue197
 t148 := Tryz.underlying200
 a148 := Tryz.isAgg200
 z148 := Tryz.sizeOf200
 v148 := Tryz.zeroValue200 }
open Go.RowKit Go.Lib in
theorem Tryz.bits_Mul (x y : Nat) (hx : x < 18446744073709551616) (hy : y < 18446744073709551616) (w : World) :
  Calls Tryz.prog 102 #[.int .u64 x, .int .u64 y] w fun e w' => e = .returned (.tuple #[.int .u64 ((x * y / 18446744073709551616 : Nat) : Int), .int .u64 ((x * y % 18446744073709551616 : Nat) : Int)]) ∧ w' = w := Any.bits_Mul Tryz.lays212 x y hx hy w
def Tryz.lays105_ren : Go.Shelf.Ren := ⟨fun | 105 => 103 | 212 => 102 | 99 => 128 | 165 => 129 | 166 => 45 | 170 => 130 | 169 => 46 | 263 => 126 | 264 => 127 | 206 => 149 | 240 => 81 | 241 => 150 | 276 => 110 | 277 => 168 | n => n,fun | 9 => 9 | 3 => 3 | 4 => 4 | 20 => 20 | 0 => 0 | 46 => 87 | 109 => 173 | 5 => 5 | 72 => 93 | 76 => 96 | 51 => 153 | 146 => 197 | 53 => 199 | 148 => 200 | 70 => 91 | 37 => 62 | 75 => 95 | 127 => 150 | 164 => 184 | 80 => 98 | n => n,fun | n => n⟩
theorem Tryz.lays105 : Go.Proofs.Lays.n105 Tryz.prog Tryz.lays105_ren := {
 mixed := by kernel_rfl
 f99 := Tryz.func128.trans (congrArg some (by kernel_rfl))
 f105 := Tryz.func103.trans (congrArg some (by kernel_rfl))
 f165 := Tryz.func129.trans (congrArg some (by kernel_rfl))
 f166 := Tryz.func45.trans (congrArg some (by kernel_rfl))
 f169 := Tryz.func46.trans (congrArg some (by kernel_rfl))
 f170 := Tryz.func130.trans (congrArg some (by kernel_rfl))
 f206 := Tryz.func149.trans (congrArg some (by kernel_rfl))
 f212 := Tryz.func102.trans (congrArg some (by kernel_rfl))
 f240 := Tryz.func81.trans (congrArg some (by kernel_rfl))
 f241 := Tryz.func150.trans (congrArg some (by kernel_rfl))
 f263 := Tryz.func126.trans (congrArg some (by kernel_rfl))
 f264 := Tryz.func127.trans (congrArg some (by kernel_rfl))
 f276 := Tryz.func110.trans (congrArg some (by kernel_rfl))
 f277 := Tryz.func168.trans (congrArg some (by kernel_rfl))
 t0 := Tryz.underlying0
 a0 := Tryz.isAgg0
 z0 := Tryz.sizeOf0
 v0 := Tryz.zeroValue0
 t3 := Tryz.underlying3
 a3 := Tryz.isAgg3
 z3 := Tryz.sizeOf3
 v3 := Tryz.zeroValue3
 t4 := Tryz.underlying4
 a4 := Tryz.isAgg4
 z4 := Tryz.sizeOf4
 v4 := Tryz.zeroValue4
 t5 := Tryz.underlying5
 a5 := Tryz.isAgg5
 z5 := Tryz.sizeOf5
 v5 := Tryz.zeroValue5
 t9 := Tryz.underlying9
 a9 := Tryz.isAgg9
 z9 := Tryz.sizeOf9
 v9 := Tryz.zeroValue9
 t20 := Tryz.underlying20
 a20 := Tryz.isAgg20
 z20 := Tryz.sizeOf20
 v20 := Tryz.zeroValue20
 t37 := Tryz.underlying62
 a37 := Tryz.isAgg62
 z37 := Tryz.sizeOf62
 v37 := Tryz.zeroValue62
 t46 := Tryz.underlying87
 a46 := Tryz.isAgg87
 z46 := Tryz.sizeOf87
 v46 := Tryz.zeroValue87
 t51 := Tryz.underlying153
 a51 := Tryz.isAgg153
 z51 := Tryz.sizeOf153
 v51 := Tryz.zeroValue153
 t53 := Tryz.underlying199
 a53 := Tryz.isAgg199
 z53 := Tryz.sizeOf199
 v53 := Tryz.zeroValue199
 t70 := Tryz.underlying91
 a70 := Tryz.isAgg91
 z70 := Tryz.sizeOf91
 v70 := Tryz.zeroValue91
 t72 := Tryz.underlying93
 a72 := Tryz.isAgg93
 z72 := Tryz.sizeOf93
 v72 := Tryz.zeroValue93
 t75 := Tryz.underlying95
 a75 := Tryz.isAgg95
 z75 := Tryz.sizeOf95
 v75 := Tryz.zeroValue95
 t76 := Tryz.underlying96
 a76 := Tryz.isAgg96
 z76 := Tryz.sizeOf96
 v76 := Tryz.zeroValue96
 t109 := Tryz.underlying173
 a109 := Tryz.isAgg173
 z109 := Tryz.sizeOf173
 v109 := Tryz.zeroValue173
 t127 := Tryz.underlying150
 a127 := Tryz.isAgg150
 z127 := Tryz.sizeOf150
 v127 := Tryz.zeroValue150
 t146 := Tryz.underlying197
 a146 := Tryz.isAgg197
 z146 := Tryz.sizeOf197
 v146 := Tryz.zeroValue197
 t148 := Tryz.underlying200
 a148 := Tryz.isAgg200
 z148 := Tryz.sizeOf200
 v148 := Tryz.zeroValue200
 t164 := Tryz.underlying184
 a164 := Tryz.isAgg184
 z164 := Tryz.sizeOf184
 v164 := Tryz.zeroValue184 }
theorem Tryz.Builder_Extra_105 : Builder.Extra Tryz.prog Tryz.lays105_ren := {
 sizeBuilder := by kernel_rfl
 liesBuilder := by kernel_rfl
 t5 := Tryz.underlying5
 a5 := Tryz.isAgg5
 z5 := Tryz.sizeOf5
 v5 := Tryz.zeroValue5
 infoByte := by kernel_rfl
 cellsByte := by kernel_rfl
 sizeByte := by kernel_rfl
 neB5 := by decide }
open Go.RowKit Go.Lib in
theorem Tryz.strings_Repeat_main (s : ByteArray) (c : Nat) (w : World) (hc2 : 2 ≤ c) (hc : c ≤ 9223372036854775807) (hlen : s.size * c ≤ 140737488355328) (h0 : 0 < s.size) :
  Calls Tryz.prog 103 #[.string s, .int .i64 c] w fun e w' => e = .returned (.string ⟨(Lib.repeatL s.data.toList c).toArray⟩) ∧ Below w.heap.size w w' := Any.strings_Repeat_main Tryz.lays105 Tryz.Builder_Extra_105 s c w hc2 hc hlen h0
open Go.RowKit Go.Lib in
theorem Tryz.strings_Repeat (s : ByteArray) (c : Nat) (w : World) (hc : c ≤ 9223372036854775807) (hlen : s.size * c ≤ 140737488355328) :
  Calls Tryz.prog 103 #[.string s, .int .i64 c] w fun e w' => e = .returned (.string ⟨(Lib.repeatL s.data.toList c).toArray⟩) ∧ Below w.heap.size w w' := Any.strings_Repeat Tryz.lays105 Tryz.Builder_Extra_105 s c w hc hlen
end Go.Proofs
namespace Go.Proofs.YtcmcdddnckcpcaaGreatDoor
open Go.RowKit
abbrev Bs := List UInt8
def mk (l : Bs) : ByteArray := ⟨l.toArray⟩
theorem mk_list (s : ByteArray) : mk s.data.toList = s := rfl
theorem mk_data (l : Bs) : (mk l).data.toList = l := by simp [mk]
theorem mk_size (l : Bs) : (mk l).size = l.length := by simp [mk,ByteArray.size]
theorem mk_toList' (a : Bs) : (mk a).toList = a := by rw [ByteArray.toList_eq,mk_data]
theorem below_alloc (w : World) (o : Obj) : Below w.heap.size w (w.alloc o) := (Below.refl _ w).alloc (Nat.le_refl _) o
theorem cell_lt {w : World} {a : Addr} {v : Value} (h : w.cell? a = some v) : a.block < w.heap.size := by
 rcases Nat.lt_or_ge a.block w.heap.size with h' | h'
 ·exact h'
 ·simp [World.cell?,Array.getElem?_eq_none h'] at h
def Lies (w : World) (A : Option Addr) (xs : List Value) : Prop := 0 < xs.length → ∃ g o,A = some ⟨g,o,none⟩ ∧ g < w.heap.size ∧ ∀ j u,xs[j]? = some u → w.cell? ⟨g,o + j,none⟩ = some u
theorem Lies.below {w w' : World} {A : Option Addr} {xs : List Value} (h : Lies w A xs) {B : Nat} (hB : w.heap.size ≤ B) (hb : Below B w w') : Lies w' A xs := by
 intro h0
 obtain ⟨g,o,rfl,hl,hc⟩ := h h0
 have hl' := Nat.lt_of_lt_of_le hl hB
 exact ⟨g,o,rfl,Nat.lt_of_lt_of_le hl hb.size,fun j u hu => (hb.cell (p := ⟨g,o + j,none⟩) hl').trans (hc j u hu)⟩
theorem add_lit' (g o j : Nat) : (⟨g,o,none⟩ : Addr).add j = ⟨g,o + j,none⟩ := by unfold Addr.add;split <;> simp_all
theorem Lies.of_row {w : World} {B c n size : Nat} {e : TypeId} {A : Option Addr} {xs : List Value} (h : w.ownsRow B e size (.slice A n c) n xs) : Lies w A xs := by
 intro h0
 rcases h.2 with ⟨_,e0⟩ | ⟨g,c',cur,hv,hg,hh,hc,_,hs,ht⟩
 ·have := h.1
  subst e0
  omega
 ·injection hv with hA
  refine ⟨g,0,hA,(Array.getElem?_eq_some_iff.1 hh).1,fun j u hj => ?_⟩
  have hk : j < n * size := by
   have := (List.getElem?_eq_some_iff.1 hj).1
   rw [h.1] at this;exact this
  rw [← ht,List.getElem?_take,if_pos hk] at hj
  unfold World.cell?;rw [hh];simpa using hj
def Blk (w : World) (b : Nat) (cs : Array Value) (e : TypeId) : Prop := w.heap[b]? = some (.cells cs e (0,0))
theorem Blk.cell {w : World} {b : Nat} {cs : Array Value} {e : TypeId} (h : Blk w b cs e) (i : Nat) : w.cell? ⟨b,i,none⟩ = cs[i]? := by
 unfold Blk at h
 unfold World.cell?;rw [h];simp
theorem Blk.frozen {w : World} {b : Nat} {cs : Array Value} {e : TypeId} (h : Blk w b cs e) (i : Nat) : w.frozen? ⟨b,i,none⟩ = false := by
 unfold Blk at h
 unfold World.frozen?;rw [h];simp
theorem Blk.set {w : World} {b : Nat} {cs : Array Value} {e : TypeId} (h : Blk w b cs e) (i : Nat) (v : Value) : Blk (w.setCell ⟨b,i,none⟩ v) b (cs.setIfInBounds i v) e := by
 unfold Blk at h ⊢
 show (w.heap.modify b _)[b]? = _
 rw [Array.getElem?_modify,if_pos rfl,h];simp
theorem Blk.lt {w : World} {b : Nat} {cs : Array Value} {e : TypeId} (h : Blk w b cs e) : b < w.heap.size := (Array.getElem?_eq_some_iff.1 h).1
theorem Blk.below {w w' : World} {b : Nat} {cs : Array Value} {e : TypeId} (h : Blk w b cs e) (hb : Below w.heap.size w w') : Blk w' b cs e := (hb.block b h.lt).trans h
theorem Blk.new (w : World) (cs : Array Value) (e : TypeId) : Blk (w.alloc (.cells cs e)) w.heap.size cs e := heap_alloc_new w _
theorem Blk.alloc {w : World} {b : Nat} {cs : Array Value} {e : TypeId} (h : Blk w b cs e) (o : Obj) : Blk (w.alloc o) b cs e := (Below.heap_alloc w o b h.lt).trans h
theorem Blk.drew {w : World} {b : Nat} {cs : Array Value} {e : TypeId} (h : Blk w b cs e) : Blk w.drew b cs e := h
theorem own_below {w w' : World} {b size : Nat} {e : TypeId} {v : Value} {n : Nat} {xs : List Value} (h : w.ownsRow b e size v n xs) (hb : Below w.heap.size w w') : w'.ownsRow b e size v n xs := by
 refine ⟨h.1,h.2.imp id ?_⟩
 rintro ⟨g,cap,cur,h1,h2,h3,h4⟩
 exact ⟨g,cap,cur,h1,h2,(hb.block g (Array.getElem?_eq_some_iff.1 h3).1).trans h3,h4⟩
theorem grown_trans {w a b : World} {r : Option Nat} (h : w.grownBy a r) (h2 : a.grownBy b r) : w.grownBy b r :=
 ⟨h2.os.trans h.os,h2.tape.trans h.tape,h2.output.trans h.output,Nat.le_trans h.size h2.size,fun k hk hne => (h2.block k (Nat.lt_of_lt_of_le hk h.size) hne).trans (h.block k hk hne)⟩
theorem grown_set (w : World) (b i : Nat) (v : Value) : w.grownBy (w.setCell ⟨b,i,none⟩ v) (some b) := by
 refine ⟨rfl,rfl,rfl,by simp [World.setCell],fun k hk hne => ?_⟩
 show (w.heap.modify b _)[k]? = _
 rw [Array.getElem?_modify,if_neg (fun e => hne (by rw [e]))]
theorem row_form {w : World} {B n size : Nat} {e : TypeId} {v : Value} {xs : List Value} (h : w.ownsRow B e size v n xs) : ∃ A c,v = .slice A n c := by
 rcases h.2 with ⟨hv,rfl⟩ | ⟨g,c,cur,hv,_⟩
 ·exact ⟨none,0,hv⟩
 ·exact ⟨_,c,hv⟩
theorem own_ne_blk {w : World} {B s n X : Nat} {e e' : TypeId} {v : Value} {xs : List Value} {cs : Array Value} (h : w.ownsRow B e s v n xs) (hX : Blk w X cs e') (he : e ≠ e') : v.ownBlock ≠ some X := by
 intro hv
 rcases h.2 with ⟨rfl,_⟩ | ⟨g,c,cur,rfl,_,hg,_⟩
 ·simp [Value.ownBlock] at hv
 ·simp only [Value.ownBlock,Option.some.injEq] at hv
  subst hv
  unfold Blk at hX
  rw [hg] at hX
  simp only [Option.some.injEq,Obj.cells.injEq] at hX
  exact he hX.2.1
theorem Blk.grown {w w' : World} {X : Nat} {cs : Array Value} {e : TypeId} {r : Option Nat} (h : Blk w X cs e) (hg : w.grownBy w' r) (hr : r ≠ some X) : Blk w' X cs e := (hg.block X h.lt (fun e => hr e.symm)).trans h
theorem own_set {w : World} {B s n X : Nat} {e e' : TypeId} {v : Value} {xs : List Value} {cs : Array Value} (h : w.ownsRow B e s v n xs) (hX : Blk w X cs e') (he : e ≠ e') (i : Nat) (u : Value) : (w.setCell ⟨X,i,none⟩ u).ownsRow B e s v n xs :=
 h.kept (grown_set w X i u) (.inr (own_ne_blk h hX he))
def Typed (w : World) (A : Option Addr) (e : TypeId) : Prop := ∀ a,A = some a → ∃ cs fr,w.heap[a.block]? = some (.cells cs e fr)
theorem Typed.below {w w' : World} {A : Option Addr} {e : TypeId} (h : Typed w A e) (hb : Below w.heap.size w w') : Typed w' A e := by
 intro a ha
 obtain ⟨cs,fr,hc⟩ := h a ha
 exact ⟨cs,fr,(hb.block _ (Array.getElem?_eq_some_iff.1 hc).1).trans hc⟩
theorem Typed.of_row {w : World} {B e s n c : Nat} {A : Option Addr} {xs : List Value} (h : w.ownsRow B e s (.slice A n c) n xs) : Typed w A e := by
 intro a ha
 rcases h.2 with ⟨hv,_⟩ | ⟨g,cap,cur,hv,_,hg,_⟩
 ·simp [ha] at hv
 ·simp only [Value.slice.injEq] at hv
  rw [ha] at hv
  rw [Option.some.inj hv.1]
  exact ⟨cur,_,hg⟩
theorem run_app {w : World} {P : Program} (ty t e : TypeId) (i : TypeInfo) (z : Value) (size bytes : Nat) (ht : P.underlying t = some (.slice e)) (hi : P.info? e = some i) (hz : i.zero = some z) (hs : i.size = size) (hby : i.bytes = bytes) (hzs : z.cells.size = size) (hsz : 0 < size)
  (B : Nat) (v : Value) (n : Nat) (xs : List Value) (hown : w.ownsRow B e size v n xs) (A : Option Addr) (m c : Nat) (news : List Value) (hl : news.length = m * size) (hL : Lies w A news) (h1 : ∀ u ∈ news,u.oneCell' = true) (h63 : n + m ≤ 10000000) (hby2 : bytes ≤ 1000) (hB : B ≤ w.heap.size) :
  ∃ A' c' w',(Builtin.append_ #[t,t] ty #[v, .slice A m c]).run P w = .ok (.slice A' (n + m) c') w' ∧ w'.ownsRow B e size (.slice A' (n + m) c') (n + m) (xs ++ news) ∧ w.grownBy w' v.ownBlock := by
 have hform : ∀ {w' : World} {v' : Value} {k : Nat} {ys : List Value},w'.ownsRow B e size v' k ys → ∃ A' c',v' = .slice A' k c' := by
  intro w' v' k ys h
  rcases h.2 with ⟨h1,h2⟩ | ⟨g,cap,cur,h1,_⟩
  ·subst h2;exact ⟨_,_,h1⟩
  ·exact ⟨_,_,h1⟩
 have hb2 : (n + m) * bytes ≤ 140737488355328 := by
  have := Nat.mul_le_mul h63 hby2
  omega
 cases A with
 | none =>
  have hm0 : news = [] := by
   cases news with
   | nil => rfl
   | cons a l => obtain ⟨g,o,hA,_⟩ := hL (by simp);cases hA
  subst hm0
  have hm : m = 0 := by
   rcases Nat.eq_zero_or_pos m with h | h
   ·exact h
   ·have := Nat.mul_pos h hsz;simp at hl;omega
  subst hm
  obtain ⟨A',c',rfl⟩ := hform hown
  refine ⟨A',c',w, ?_,by simpa using hown,World.grownBy.refl w _⟩
  rcases hown.2 with ⟨hv,h2⟩ | ⟨g,cap,cur,hv,_,_,hnc,_⟩
  ·injection hv with e1 e2 e3
   subst e1;subst e3;subst h2
   simp [Builtin.append_,run_underlying ht,sizeOf,typeInfo,hi,Builtin.lenOf,Builtin.firstCells]
  ·injection hv with e1 e2 e3
   subst e1;subst e3
   simp [Builtin.append_,run_underlying ht,sizeOf,typeInfo,hi,Builtin.lenOf,Builtin.firstCells,hnc,storeCells]
 | some ad =>
  have hcells : ∀ j u,news[j]? = some u → w.cell? (ad.add j) = some u := by
   intro j u hu
   obtain ⟨g,o,hA,_,hc⟩ := hL (by have := (List.getElem?_eq_some_iff.1 hu).1;omega)
   injection hA with hA
   subst hA
   rw [add_lit']
   exact hc j u hu
  obtain ⟨v',w',hrun,h2,h3,_⟩ := run_append_own_at (P := P) w B t ty e i z size bytes ht hi hz hs hby hzs hsz v n xs hown ad m c news hl hcells h1 (by simp only [maxLen];omega) hb2 hB
  obtain ⟨A',c',rfl⟩ := hform h2
  exact ⟨A',c',w',hrun,h2,h3⟩
theorem wp_app {w : World} {P : Program} {o : Oper} {a : Act} {K : Act → World → Prop} {Q : Exit → Act → World → Prop} (s x : Operand) (t e : TypeId)
  (ho : o.op = .call { callee := .builtin .append,args := #[s,x],argTypes := #[t,t] }) (i : TypeInfo) (z : Value) (size bytes : Nat) (ht : P.underlying t = some (.slice e)) (hi : P.info? e = some i) (hz : i.zero = some z) (hs : i.size = size) (hby : i.bytes = bytes) (hzs : z.cells.size = size) (hsz : 0 < size)
  (B : Nat) (v : Value) (hsv : a.eval s = v) (n : Nat) (xs : List Value) (hown : w.ownsRow B e size v n xs) (A : Option Addr) (m c : Nat) (hx : a.eval x = .slice A m c) (news : List Value) (hl : news.length = m * size) (hL : Lies w A news) (h1 : ∀ u ∈ news,u.oneCell' = true) (h63 : n + m ≤ 10000000) (hby2 : bytes ≤ 1000) (hB : B ≤ w.heap.size)
  (hK : ∀ A' c' w',w'.ownsRow B e size (.slice A' (n + m) c') (n + m) (xs ++ news) → w.grownBy w' v.ownBlock → K (a.put o.dst (.slice A' (n + m) c')) w') : o.wp P a w K Q := by
 obtain ⟨A',c',w',hrun,h2,h3⟩ := run_app (P := P) o.type t e i z size bytes ht hi hz hs hby hzs hsz B v n xs hown A m c news hl hL h1 h63 hby2 hB
 unfold Oper.wp execOp
 simp only [ho,resolve,invoke,builtin,Sem.run_bind,Sem.run_pure,Result.andThen_ok,List.map_toArray,List.map_cons,List.map_nil,hsv,hx,hrun]
 exact hK _ _ _ h2 h3
theorem wpOp_of {P : Program} {ops : Array Oper} {Q : Exit → Act → World → Prop} {i : Nat} {K : Act → World → Prop} {a : Act} {w : World} {o : Oper} (ho : ops[i]? = some o) (hg : o.guard = none) (h : o.wp P a w K Q) : wpOp P ops Q i K a w := by
 unfold wpOp
 simp only [ho]
 rw [if_pos (by simp [Region.wanted,hg])]
 exact .inl h
theorem own_weaken {w : World} {B B' e size n : Nat} {v : Value} {xs : List Value} (h : w.ownsRow B e size v n xs) (hB : B' ≤ B) : w.ownsRow B' e size v n xs :=
 ⟨h.1,h.2.imp id (fun ⟨g,c,cur,h1,h2,h3⟩ => ⟨g,c,cur,h1,Nat.le_trans hB h2,h3⟩)⟩
def txc (l : List Bs) : List Value := l.map fun t => .string (mk t)
theorem txc_at (l : List Bs) (j : Nat) (h : j < l.length) : (txc l)[j]? = some (.string (mk l[j])) := by simp [txc,h]
theorem row_kind {w : World} {B : Nat} {e : TypeId} {size : Nat} {v : Value} {n : Nat} {xs : List Value} (h : w.ownsRow B e size v n xs) (g : Nat) (hg : v.ownBlock = some g) : ∃ c fz,w.heap[g]? = some (.cells c e fz) := by
 rcases h.2 with ⟨rfl,_⟩ | ⟨g',c',cur,rfl,_,hh,_⟩
 ·cases hg
 ·cases hg
  exact ⟨_,_,hh⟩
theorem cell_old (w : World) (o : Obj) (p : Addr) (h : p.block < w.heap.size) : (w.alloc o).cell? p = w.cell? p := World.cell?_of_block (Below.heap_alloc w o p.block h)
theorem own_form' {w : World} {base size : Nat} {e : TypeId} {v : Value} {n : Nat} {xs : List Value} (h : w.ownsRow base e size v n xs) : ∃ A cap,v = .slice A n cap := by
 rcases h.2 with ⟨h1,h2⟩ | ⟨g,cap,cur,h1,_⟩
 ·subst h2;exact ⟨_,_,h1⟩
 ·exact ⟨_,_,h1⟩
theorem row_cap' {w : World} {B cap n size : Nat} {e : TypeId} {A : Option Addr} {xs : List Value} (h : w.ownsRow B e size (.slice A n cap) n xs) : n ≤ cap := by
 rcases h.2 with ⟨hv,h0⟩ | ⟨g,c,cur,hv,_,_,hc,_⟩
 ·omega
 ·injection hv with _ _ h3
  subst h3
  exact hc
structure Frm (X : List Nat) (w w' : World) : Prop where
 os : w'.os = w.os
 tape : w'.tape = w.tape
 output : w'.output = w.output
 size : w.heap.size ≤ w'.heap.size
 block : ∀ k,k < w.heap.size → k ∉ X → w'.heap[k]? = w.heap[k]?
theorem Frm.refl (X : List Nat) (w : World) : Frm X w w := ⟨rfl,rfl,rfl,Nat.le_refl _,fun _ _ _ => rfl⟩
theorem Frm.of_below {w w' : World} (X : List Nat) (h : Below w.heap.size w w') : Frm X w w' := ⟨h.os,h.tape,h.output,h.size,fun k hk _ => h.block k hk⟩
theorem Frm.trans {X Y : List Nat} {a b c : World} (h : Frm X a b) (k : Frm Y b c) (hY : ∀ y ∈ Y,y ∈ X ∨ a.heap.size ≤ y) : Frm X a c :=
 ⟨k.os.trans h.os,k.tape.trans h.tape,k.output.trans h.output,Nat.le_trans h.size k.size,fun i hi hx => (k.block i (Nat.lt_of_lt_of_le hi h.size) (fun hy => (hY i hy).elim hx (fun hh => by omega))).trans (h.block i hi hx)⟩
theorem Frm.mono {X Y : List Nat} {w w' : World} (h : Frm X w w') (hXY : ∀ x ∈ X,x ∈ Y) : Frm Y w w' := ⟨h.os,h.tape,h.output,h.size,fun k hk hy => h.block k hk (fun hx => hy (hXY k hx))⟩
theorem Frm.drew {X : List Nat} {w w' : World} (h : Frm X w w') : Frm X w w'.drew := ⟨h.os,h.tape,h.output,h.size,h.block⟩
theorem Frm.alloc {X : List Nat} {w w' : World} (h : Frm X w w') (o : Obj) : Frm X w (w'.alloc o) :=
 ⟨h.os,h.tape,h.output,by simp;have := h.size;omega,fun k hk hx => (Below.heap_alloc w' o k (Nat.lt_of_lt_of_le hk h.size)).trans (h.block k hk hx)⟩
theorem Frm.setCell {X : List Nat} {w w' : World} (h : Frm X w w') {p : Addr} (hp : p.block ∈ X ∨ w.heap.size ≤ p.block) (v : Value) : Frm X w (w'.setCell p v) :=
 ⟨h.os,h.tape,h.output,by simp;exact h.size,fun k hk hx => (Below.heap_setCell w' p v k (fun e => by subst e;exact hp.elim hx (fun hh => by omega))).trans (h.block k hk hx)⟩
theorem Frm.grown {X : List Nat} {w w1 w2 : World} {row : Option Nat} (h : Frm X w w1) (hg : w1.grownBy w2 row) (hr : ∀ k,row = some k → k ∈ X ∨ w.heap.size ≤ k) : Frm X w w2 :=
 ⟨hg.os.trans h.os,hg.tape.trans h.tape,hg.output.trans h.output,Nat.le_trans h.size hg.size,fun k hk hx => (hg.block k (Nat.lt_of_lt_of_le hk h.size) (fun e => (hr k e.symm).elim hx (fun hh => by omega))).trans (h.block k hk hx)⟩
theorem Frm.below {X : List Nat} {w w' : World} {B : Nat} (h : Frm X w w') (hX : ∀ x ∈ X,B ≤ x) (hB : B ≤ w.heap.size) : Below B w w' := ⟨h.os,h.tape,h.output,h.size,fun k hk => h.block k (by omega) (fun hx => by have := hX k hx;omega)⟩
theorem Frm.cell {X : List Nat} {w w' : World} (h : Frm X w w') {p : Addr} (hp : p.block < w.heap.size) (hx : p.block ∉ X) : w'.cell? p = w.cell? p := World.cell?_of_block (h.block _ hp hx)
theorem Frm.blk {X : List Nat} {w w' : World} (h : Frm X w w') {b : Nat} {cs : Array Value} {e : TypeId} (hb : Blk w b cs e) (hx : b ∉ X) : Blk w' b cs e := (h.block b hb.lt hx).trans hb
theorem Frm.row {X : List Nat} {w w' : World} (h : Frm X w w') {B size n : Nat} {e : TypeId} {v : Value} {xs : List Value} (ho : w.ownsRow B e size v n xs) (hx : ∀ g,v.ownBlock = some g → g ∉ X) : w'.ownsRow B e size v n xs := by
 refine ⟨ho.1,ho.2.imp id ?_⟩
 rintro ⟨g,c,cur,hv,hB,hh,r⟩
 exact ⟨g,c,cur,hv,hB,(h.block g (Array.getElem?_eq_some_iff.1 hh).1 (hx g (by rw [hv];rfl))).trans hh,r⟩
theorem Frm.lies {X : List Nat} {w w' : World} (h : Frm X w w') {A : Option Addr} {xs : List Value} (ho : Lies w A xs) (hx : ∀ a,A = some a → a.block ∉ X) : Lies w' A xs := by
 intro h0
 obtain ⟨g,o,hA,hg,hc⟩ := ho h0
 have hn : g ∉ X := hx _ hA
 exact ⟨g,o,hA,Nat.lt_of_lt_of_le hg h.size,fun j u hu => (h.cell (p := ⟨g,o + j,none⟩) hg hn).trans (hc j u hu)⟩
section
variable {P : Program} {ops : Array Oper} {Q : Exit → Act → World → Prop} {md : Region.Mode} {st : Nat} {C1 C2 : World → Prop}
def HeldS (st : Nat) (C1 C2 : World → Prop) (L : Array Bool) (w : World) : Prop := C1 w ∧ (L.getD st false = false → C2 w)
def wpAnyS (P : Program) (md : Region.Mode) (ops : Array Oper) (Q : Exit → Act → World → Prop) (st : Nat) (C1 C2 : World → Prop) : Nat → Array Bool → Act → World → Prop
 | 0,L,a,w => Region.ready md ops L = [] ∧ Q .normal a w
 | fuel + 1,L,a,w => (Region.ready md ops L = [] → Q .normal a w) ∧
  ∀ i ∈ Region.ready md ops L,wpOp P ops Q i (fun a' w' => HeldS st C1 C2 (L.setIfInBounds i true) w' ∧ wpAnyS P md ops Q st C1 C2 fuel (L.setIfInBounds i true) a' w') a w
theorem wpAny_of_S : ∀ (fuel : Nat) (L : Array Bool) (a : Act) (w : World),wpAnyS P md ops Q st C1 C2 fuel L a w → wpAny P md ops Q fuel L a w
 | 0,_,_,_,h => h
 | fuel + 1,_,_,_,h => ⟨h.1,fun i hi => wpOp_mono (fun a' w' h' => wpAny_of_S fuel _ a' w' h'.2) (h.2 i hi)⟩
theorem heldS_set {i : Nat} (hne : i ≠ st) {L : Array Bool} {w : World} : HeldS st C1 C2 (L.setIfInBounds i true) w ↔ HeldS st C1 C2 L w := by
 unfold HeldS;rw [getD_set_ne false hne]
theorem wpAnyS_first {i : Nat} {oi : Oper} {v : Value} (C : World → Prop) (G : Array Bool → Prop) (hi : ops[i]? = some oi) (hsel : ∀ (j : Nat) (o : Oper) cs b,ops[j]? = some o → o.op ≠ .select cs b)
  (hQ : ∀ c a w,Q (.panic c) (a.put oi.dst v) w → Q (.panic c) a w) (hne : i ≠ st) (hC : ∀ L w,G L → HeldS st C1 C2 L w → C w)
  (hG : ∀ (L : Array Bool) (j : Nat),G L → L.getD i true = false → j ∈ Region.ready md ops L → j ≠ i → G (L.setIfInBounds j true)) :
  ∀ (fuel : Nat) (L : Array Bool) (a : Act) (w : World),G L →
   (∀ j oj,ops[j]? = some oj → j ≠ i → L.getD j true = false → (∀ e ∈ oj.after,Region.binds md e = true → e.on ≠ i) → oi.apart ops oj = true) →
   i ∈ Region.ready md ops L → YieldsIf P ops C oi v a → HeldS st C1 C2 L w →
   wpAnyS P md ops Q st C1 C2 fuel (L.setIfInBounds i true) (a.put oi.dst v) w → wpAnyS P md ops Q st C1 C2 (fuel + 1) L a w := by
 intro fuel
 induction fuel with
 | zero =>
  intro L a w hL _ hr hy hS H
  refine ⟨fun h => (by rw [h] at hr;cases hr),fun j hj => ?_⟩
  by_cases hji : j = i
  ·subst hji
   exact hy.wpOp hi (hC _ _ hL hS) ⟨(heldS_set hne).2 hS,H⟩
  ·have := ready_mono hj hji
   rw [H.1] at this
   cases this
 | succ fuel ih =>
  intro L a w hL hfree hr hy hS H
  refine ⟨fun h => (by rw [h] at hr;cases hr),fun j hj => ?_⟩
  by_cases hji : j = i
  ·subst hji
   exact hy.wpOp hi (hC _ _ hL hS) ⟨(heldS_set hne).2 hS,H⟩
  ·have h1 := H.2 j (ready_mono hj hji)
   have h0 := (mem_ready.1 hr).1
   obtain ⟨hjun,oj,hoj,hall⟩ := mem_ready.1 hj
   have hnot : ∀ e ∈ oj.after,Region.binds md e = true → e.on ≠ i := fun e he hb heq => by
    have k1 := hall e he hb
    rw [heq] at k1
    rcases Nat.lt_or_ge i L.size with h' | h'
    ·simp [h'] at h0 k1;rw [h0] at k1;cases k1
    ·simp [Array.getElem?_eq_none h'] at k1
   have h2 := wpOp_putIf hoj (hfree j oj hoj hji hjun hnot) (fun cs b => hsel i oi cs b hi) (fun cs b => hsel j oj cs b hoj) hQ hy h1
   have hfree' : ∀ k ok,ops[k]? = some ok → k ≠ i → (L.setIfInBounds j true).getD k true = false →
     (∀ e ∈ ok.after,Region.binds md e = true → e.on ≠ i) → oi.apart ops ok = true := fun k ok hk hki hun hno => by
    refine hfree k ok hk hki ?_ hno
    by_cases hjk : j = k
    ·subst hjk;exact hjun
    ·rw [getD_set_ne true hjk] at hun;exact hun
   refine wpOp_mono (fun a' w' h3 => ?_) h2
   obtain ⟨hy3,hS3,h4⟩ := h3
   rw [Array.setIfInBounds_comm _ _ (Ne.symm hji)] at hS3 h4
   have hS3' := (heldS_set hne).1 hS3
   exact ⟨hS3',ih (L.setIfInBounds j true) a' w' (hG L j hL h0 hj hji) hfree' (ready_mono hr (Ne.symm hji)) hy3 hS3' h4⟩
theorem wpAnyS_take {i : Nat} {oi : Oper} {v : Value} {fuel : Nat} {L : Array Bool} {a : Act} {w : World} (hi : ops[i]? = some oi) (hne : i ≠ st)
  (hs : Region.noSelect ops = true) (hf : Region.free md ops L i = true) (hr : (Region.ready md ops L).contains i = true)
  (hQ : ∀ c a w,Q (.panic c) (a.put oi.dst v) w → Q (.panic c) a w) (hy : YieldsIf P ops C1 oi v a) (hS : HeldS st C1 C2 L w)
  (h : wpAnyS P md ops Q st C1 C2 fuel (L.setIfInBounds i true) (a.put oi.dst v) w) : wpAnyS P md ops Q st C1 C2 (fuel + 1) L a w :=
 wpAnyS_first C1 (fun _ => True) hi (Region.noSelect_spec hs) hQ hne (fun _ _ _ h => h.1) (fun _ _ _ _ _ _ => trivial) fuel L a w trivial (Region.free_spec hi hf) (by simpa using hr) hy hS h
theorem wpAnyS_take2 {i : Nat} {oi os : Oper} {v : Value} {fuel : Nat} {L : Array Bool} {a : Act} {w : World} (hi : ops[i]? = some oi) (hne : i ≠ st)
  (hos : ops[st]? = some os) (hw : os.after.any (fun e => Region.binds md e && e.on == i) = true) (hL : L.getD st false = false)
  (hs : Region.noSelect ops = true) (hf : Region.free md ops L i = true) (hr : (Region.ready md ops L).contains i = true)
  (hQ : ∀ c a w,Q (.panic c) (a.put oi.dst v) w → Q (.panic c) a w) (hy : YieldsIf P ops (fun w => C1 w ∧ C2 w) oi v a) (hS : HeldS st C1 C2 L w)
  (h : wpAnyS P md ops Q st C1 C2 fuel (L.setIfInBounds i true) (a.put oi.dst v) w) : wpAnyS P md ops Q st C1 C2 (fuel + 1) L a w := by
 refine wpAnyS_first (fun w => C1 w ∧ C2 w) (fun L => L.getD st false = false) hi (Region.noSelect_spec hs) hQ hne (fun _ _ hg h => ⟨h.1,h.2 hg⟩) ?_ fuel L a w hL (Region.free_spec hi hf) (by simpa using hr) hy hS h
 intro L j hg hun hj _
 have hjs : j ≠ st := by
  rintro rfl
  obtain ⟨_,o,ho,hall⟩ := mem_ready.1 hj
  rw [hos] at ho
  cases ho
  obtain ⟨k,hk,hb⟩ := Array.any_eq_true.1 hw
  simp only [Bool.and_eq_true,beq_iff_eq] at hb
  have k1 := hall _ (Array.getElem_mem hk) hb.1
  rw [hb.2] at k1
  rcases Nat.lt_or_ge i L.size with h' | h'
  ·simp [h'] at hun k1;rw [hun] at k1;cases k1
  ·simp [Array.getElem?_eq_none h'] at k1
 show (L.setIfInBounds j true).getD st false = false
 rw [getD_set_ne false hjs];exact hg
theorem wpAnyS_all {rs : List Nat} {fuel : Nat} {L : Array Bool} {a : Act} {w : World} (hr : Region.ready md ops L = rs) (hne : rs ≠ [])
  (h : ∀ i ∈ rs,wpOp P ops Q i (fun a' w' => HeldS st C1 C2 (L.setIfInBounds i true) w' ∧ wpAnyS P md ops Q st C1 C2 fuel (L.setIfInBounds i true) a' w') a w) : wpAnyS P md ops Q st C1 C2 (fuel + 1) L a w :=
 ⟨fun h0 => absurd (hr ▸ h0) hne,hr ▸ h⟩
theorem wpAnyS_done {L : Array Bool} {a : Act} {w : World} (hr : Region.ready md ops L = []) (h : Q .normal a w) : ∀ fuel,wpAnyS P md ops Q st C1 C2 fuel L a w
 | 0 => ⟨hr,h⟩
 | _ + 1 => ⟨fun _ => h,by rw [hr];simp⟩
theorem wp_region_S (st : Nat) (C1 C2 : World → Prop) {id : Nat} {a : Act} {w : World} (hm : P.follows .mixedOrders = true)
  (h : wpAnyS P .any ops Q st C1 C2 ops.size (Array.replicate ops.size false) a { w with drawn := w.drawn + 1 }) : (Code.region id ops true).wp P Q a w :=
 wp_region_any hm (wpAny_of_S _ _ _ _ h)
end
section
variable {P : Program} {ops : Array Oper} {Q : Exit → Act → World → Prop} {md : Region.Mode} {S : World → Prop} {st : Nat} {C1 C2 : World → Prop}
theorem tkH (i : Nat) (v : Value) {oi : Oper} {fuel : Nat} {listed : Array Bool} {a : Act} {w : World} (hi : ops[i]? = some oi) (hS : S w) (hy : ∀ w, S w → (execOp a.eval oi).run P w = .ok (.value v) w)
    (h : wpAnyH P md ops Q S fuel (listed.setIfInBounds i true) (a.put oi.dst v) w) (hg : Region.wanted oi (yielded ops a.tmps) = true := by kernel_rfl) (hs : Region.noSelect ops = true := by kernel_rfl) (hf : Region.free md ops listed i = true := by kernel_rfl) (hr : (Region.ready md ops listed).contains i = true := by kernel_rfl)
    (hQ : ∀ c a w, Q (.panic c) (a.put oi.dst v) w → Q (.panic c) a w := by exact fun c a w h => h) : wpAnyH P md ops Q S (fuel + 1) listed a w :=
  wpAnyH_take hi hs hf hr hQ (.inl ⟨hg, hy⟩) hS h
theorem tkQ (i : Nat) (v : Value) {oi : Oper} {fuel : Nat} {listed : Array Bool} {a : Act} {w : World} (hi : ops[i]? = some oi) (hS : S w) 
    (h : wpAnyH P md ops Q S fuel (listed.setIfInBounds i true) (a.put oi.dst v) w) (hy : ∀ w, S w → (execOp a.eval oi).run P w = .ok (.value v) w := by (intro _ hS; clear hS; go_simp)) (hg : Region.wanted oi (yielded ops a.tmps) = true := by kernel_rfl) (hs : Region.noSelect ops = true := by kernel_rfl) (hf : Region.free md ops listed i = true := by kernel_rfl) (hr : (Region.ready md ops listed).contains i = true := by kernel_rfl)
    (hQ : ∀ c a w, Q (.panic c) (a.put oi.dst v) w → Q (.panic c) a w := by exact fun c a w h => h) : wpAnyH P md ops Q S (fuel + 1) listed a w :=
  wpAnyH_take hi hs hf hr hQ (.inl ⟨hg, hy⟩) hS h
theorem tkN (i : Nat) {oi : Oper} {fuel : Nat} {listed : Array Bool} {a : Act} {w : World} (hi : ops[i]? = some oi) (hS : S w) (h : wpAnyH P md ops Q S fuel (listed.setIfInBounds i true) (a.put oi.dst undef) w)
    (hg : Region.wanted oi (yielded ops a.tmps) = false := by rfl) (hs : Region.noSelect ops = true := by kernel_rfl) (hf : Region.free md ops listed i = true := by kernel_rfl) (hr : (Region.ready md ops listed).contains i = true := by kernel_rfl)
    (hQ : ∀ c a w, Q (.panic c) (a.put oi.dst undef) w → Q (.panic c) a w := by exact fun c a w h => h) : wpAnyH P md ops Q S (fuel + 1) listed a w :=
  wpAnyH_take hi hs hf hr hQ (.inr ⟨hg, rfl⟩) hS h
theorem alH (r : Nat) {fuel : Nat} {listed : Array Bool} {a : Act} {w : World} (h : wpOp P ops Q r (fun a' w' => S w' ∧ wpAnyH P md ops Q S fuel (listed.setIfInBounds r true) a' w') a w) (hr : Region.ready md ops listed = [r] := by kernel_rfl) : wpAnyH P md ops Q S (fuel + 1) listed a w :=
  wpAnyH_all hr (by simp) (fun i hi => by
    simp only [List.mem_cons, List.not_mem_nil, or_false] at hi
    subst hi
    exact h)
theorem tkS (i : Nat) (v : Value) {oi : Oper} {fuel : Nat} {L : Array Bool} {a : Act} {w : World} (hi : ops[i]? = some oi) (hS : HeldS st C1 C2 L w) (hy : ∀ w, C1 w → (execOp a.eval oi).run P w = .ok (.value v) w)
    (h : wpAnyS P md ops Q st C1 C2 fuel (L.setIfInBounds i true) (a.put oi.dst v) w) (hne : i ≠ st := by decide) (hg : Region.wanted oi (yielded ops a.tmps) = true := by kernel_rfl) (hs : Region.noSelect ops = true := by kernel_rfl) (hf : Region.free md ops L i = true := by kernel_rfl) (hr : (Region.ready md ops L).contains i = true := by kernel_rfl)
    (hQ : ∀ c a w, Q (.panic c) (a.put oi.dst v) w → Q (.panic c) a w := by exact fun c a w h => h) : wpAnyS P md ops Q st C1 C2 (fuel + 1) L a w :=
  wpAnyS_take hi hne hs hf hr hQ (.inl ⟨hg, hy⟩) hS h
theorem alS (r : Nat) {fuel : Nat} {L : Array Bool} {a : Act} {w : World} (h : wpOp P ops Q r (fun a' w' => HeldS st C1 C2 (L.setIfInBounds r true) w' ∧ wpAnyS P md ops Q st C1 C2 fuel (L.setIfInBounds r true) a' w') a w) (hr : Region.ready md ops L = [r] := by kernel_rfl) : wpAnyS P md ops Q st C1 C2 (fuel + 1) L a w :=
  wpAnyS_all hr (by simp) (fun i hi => by
    simp only [List.mem_cons, List.not_mem_nil, or_false] at hi
    subst hi
    exact h)
end
theorem mixedT : Tryz.prog.follows Departure.mixedOrders = true := by kernel_rfl
def be (n : Nat) : Nat → Bs
 | 0 => []
 | k + 1 => be (n / 256) k ++ [UInt8.ofNat n]
def kOf (n : Nat) : Nat := Nat.log2 n / 7
def pre (k : Nat) : Nat := 256 - 2 ^ (8 - k)
def putB (n : Nat) : Bs := UInt8.ofNat (pre (kOf n) + n / 256 ^ kOf n) :: be n (kOf n)
theorem be_length (k : Nat) : ∀ n,(be n k).length = k := by
 induction k with
 | zero => intro n;rfl
 | succ k ih => intro n;simp [be,ih]
theorem be_cons (k : Nat) : ∀ n,be n (k + 1) = UInt8.ofNat (n / 256 ^ k) :: be n k := by
 induction k with
 | zero => intro n;simp [be]
 | succ k ih =>
  intro n
  rw [be,ih,be,List.cons_append,Nat.div_div_eq_div_mul,Nat.pow_succ,Nat.mul_comm 256]
def num (a : Nat) (l : Bs) : Nat := l.foldl (fun n c => n * 256 + c.toNat) a
theorem num_append (a : Nat) (l m : Bs) : num a (l ++ m) = num (num a l) m := by simp [num]
theorem num_be (k : Nat) : ∀ n a,num a (be n k) = a * 256 ^ k + n % 256 ^ k := by
 induction k with
 | zero => intro n a;simp [be,num,Nat.mod_one]
 | succ k ih =>
  intro n a
  rw [be,num_append,ih]
  simp only [num,List.foldl_cons,List.foldl_nil,UInt8.toNat_ofNat',Nat.pow_succ]
  have h1 := Nat.mod_mul (a := 256) (b := 256 ^ k) (x := n)
  rw [Nat.mul_comm (256 ^ k) 256,h1,Nat.add_mul,Nat.mul_assoc,Nat.mul_comm (256 ^ k) 256]
  have e : (2 : Nat) ^ 8 = 256 := rfl
  omega
theorem kOf_lt (n : Nat) : n < 128 ^ (kOf n + 1) := by
 unfold kOf
 rcases Nat.eq_zero_or_pos n with h | h
 ·subst h;exact Nat.pos_of_ne_zero (by simp)
 ·have h1 := Nat.lt_log2_self (n := n)
  have h2 : n.log2 + 1 ≤ 7 * (n.log2 / 7 + 1) := by omega
  calc n < 2 ^ (n.log2 + 1) := h1
   _ ≤ 2 ^ (7 * (n.log2 / 7 + 1)) := Nat.pow_le_pow_right (by omega) h2
   _ = 128 ^ (n.log2 / 7 + 1) := by rw [Nat.pow_mul]
theorem kOf_ge (n : Nat) (h : 0 < kOf n) : 128 ^ kOf n ≤ n := by
 unfold kOf at *
 have hn : n ≠ 0 := by rintro rfl;simp at h
 have h1 := Nat.log2_self_le hn
 calc 128 ^ (n.log2 / 7) = 2 ^ (7 * (n.log2 / 7)) := by rw [Nat.pow_mul]
  _ ≤ 2 ^ n.log2 := Nat.pow_le_pow_right (by omega) (by omega)
  _ ≤ n := h1
theorem kOf_le (n : Nat) (h : n ≤ 1099511627776) : kOf n ≤ 5 := by
 rcases Nat.lt_or_ge 5 (kOf n) with h1 | h1
 ·have h2 := kOf_ge n (by omega)
  have h3 : 128 ^ 6 ≤ 128 ^ kOf n := Nat.pow_le_pow_right (by omega) h1
  have h4 : (128 : Nat) ^ 6 = 4398046511104 := rfl
  omega
 ·exact h1
theorem top_lt (n : Nat) (h : n ≤ 1099511627776) : n / 256 ^ kOf n < 2 ^ (7 - kOf n) := by
 have h1 := kOf_lt n
 have h2 := kOf_le n h
 rw [Nat.div_lt_iff_lt_mul (Nat.pos_of_ne_zero (by simp))]
 have h3 : kOf n = 0 ∨ kOf n = 1 ∨ kOf n = 2 ∨ kOf n = 3 ∨ kOf n = 4 ∨ kOf n = 5 := by omega
 rcases h3 with e | e | e | e | e | e <;> rw [e] at h1 ⊢ <;> simpa using h1
def lead1 (c : UInt8) : Nat := if c.toNat < 128 then 0 else if c.toNat < 192 then 1 else if c.toNat < 224 then 2 else if c.toNat < 240 then 3 else if c.toNat < 248 then 4 else if c.toNat < 252 then 5 else if c.toNat < 254 then 6 else if c.toNat < 255 then 7 else 8
def getB (s : Bs) : Nat × Nat × Nat :=
 match s with
 | [] => (0,0,3)
 | c :: r => if 5 < lead1 c then (0,0,2) else if r.length < lead1 c then (0,0,3) else
  if 1099511627776 < num (c.toNat % 2 ^ (8 - lead1 c)) (r.take (lead1 c)) ∨ kOf (num (c.toNat % 2 ^ (8 - lead1 c)) (r.take (lead1 c))) ≠ lead1 c then (0,0,2)
  else (num (c.toNat % 2 ^ (8 - lead1 c)) (r.take (lead1 c)),lead1 c + 1,0)
theorem putB_length (n : Nat) : (putB n).length = kOf n + 1 := by simp [putB,be_length]
theorem get_put (n : Nat) (h : n ≤ 1099511627776) (r : Bs) : getB (putB n ++ r) = (n,kOf n + 1,0) := by
 have h1 := kOf_le n h
 have h2 := top_lt n h
 have h5 : kOf n = 0 ∨ kOf n = 1 ∨ kOf n = 2 ∨ kOf n = 3 ∨ kOf n = 4 ∨ kOf n = 5 := by omega
 have hc : (UInt8.ofNat (pre (kOf n) + n / 256 ^ kOf n)).toNat = pre (kOf n) + n / 256 ^ kOf n := by
  rw [UInt8.toNat_ofNat']
  unfold pre
  rcases h5 with e | e | e | e | e | e <;> rw [e] at h2 ⊢ <;> simp at h2 ⊢ <;> omega
 have hl : lead1 (UInt8.ofNat (pre (kOf n) + n / 256 ^ kOf n)) = kOf n := by
  unfold lead1
  rw [hc]
  unfold pre
  rcases h5 with e | e | e | e | e | e <;> rw [e] at h2 ⊢ <;> simp only [Nat.reducePow,Nat.reduceSub] at h2 ⊢ <;> (repeat' split) <;> omega
 have hm : (pre (kOf n) + n / 256 ^ kOf n) % 2 ^ (8 - kOf n) = n / 256 ^ kOf n := by
  unfold pre
  rcases h5 with e | e | e | e | e | e <;> rw [e] at h2 ⊢ <;> simp at h2 ⊢ <;> omega
 have ht : (be n (kOf n) ++ r).take (kOf n) = be n (kOf n) := by
  rw [List.take_append_of_le_length (by rw [be_length];exact Nat.le_refl _),List.take_of_length_le (by rw [be_length];exact Nat.le_refl _)]
 have hn : num (n / 256 ^ kOf n) (be n (kOf n)) = n := by
  rw [num_be,Nat.mul_comm];exact Nat.div_add_mod n _
 show getB (UInt8.ofNat (pre (kOf n) + n / 256 ^ kOf n) :: (be n (kOf n) ++ r)) = _
 unfold getB
 simp only
 rw [hl,if_neg (by omega),if_neg (by rw [List.length_append,be_length];omega),hc,hm,ht,hn,if_neg (by omega)]
def nextB (s : Bs) : Bs × Nat × Nat :=
 match getB s with
 | (n,k,e) => if e ≠ 0 then ([],0,e) else if 262144 < n then ([],0,6) else if s.length < n + k then ([],0,3) else ((s.drop k).take n,k + n,0)
def joinB (l : List Bs) : Bs := l.flatMap fun t => putB t.length ++ t
theorem joinB_nil : joinB [] = [] := rfl
theorem joinB_cons (t : Bs) (l : List Bs) : joinB (t :: l) = putB t.length ++ (t ++ joinB l) := by simp [joinB]
theorem joinB_snoc (l : List Bs) (t : Bs) : joinB (l ++ [t]) = joinB l ++ putB t.length ++ t := by simp [joinB]
theorem next_put (t r : Bs) (h : t.length ≤ 262144) : nextB (putB t.length ++ (t ++ r)) = (t,(putB t.length).length + t.length,0) := by
 unfold nextB
 rw [get_put _ (by omega)]
 have hl := putB_length t.length
 simp only
 rw [if_neg (by simp),if_neg (by omega),if_neg (by simp only [List.length_append];omega), ← hl,List.drop_left,List.take_left]
inductive SplitR : Bs → List Bs → Nat → Prop
 | nil : SplitR [] [] 0
 | err {s t k e} (h : s ≠ []) (hn : nextB s = (t,k,e)) (he : e ≠ 0) : SplitR s [] e
 | step {s t k l} (h : s ≠ []) (hn : nextB s = (t,k,0)) (hl : SplitR (s.drop k) l 0) : SplitR s (t :: l) 0
 | late {s t k e} (h : s ≠ []) (hn : nextB s = (t,k,0)) (hl : SplitR (s.drop k) [] e) (he : e ≠ 0) : SplitR s [] e
open Go.RowKit
theorem ret_i64 {a b : Int} (h : a = b) : Ending.returned (.int .i64 a) = .returned (.int .i64 b) := by rw [h]
theorem bitLenAux_log : ∀ (f x : Nat),0 < x → x < 2 ^ f → Lib.bitLenAux f x = Nat.log2 x + 1 := by
 intro f
 induction f with
 | zero => intro x h0 h1;simp at h1;omega
 | succ f ih =>
  intro x h0 h1
  rw [Lib.bitLenAux,if_neg (by omega),Nat.log2_def]
  by_cases h2 : 2 ≤ x
  ·rw [if_pos h2,ih (x / 2) (by omega) (by rw [Nat.pow_succ] at h1;omega)]
   omega
  ·have : x = 1 := by omega
   subst this
   rw [if_neg (by omega)]
   have : Lib.bitLenAux f (1 / 2) = 0 := by cases f <;> simp [Lib.bitLenAux]
   omega
theorem bitLen_log (x : Nat) (h0 : 0 < x) (h1 : x ≤ 9223372036854775807) : Lib.bitLen x = Nat.log2 x + 1 ∧ Nat.log2 x < 63 := by
 refine ⟨bitLenAux_log 64 x h0 (by omega), ?_⟩
 exact (Nat.log2_lt (by omega)).2 (by omega)
theorem behind_any (n : Nat) (w : World) (h : n ≤ 9223372036854775807) : Calls Tryz.prog 111 #[.int .i64 n] w fun e w' => e = .returned (.int .i64 (kOf n)) ∧ w = w' := by
 have KL := Tryz.bits_Len (n : Int) w (by omega) (by omega)
 rw [Int.toNat_natCast] at KL
 have n0 : (0 : Int) ≤ (n : Int) := by omega
 have n1 : (n : Int) ≤ 9223372036854775807 := by omega
 rcases Nat.eq_zero_or_pos n with hz | hp
 ·subst hz
  have hL : Lib.bitLen 0 = 0 := by decide
  rw [hL] at KL
  clear hL
  go_enter Tryz.func111,Tryz.ntmps111
  go_wp2_with (go_at_call 120;refine KL.mono ?_;rintro e w' ⟨rfl,rfl⟩)
  go_ret
  exact ⟨rfl,rfl⟩
 ·obtain ⟨hL,hlog⟩ := bitLen_log n hp h
  rw [hL] at KL
  obtain ⟨L,hLL⟩ : ∃ L,Nat.log2 n = L := ⟨_,rfl⟩
  have HK : Hid (kOf n = L / 7) := Lib.hid (by unfold kOf;rw [hLL])
  rw [hLL] at KL hlog
  clear hL hLL
  have l0 : (0 : Int) ≤ (L : Int) := by omega
  have l1 : (L : Int) < 63 := by omega
  go_enter Tryz.func111,Tryz.ntmps111
  go_wp2_with (go_at_call 120;refine KL.mono ?_;rintro e w' ⟨rfl,rfl⟩)
  go_ret
  exact ⟨ret_i64 (by rw [HK.out];omega),rfl⟩
def Bl (w : World) (b : Nat) (cs : Array Value) (e : TypeId) : Prop := w.heap[b]? = some (.cells cs e (0,0))
theorem Bl.cell {w : World} {b : Nat} {cs : Array Value} {e : TypeId} (h : Bl w b cs e) (i : Nat) : w.cell? ⟨b,i,none⟩ = cs[i]? := by
 unfold Bl at h
 unfold World.cell?;rw [h];simp
theorem Bl.frozen {w : World} {b : Nat} {cs : Array Value} {e : TypeId} (h : Bl w b cs e) (i : Nat) : w.frozen? ⟨b,i,none⟩ = false := by
 unfold Bl at h
 unfold World.frozen?;rw [h];simp
theorem Bl.set {w : World} {b : Nat} {cs : Array Value} {e : TypeId} (h : Bl w b cs e) (i : Nat) (v : Value) : Bl (w.setCell ⟨b,i,none⟩ v) b (cs.setIfInBounds i v) e := by
 unfold Bl at h ⊢
 show (w.heap.modify b _)[b]? = _
 rw [Array.getElem?_modify,if_pos rfl,h];simp
theorem Bl.lt {w : World} {b : Nat} {cs : Array Value} {e : TypeId} (h : Bl w b cs e) : b < w.heap.size := (Array.getElem?_eq_some_iff.1 h).1
theorem Bl.below {w w' : World} {b : Nat} {cs : Array Value} {e : TypeId} (h : Bl w b cs e) (hb : Below w.heap.size w w') : Bl w' b cs e := (hb.block b h.lt).trans h
theorem Bl.new (w : World) (cs : Array Value) (e : TypeId) : Bl (w.alloc (.cells cs e)) w.heap.size cs e := heap_alloc_new w _
theorem Bl.alloc {w : World} {b : Nat} {cs : Array Value} {e : TypeId} (h : Bl w b cs e) (o : Obj) : Bl (w.alloc o) b cs e := (heap_alloc_old w o h.lt).trans h
theorem Bl.drew {w : World} {b : Nat} {cs : Array Value} {e : TypeId} (h : Bl w b cs e) : Bl w.drew b cs e := h
theorem Bl.other {w : World} {b X : Nat} {cs : Array Value} {e : TypeId} (h : Bl w b cs e) (hne : b ≠ X) (i : Nat) (v : Value) : Bl (w.setCell ⟨X,i,none⟩ v) b cs e := (Below.heap_setCell w ⟨X,i,none⟩ v b hne).trans h
theorem be_zeros (k : Nat) (n : Nat) (j : Nat) (h : j ≤ k) : ((List.replicate (k + 1 - j) (0 : UInt8) ++ be n j).set (k - j) (UInt8.ofNat (n / 256 ^ j))) = List.replicate (k + 1 - (j + 1)) 0 ++ be n (j + 1) := by
 have e : k + 1 - j = (k - j) + 1 := by omega
 rw [e,show k + 1 - (j + 1) = k - j by omega,be_cons,List.replicate_succ',List.append_assoc,List.set_append_right _ _ (by simp)]
 simp
def bcells (l : Bs) : List Value := l.map fun c => .int .u8 (c.toNat : Int)
theorem byte_int (N : Nat) : (N : Int) % 256 = ((UInt8.ofNat N).toNat : Int) := by rw [UInt8.toNat_ofNat'];omega
theorem bcells_set (l : Bs) (i : Nat) (c : UInt8) : (bcells l).toArray.setIfInBounds i (.int .u8 (c.toNat : Int)) = (bcells (l.set i c)).toArray := by
 simp [bcells,List.map_set]
theorem or_pre0 (x : Nat) (h : x < 2 ^ (7 - 0)) : (bits BinOp.or IntKind.u8 (x : Int) (bits BinOp.xor IntKind.u8 (if IntKind.u8.signed = true then -1 else IntKind.u8.max) 255)) = ((pre 0 : Nat) : Int) + (x : Int) :=
 (by decide +kernel : ∀ y : Fin 128,(bits BinOp.or IntKind.u8 (y.val : Int) (bits BinOp.xor IntKind.u8 (if IntKind.u8.signed = true then -1 else IntKind.u8.max) 255)) = ((pre 0 : Nat) : Int) + (y.val : Int)) ⟨x,h⟩
theorem or_pre1 (x : Nat) (h : x < 2 ^ (7 - 1)) : (bits BinOp.or IntKind.u8 (x : Int) (bits BinOp.xor IntKind.u8 (if IntKind.u8.signed = true then -1 else IntKind.u8.max) 127)) = ((pre 1 : Nat) : Int) + (x : Int) :=
 (by decide +kernel : ∀ y : Fin 64,(bits BinOp.or IntKind.u8 (y.val : Int) (bits BinOp.xor IntKind.u8 (if IntKind.u8.signed = true then -1 else IntKind.u8.max) 127)) = ((pre 1 : Nat) : Int) + (y.val : Int)) ⟨x,h⟩
theorem or_pre2 (x : Nat) (h : x < 2 ^ (7 - 2)) : (bits BinOp.or IntKind.u8 (x : Int) (bits BinOp.xor IntKind.u8 (if IntKind.u8.signed = true then -1 else IntKind.u8.max) 63)) = ((pre 2 : Nat) : Int) + (x : Int) :=
 (by decide +kernel : ∀ y : Fin 32,(bits BinOp.or IntKind.u8 (y.val : Int) (bits BinOp.xor IntKind.u8 (if IntKind.u8.signed = true then -1 else IntKind.u8.max) 63)) = ((pre 2 : Nat) : Int) + (y.val : Int)) ⟨x,h⟩
theorem or_pre3 (x : Nat) (h : x < 2 ^ (7 - 3)) : (bits BinOp.or IntKind.u8 (x : Int) (bits BinOp.xor IntKind.u8 (if IntKind.u8.signed = true then -1 else IntKind.u8.max) 31)) = ((pre 3 : Nat) : Int) + (x : Int) :=
 (by decide +kernel : ∀ y : Fin 16,(bits BinOp.or IntKind.u8 (y.val : Int) (bits BinOp.xor IntKind.u8 (if IntKind.u8.signed = true then -1 else IntKind.u8.max) 31)) = ((pre 3 : Nat) : Int) + (y.val : Int)) ⟨x,h⟩
theorem or_pre4 (x : Nat) (h : x < 2 ^ (7 - 4)) : (bits BinOp.or IntKind.u8 (x : Int) (bits BinOp.xor IntKind.u8 (if IntKind.u8.signed = true then -1 else IntKind.u8.max) 15)) = ((pre 4 : Nat) : Int) + (x : Int) :=
 (by decide +kernel : ∀ y : Fin 8,(bits BinOp.or IntKind.u8 (y.val : Int) (bits BinOp.xor IntKind.u8 (if IntKind.u8.signed = true then -1 else IntKind.u8.max) 15)) = ((pre 4 : Nat) : Int) + (y.val : Int)) ⟨x,h⟩
theorem or_pre5 (x : Nat) (h : x < 2 ^ (7 - 5)) : (bits BinOp.or IntKind.u8 (x : Int) (bits BinOp.xor IntKind.u8 (if IntKind.u8.signed = true then -1 else IntKind.u8.max) 7)) = ((pre 5 : Nat) : Int) + (x : Int) :=
 (by decide +kernel : ∀ y : Fin 4,(bits BinOp.or IntKind.u8 (y.val : Int) (bits BinOp.xor IntKind.u8 (if IntKind.u8.signed = true then -1 else IntKind.u8.max) 7)) = ((pre 5 : Nat) : Int) + (y.val : Int)) ⟨x,h⟩
theorem pre_lt (k x : Nat) (hk : k ≤ 5) (h : x < 2 ^ (7 - k)) : pre k + x < 256 := by
 have h5 : k = 0 ∨ k = 1 ∨ k = 2 ∨ k = 3 ∨ k = 4 ∨ k = 5 := by omega
 unfold pre
 rcases h5 with rfl | rfl | rfl | rfl | rfl | rfl <;> simp only [Nat.reducePow,Nat.reduceSub] at h ⊢ <;> omega
set_option maxRecDepth 100000 in
theorem conv_bl {w : World} {b n k x : Nat} (h : Bl w b ((bcells (UInt8.ofNat x :: be n k)).toArray.setIfInBounds 0 (.int .u8 (((pre k : Nat) : Int) + (x : Int)))) 5) (hk : k = kOf n) (hx : x = n / 256 ^ kOf n) (hl : pre (kOf n) + n / 256 ^ kOf n < 256) (l c : Nat) (hlen : l = kOf n + 1) :
  (convert 62 9 (.slice (some ⟨b,0,none⟩) l c)).run Tryz.prog w = .ok (.string (mk (putB n))) w := by
 subst hk
 subst hx
 have e : (bcells (UInt8.ofNat (n / 256 ^ kOf n) :: be n (kOf n))).toArray.setIfInBounds 0 (.int .u8 (((pre (kOf n) : Nat) : Int) + ((n / 256 ^ kOf n : Nat) : Int))) = (bcells (putB n)).toArray := by
  rw [show ((pre (kOf n) : Nat) : Int) + ((n / 256 ^ kOf n : Nat) : Int) = ((UInt8.ofNat (pre (kOf n) + n / 256 ^ kOf n)).toNat : Int) by rw [UInt8.toNat_ofNat',Nat.mod_eq_of_lt hl];omega,bcells_set]
  rfl
 rw [e] at h
 rw [hlen, ← putB_length]
 exact run_convert_bytes_back (P := Tryz.prog) w 62 9 5 ⟨b,0,none⟩ c (putB n) Tryz.underlying62 Tryz.underlying5 Tryz.underlying9 (fun j hj => by
  rw [Go.Lib.add_plain,Nat.zero_add,h.cell j]
  simp [bcells,hj])
theorem made_zero (m : Nat) : madeCells (Value.int .u8 0).cells m = (bcells (List.replicate m 0)).toArray := by
 refine Array.ext (by simp [madeCells,bcells]) fun i h1 h2 => ?_
 simp [madeCells,bcells,Value.cells,Nat.mod_one]
theorem info5n : (Tryz.prog.info? 5).map (fun i => (i.zero,i.size,i.bytes)) = some (some (.int .u8 0),1,1) := by kernel_rfl
set_option maxRecDepth 100000 in
set_option maxHeartbeats 4000000 in
theorem put_any (n : Nat) (w : World) (h : n ≤ 1099511627776) : Calls Tryz.prog 84 #[.int .i64 n] w fun e w' => e = .returned (.string (mk (putB n))) ∧ Below w.heap.size w w' := by
 obtain ⟨i5,hi5,hz0,hz1,hz2⟩ := info_parts info5n
 have KB := behind_any n w (by omega)
 have hk5 := kOf_le n h
 obtain ⟨k,hk⟩ : ∃ k,kOf n = k := ⟨_,rfl⟩
 rw [hk] at KB hk5
 have HK := Lib.hid hk
 have n0 : (0 : Int) ≤ (n : Int) := by omega
 have n1 : (n : Int) ≤ 1099511627776 := by omega
 have k0 : (0 : Int) ≤ (k : Int) := by omega
 have k5 : (k : Int) ≤ 5 := by omega
 have hmk := run_make (P := Tryz.prog) w 62 5 i5 _ Tryz.underlying62 hi5 hz0 .i64 .i64 ((k : Int) + 1) ((k : Int) + 1) (by omega) (by omega) (by rw [hz2];omega) (by omega)
 have hN1 : ((k : Int) + 1).toNat = k + 1 := by omega
 rw [hN1,hz1,Nat.mul_one] at hmk
 have hcs := made_zero (k + 1)
 rw [hcs] at hmk
 have hB0 := Bl.new w (bcells (List.replicate (k + 1) 0)).toArray 5
 have hb0 := below_alloc w (.cells (bcells (List.replicate (k + 1) 0)).toArray 5)
 obtain ⟨b,hb⟩ : ∃ b,w.heap.size = b := ⟨_,rfl⟩
 have HBB := Lib.hid hb
 obtain ⟨W,hW⟩ : ∃ W,w.alloc (.cells (bcells (List.replicate (k + 1) 0)).toArray 5) = W := ⟨_,rfl⟩
 rw [hW] at hmk hB0 hb0
 rw [hb] at hmk hB0 hb0 ⊢
 have HB0 := Lib.hid hB0
 have Hb0 := Lib.hid hb0
 clear hcs hN1 hb hW hk hB0 hb0
 go_enter Tryz.func84,Tryz.ntmps84
 go_wp2_with (go_at_call 111;refine KB.mono ?_;rintro e w' ⟨rfl,rfl⟩)
 go_loopw [0,5] (fun nv iv wr => ∃ j : Nat,j ≤ k + 1 ∧ nv = .int .i64 ((n / 256 ^ j : Nat) : Int) ∧ iv = .int .i64 ((k : Int) - (j : Int)) ∧ Bl wr b (bcells (List.replicate (k + 1 - j) 0 ++ be n j)).toArray 5 ∧ Below b w wr) (fun _ iv _ => (intOf iv + 1).toNat)
 case atStart => exact ⟨0,by omega,by simp,by go_num,by simpa [be] using HB0.out,Hb0.out⟩
 case round =>
  obtain ⟨j,hj,rfl,rfl,hB,hb⟩ := hrel
  clear hmk HB0 Hb0
  rcases Nat.lt_or_ge k j with hge | hlt
  ·obtain rfl : j = k + 1 := by omega
   rw [Nat.sub_self,List.replicate_zero,List.nil_append,be_cons] at hB
   have htop := top_lt n h
   rw [HK.out] at htop
   obtain ⟨x,hx⟩ : ∃ x,n / 256 ^ k = x := ⟨_,rfl⟩
   have HX := Lib.hid hx
   rw [hx] at hB htop
   have hx7 : (UInt8.ofNat x).toNat = x := by
    have : 2 ^ (7 - k) ≤ 128 := by
     have := Nat.pow_le_pow_right (n := 2) (by omega) (show 7 - k ≤ 7 by omega)
     simpa using this
    rw [UInt8.toNat_ofNat'];omega
   have hc := hB.cell 0
   have hf := hB.frozen 0
   have e0 : (bcells (UInt8.ofNat x :: be n k)).toArray[0]? = some (.int .u8 (x : Int)) := by simp [bcells,hx7]
   rw [e0] at hc
   have HB := Lib.hid hB
   have Hb := Lib.hid hb
   have HK5 := Lib.hid hk5
   have Htop := Lib.hid htop
   obtain ⟨y,hy⟩ : ∃ y,n / 256 ^ (k + 1) = y := ⟨_,rfl⟩
   rw [hy]
   have kk : k = 0 ∨ k = 1 ∨ k = 2 ∨ k = 3 ∨ k = 4 ∨ k = 5 := by omega
   clear hx hx7 e0 hB hb htop hy
   rcases kk with rfl | rfl | rfl | rfl | rfl | rfl
   ·have hV := or_pre0 x Htop.out
    go_wp2
    go_region
    have hBf := (HB.out.set 0 (.int .u8 (((pre 0 : Nat) : Int) + (x : Int)))).drew
    have hcv := conv_bl (n := n) hBf (by rw [HK.out]) (by rw [HK.out,HX.out]) (by rw [HK.out,HX.out];exact pre_lt 0 x (by omega) Htop.out) 1 1 (by rw [HK.out])
    go_wp2
    go_ret
    exact ⟨rfl,(Hb.out.setCell (p := ⟨b,0,none⟩) (Nat.le_refl _) _).drew⟩
   ·have hV := or_pre1 x Htop.out
    go_wp2
    go_region
    have hBf := (HB.out.set 0 (.int .u8 (((pre 1 : Nat) : Int) + (x : Int)))).drew
    have hcv := conv_bl (n := n) hBf (by rw [HK.out]) (by rw [HK.out,HX.out]) (by rw [HK.out,HX.out];exact pre_lt 1 x (by omega) Htop.out) 2 2 (by rw [HK.out])
    go_wp2
    go_ret
    exact ⟨rfl,(Hb.out.setCell (p := ⟨b,0,none⟩) (Nat.le_refl _) _).drew⟩
   ·have hV := or_pre2 x Htop.out
    go_wp2
    go_region
    have hBf := (HB.out.set 0 (.int .u8 (((pre 2 : Nat) : Int) + (x : Int)))).drew
    have hcv := conv_bl (n := n) hBf (by rw [HK.out]) (by rw [HK.out,HX.out]) (by rw [HK.out,HX.out];exact pre_lt 2 x (by omega) Htop.out) 3 3 (by rw [HK.out])
    go_wp2
    go_ret
    exact ⟨rfl,(Hb.out.setCell (p := ⟨b,0,none⟩) (Nat.le_refl _) _).drew⟩
   ·have hV := or_pre3 x Htop.out
    go_wp2
    go_region
    have hBf := (HB.out.set 0 (.int .u8 (((pre 3 : Nat) : Int) + (x : Int)))).drew
    have hcv := conv_bl (n := n) hBf (by rw [HK.out]) (by rw [HK.out,HX.out]) (by rw [HK.out,HX.out];exact pre_lt 3 x (by omega) Htop.out) 4 4 (by rw [HK.out])
    go_wp2
    go_ret
    exact ⟨rfl,(Hb.out.setCell (p := ⟨b,0,none⟩) (Nat.le_refl _) _).drew⟩
   ·have hV := or_pre4 x Htop.out
    go_wp2
    go_region
    have hBf := (HB.out.set 0 (.int .u8 (((pre 4 : Nat) : Int) + (x : Int)))).drew
    have hcv := conv_bl (n := n) hBf (by rw [HK.out]) (by rw [HK.out,HX.out]) (by rw [HK.out,HX.out];exact pre_lt 4 x (by omega) Htop.out) 5 5 (by rw [HK.out])
    go_wp2
    go_ret
    exact ⟨rfl,(Hb.out.setCell (p := ⟨b,0,none⟩) (Nat.le_refl _) _).drew⟩
   ·have hV := or_pre5 x Htop.out
    go_wp2
    go_region
    have hBf := (HB.out.set 0 (.int .u8 (((pre 5 : Nat) : Int) + (x : Int)))).drew
    have hcv := conv_bl (n := n) hBf (by rw [HK.out]) (by rw [HK.out,HX.out]) (by rw [HK.out,HX.out];exact pre_lt 5 x (by omega) Htop.out) 6 6 (by rw [HK.out])
    go_wp2
    go_ret
    exact ⟨rfl,(Hb.out.setCell (p := ⟨b,0,none⟩) (Nat.le_refl _) _).drew⟩
  ·obtain ⟨I,hI⟩ : ∃ I,k - j = I := ⟨_,rfl⟩
   have hkj : (k : Int) - (j : Int) = (I : Int) := by omega
   rw [hkj]
   have hd : n / 256 ^ (j + 1) = n / 256 ^ j / 256 := by rw [Nat.pow_succ,Nat.div_div_eq_div_mul]
   have hNle : n / 256 ^ j ≤ n := Nat.div_le_self _ _
   have hz := be_zeros k n j hlt
   rw [hI] at hz
   obtain ⟨N,hN⟩ : ∃ N,n / 256 ^ j = N := ⟨_,rfl⟩
   rw [hN] at hd hz hNle ⊢
   have hc := hB.cell I
   have hf := hB.frozen I
   have hc0 : ∃ x,(bcells (List.replicate (k + 1 - j) 0 ++ be n j)).toArray[I]? = some x := by
    have : I < (bcells (List.replicate (k + 1 - j) 0 ++ be n j)).toArray.size := by simp [bcells];omega
    exact ⟨_,Array.getElem?_eq_getElem this⟩
   obtain ⟨x0,hx0⟩ := hc0
   rw [hx0] at hc
   have HD := Lib.hid hd
   have HZ := Lib.hid hz
   have HB := Lib.hid hB
   have Hb := Lib.hid hb
   have i0 : (0 : Int) ≤ (I : Int) := by omega
   have i1 : (I : Int) < (k : Int) + 1 := by omega
   have N0 : (0 : Int) ≤ (N : Int) := by omega
   have N1 : (N : Int) ≤ 1099511627776 := by omega
   clear hd hz hN hB hb hx0 hkj hNle
   go_wp2
   go_roundw
   case rel =>
    refine ⟨j + 1,by omega,congrArg _ (by rw [HD.out];omega),congrArg _ (by omega), ?_,Hb.out.setCell (p := ⟨b,I,none⟩) (Nat.le_refl _) _⟩
    rw [← HZ.out, ← bcells_set, ← show (N : Int) % 256 = ((UInt8.ofNat N).toNat : Int) from byte_int N]
    exact HB.out.set I _
   case measure => simp [intOf]
open Go.RowKit
theorem lead_int : ∀ c : Fin 256,bits BinOp.xor IntKind.u8 (if IntKind.u8.signed = true then -1 else IntKind.u8.max) (c.val : Int) = ((255 - c.val : Nat) : Int) ∧ (8 - (Lib.bitLen (255 - c.val) : Int)) = (lead1 (UInt8.ofNat c.val) : Int) := by decide +kernel
theorem and_mask : ∀ (k : Fin 6) (c : Fin 256),bits BinOp.and IntKind.u8 (c.val : Int) ((255 / 2 ^ k.val : Nat) : Int) = ((c.val % 2 ^ (8 - k.val) : Nat) : Int) := by decide +kernel
theorem num_snoc (a : Nat) (l : Bs) (c : UInt8) : num a (l ++ [c]) = num a l * 256 + c.toNat := by simp [num]
theorem num_lt (l : Bs) : ∀ a,num a l < (a + 1) * 256 ^ l.length := by
 induction l with
 | nil => intro a;simp [num]
 | cons c l ih =>
  intro a
  have h1 := ih (a * 256 + c.toNat)
  have h2 := c.toNat_lt
  simp only [num,List.foldl_cons] at h1 ⊢
  refine Nat.lt_of_lt_of_le h1 ?_
  rw [List.length_cons,Nat.pow_succ,Nat.mul_comm (256 ^ l.length) 256, ← Nat.mul_assoc]
  exact Nat.mul_le_mul_right _ (by omega)
theorem or_i64 (N b : Nat) (hN : N < 1099511627776) (hb : b < 256) : bits BinOp.or IntKind.i64 ((N : Int) * 256) (wrap64 (b : Int)) = ((N * 256 + b : Nat) : Int) := by
 have hw : wrap64 (b : Int) = (b : Int) := by rw [Go.IntWalk.wrap64_in _ (by omega)]
 rw [hw,show (N : Int) * 256 = ((N * 256 : Nat) : Int) by omega]
 have h1 : (BitVec.ofInt 64 ((N * 256 : Nat) : Int)).toNat = N * 256 := by
  rw [BitVec.ofInt_natCast,BitVec.toNat_ofNat];exact Nat.mod_eq_of_lt (by omega)
 have h2 : (BitVec.ofInt 64 (b : Int)).toNat = b := by
  rw [BitVec.ofInt_natCast,BitVec.toNat_ofNat];exact Nat.mod_eq_of_lt (by omega)
 show IntKind.i64.wrap ((BitVec.ofInt 64 ((N * 256 : Nat) : Int) ||| BitVec.ofInt 64 (b : Int)).toNat : Int) = _
 have h3 := Nat.two_pow_add_eq_or_of_lt (i := 8) (b := b) (by omega) N
 rw [show 2 ^ 8 * N = N * 256 by omega] at h3
 rw [BitVec.toNat_or,h1,h2, ← h3,IntKind.wrap_i64]
 omega
set_option maxRecDepth 100000 in
set_option maxHeartbeats 4000000 in
theorem get_any' (s : ByteArray) (w : World) (hs : s.size ≤ 9223372036854775807) : Calls Tryz.prog 124 #[.string s] w fun e w' => e = .returned (.tuple #[.int .i64 (getB s.data.toList).1, .int .i64 (getB s.data.toList).2.1, .int .i64 (getB s.data.toList).2.2]) ∧ Below w.heap.size w w' := by
 rcases Nat.eq_zero_or_pos s.size with h0 | hp
 ·have hsz : s.data.toList = [] := List.length_eq_zero_iff.1 (by simpa using h0)
  have he : s.toList = [] := by rw [ByteArray.toList_eq];exact hsz
  have HE := Lib.hid hsz
  clear hsz h0
  go_enter Tryz.func124,Tryz.ntmps124
  go_wp2
  go_ret3
  rw [HE.out]
  exact ⟨rfl,Below.refl _ _⟩
 ·have hlen : s.data.toList.length = s.size := by simp
  have hne : s.toList.isEmpty = false := by
   rw [ByteArray.toList_eq]
   cases h : s.data.toList with
   | nil => rw [h] at hlen;simp at hlen;omega
   | cons => rfl
  have hne2 : (!s.toList.isEmpty) = true := by rw [hne];rfl
  have hnil : s.toList ≠ [] := by intro e;rw [e] at hne;simp at hne
  obtain ⟨c,r,hcr⟩ : ∃ c r,s.data.toList = c :: r := by
   cases h : s.data.toList with
   | nil => rw [h] at hlen;simp at hlen;omega
   | cons c r => exact ⟨c,r,rfl⟩
  have hc0 : s[0]'hp = c := by
   have : s.data.toList[0]'(by omega) = c := by simp [hcr]
   exact this
  have hat : ∀ i (h : i + 1 < s.size),r[i]? = some s[i + 1] := by
   intro i h
   have : s.data.toList[i + 1]? = some s[i + 1] := by rw [Array.getElem?_toList,Array.getElem?_eq_getElem h];rfl
   rw [hcr,List.getElem?_cons_succ] at this
   exact this
  have hrl : r.length + 1 = s.size := by rw [← hlen,hcr];rfl
  have hx := lead_int ⟨c.toNat,c.toNat_lt⟩
  simp only [UInt8.ofNat_toNat] at hx
  obtain ⟨hx1,hx2⟩ := hx
  have KL := Tryz.bits_LeadingZeros8 ((255 - c.toNat : Nat) : Int) w (by omega) (by have := c.toNat_lt;omega)
  rw [Int.toNat_natCast,hx2] at KL
  have hg : getB s.data.toList = getB (c :: r) := by rw [hcr]
  have HG := Lib.hid hg
  have HAT := Lib.hid hat
  have hk8 : lead1 c ≤ 8 := by unfold lead1; repeat' split
                               all_goals omega
  obtain ⟨k,hk⟩ : ∃ k,lead1 c = k := ⟨_,rfl⟩
  rw [hk] at KL hk8
  have HK := Lib.hid hk
  have k0 : (0 : Int) ≤ (k : Int) := by omega
  have k8 : (k : Int) ≤ 8 := by omega
  have n0 : (s.size : Int) ≤ 9223372036854775807 := by omega
  clear hcr hat hg hk hx2 hlen hnil
  rcases Nat.lt_or_ge 5 k with hk5 | hk5
  ·have hk5' : (5 : Int) < (k : Int) := by omega
   have HR : Hid (getB (c :: r) = (0,0,2)) := Lib.hid (by unfold getB;simp only;rw [HK.out,if_pos hk5])
   clear hk5 hrl
   go_enter Tryz.func124,Tryz.ntmps124
   go_wp2_with (go_at_call 147;refine KL.mono ?_;rintro e w' ⟨rfl,rfl⟩)
   go_ret3
   exact ⟨by rw [HG.out,HR.out];rfl,Below.refl _ _⟩
  ·have hk5' : ¬ (5 : Int) < (k : Int) := by omega
   rcases Nat.lt_or_ge r.length k with hkr | hkr
   ·have hkr' : (s.size : Int) ≤ (k : Int) := by omega
    have HR : Hid (getB (c :: r) = (0,0,3)) := Lib.hid (by unfold getB;simp only;rw [HK.out,if_neg (by omega),if_pos hkr])
    clear hk5 hkr hrl
    go_enter Tryz.func124,Tryz.ntmps124
    go_wp2_with (go_at_call 147;refine KL.mono ?_;rintro e w' ⟨rfl,rfl⟩)
    go_ret3
    exact ⟨by rw [HG.out,HR.out];rfl,Below.refl _ _⟩
   ·have hkr' : ¬ (s.size : Int) ≤ (k : Int) := by omega
    have hm := and_mask ⟨k,by omega⟩ ⟨c.toNat,c.toNat_lt⟩
    simp only at hm
    obtain ⟨a0,ha0⟩ : ∃ a,c.toNat % 2 ^ (8 - k) = a := ⟨_,rfl⟩
    have hal : a0 < 128 * 2 := by have := Nat.mod_lt c.toNat (show 0 < 2 ^ (8 - k) from Nat.pow_pos (by omega));have h2 : 2 ^ (8 - k) ≤ 2 ^ 8 := Nat.pow_le_pow_right (by omega) (by omega);omega
    rw [ha0,Int.natCast_ediv,Int.natCast_pow] at hm
    have hm : bits BinOp.and IntKind.u8 (c.toNat : Int) ((255 : Int) / 2 ^ k) = (a0 : Int) := hm
    have a00 : (0 : Int) ≤ (a0 : Int) := by omega
    have a01 : (a0 : Int) < 256 := by omega
    have HA0 := Lib.hid ha0
    have HRL := Lib.hid hrl
    have HKR := Lib.hid hkr
    have k5 : (k : Int) ≤ 5 := by omega
    clear ha0 hrl hkr hk8
    go_enter Tryz.func124,Tryz.ntmps124
    go_wp2_with (go_at_call 147;refine KL.mono ?_;rintro e w' ⟨rfl,rfl⟩)
    go_quiet (fail)
    obtain ⟨W,hW⟩ : ∃ W,w'.drewN nq = W := ⟨_,rfl⟩
    have HBW : Hid (Below w'.heap.size w' W) := Lib.hid (by rw [← hW];exact Go.Joins.below_draws _ _ _)
    rw [hW]
    clear KL hm hx1 hW hc0 hne hne2
    go_wp2
    go_loop [6,7] (fun nv iv => ∃ q : Nat,1 ≤ q ∧ q ≤ k + 1 ∧ iv = .int .i64 (q : Int) ∧ nv = .int .i64 ((num a0 (r.take (q - 1)) : Nat) : Int)) (fun _ iv => (7 - intOf iv).toNat)
    case atStart => exact ⟨1,by omega,by omega,rfl,by simp [num]⟩
    case round =>
     obtain ⟨q,hq1,hq,rfl,rfl⟩ := hrel
     have hnl := num_lt (r.take (q - 1)) a0
     rw [List.length_take,Nat.min_eq_left (by have := HKR.out;omega)] at hnl
     rcases Nat.lt_or_ge k q with hge | hlt
     ·obtain rfl : q = k + 1 := by omega
      rw [Nat.add_sub_cancel] at hnl ⊢
      have hp5 : 256 ^ k ≤ 256 ^ 5 := Nat.pow_le_pow_right (by omega) (by omega)
      have hNl : num a0 (r.take k) < 281474976710656 := by
       refine Nat.lt_of_lt_of_le hnl (Nat.le_trans (Nat.mul_le_mul (show a0 + 1 ≤ 256 by omega) hp5) (by decide))
      have hgb : getB (c :: r) = if 1099511627776 < num a0 (r.take k) ∨ kOf (num a0 (r.take k)) ≠ k then (0,0,2) else (num a0 (r.take k),k + 1,0) := by
       unfold getB
       simp only
       rw [HK.out,if_neg (by omega),if_neg (by have := HKR.out;omega),HA0.out]
      obtain ⟨N,hN⟩ : ∃ N,num a0 (r.take k) = N := ⟨_,rfl⟩
      rw [hN] at hNl hgb ⊢
      have KBH := behind_any N W (by omega)
      have N0 : (0 : Int) ≤ (N : Int) := by omega
      have N1 : (N : Int) ≤ 9223372036854775807 := by omega
      obtain ⟨m,hm2⟩ : ∃ m,kOf N = m := ⟨_,rfl⟩
      rw [hm2] at KBH hgb
      have HGB := Lib.hid hgb
      clear hgb hnl hp5 hN hm2 hNl
      rcases Nat.lt_or_ge 1099511627776 N with hbig | hsm
      ·have hb' : (1099511627776 : Int) < (N : Int) := by omega
       have HR : Hid (getB (c :: r) = (0,0,2)) := Lib.hid (by rw [HGB.out,if_pos (.inl hbig)])
       clear hbig
       go_wp2
       go_ret3
       exact ⟨by rw [HG.out,HR.out];rfl,HBW.out⟩
      ·have hb' : ¬ (1099511627776 : Int) < (N : Int) := by omega
       by_cases hmk : m = k
       ·have HR : Hid (getB (c :: r) = (N,k + 1,0)) := Lib.hid (by rw [HGB.out,if_neg (by omega)])
        subst hmk
        have hne : ((m : Int) != (m : Int)) = false := by simp
        clear hsm
        go_wp2_with (go_at_call 111;refine KBH.mono ?_;rintro e w2 ⟨rfl,rfl⟩)
        go_ret3
        exact ⟨by rw [HG.out,HR.out];rfl,HBW.out⟩
       ·have HR : Hid (getB (c :: r) = (0,0,2)) := Lib.hid (by rw [HGB.out,if_pos (.inr hmk)])
        have hne : ((m : Int) != (k : Int)) = true := by simp;omega
        have hne2 : ¬ (m : Int) = (k : Int) := by omega
        clear hsm hmk
        go_wp2_with (go_at_call 111;refine KBH.mono ?_;rintro e w2 ⟨rfl,rfl⟩)
        go_ret3
        exact ⟨by rw [HG.out,HR.out];rfl,HBW.out⟩
     ·have hp4 : 256 ^ (q - 1) ≤ 256 ^ 4 := Nat.pow_le_pow_right (by omega) (by omega)
      have hqs : q < s.size := by have := HRL.out;have := HKR.out;omega
      have hsn : num a0 (r.take q) = num a0 (r.take (q - 1)) * 256 + s[q].toNat := by
       obtain ⟨j,rfl⟩ : ∃ j,q = j + 1 := ⟨q - 1,by omega⟩
       rw [Nat.add_sub_cancel]
       have hjr : j < r.length := by have := HKR.out;omega
       rw [List.take_succ_eq_append_getElem hjr,num_snoc]
       have := HAT.out j (by have := HRL.out;omega)
       rw [List.getElem?_eq_getElem hjr] at this
       rw [Option.some.inj this]
      obtain ⟨N,hN⟩ : ∃ N,num a0 (r.take (q - 1)) = N := ⟨_,rfl⟩
      rw [hN] at hsn hnl ⊢
      have hNl : N < 1099511627776 := by
       refine Nat.lt_of_lt_of_le hnl (Nat.le_trans (Nat.mul_le_mul (show a0 + 1 ≤ 256 by omega) hp4) (by decide))
      have HSN := Lib.hid hsn
      have N0 : (0 : Int) ≤ (N : Int) := by omega
      have N1 : (N : Int) < 1099511627776 := by omega
      have q0 : (0 : Int) ≤ (q : Int) := by omega
      have q1 : (q : Int) ≤ (k : Int) := by omega
      have q2 : (q : Int) < (s.size : Int) := by omega
      clear hp4 hnl hsn hN
      go_wp2
      go_round
      case rel => exact ⟨q + 1,by omega,by omega,by go_num,by rw [or_i64 N _ hNl (UInt8.toNat_lt _),Nat.add_sub_cancel,HSN.out]⟩
      case measure => simp [intOf];omega
theorem getB_bd (s : Bs) : (getB s).1 ≤ 1099511627776 ∧ (getB s).2.1 ≤ s.length ∧ (getB s).2.1 ≤ 6 ∧ (getB s).2.2 ≤ 3 := by
 unfold getB
 cases s with
 | nil => simp
 | cons c r =>
  simp only
  split
  ·simp
  ·split
   ·simp
   ·split
    ·simp
    ·simp only [List.length_cons]
     refine ⟨by omega,by omega,by omega,by omega⟩
theorem ext_mkN' (s : ByteArray) (a b : Nat) : s.extract a (a + b) = mk ((s.data.toList.drop a).take b) := by
 apply ByteArray.ext
 rw [ByteArray.data_extract]
 apply Array.toList_inj.1
 simp [mk,List.extract_eq_take_drop]
set_option maxRecDepth 100000 in
set_option maxHeartbeats 4000000 in
theorem next_any (s : ByteArray) (w : World) (hs : s.size ≤ 9223372036854775807) : Calls Tryz.prog 122 #[.string s] w fun e w' => e = .returned (.tuple #[.string (mk (nextB s.data.toList).1), .int .i64 (nextB s.data.toList).2.1, .int .i64 (nextB s.data.toList).2.2]) ∧ Below w.heap.size w w' := by
 have KG := get_any' s w hs
 have hbd := getB_bd s.data.toList
 have hlen : s.data.toList.length = s.size := by simp
 have hnx : nextB s.data.toList = nextB s.data.toList := rfl
 conv at hnx => rhs;unfold nextB
 rw [hlen] at hbd hnx
 obtain ⟨n,k,e,hg⟩ : ∃ n k e,getB s.data.toList = (n,k,e) := ⟨_,_,_,rfl⟩
 rw [hg] at KG hbd hnx
 simp only at KG hbd hnx
 obtain ⟨hn,hk,hk6,he3⟩ := hbd
 have HNX := Lib.hid hnx
 have n0 : (0 : Int) ≤ (n : Int) := by omega
 have n1 : (n : Int) ≤ 1099511627776 := by omega
 have k0 : (0 : Int) ≤ (k : Int) := by omega
 have k1 : (k : Int) ≤ 6 := by omega
 have k2 : (k : Int) ≤ (s.size : Int) := by omega
 have z0 : (s.size : Int) ≤ 9223372036854775807 := by omega
 clear hnx hlen hg
 by_cases he : e = 0
 ·subst he
  rcases Nat.lt_or_ge 262144 n with hL | hL
  ·have hL' : (262144 : Int) < (n : Int) := by omega
   have HR : Hid (nextB s.data.toList = ([],0,6)) := Lib.hid (by rw [HNX.out,if_neg (by simp),if_pos hL])
   clear hL
   go_enter Tryz.func122,Tryz.ntmps122
   go_wp2_with (go_at_call 124;refine KG.mono ?_;rintro e w' ⟨rfl,hb⟩;have HB := Lib.hid hb;clear hb)
   go_ret3
   exact ⟨by rw [HR.out];rfl,HB.out⟩
  ·have hL' : ¬ (262144 : Int) < (n : Int) := by omega
   rcases Nat.lt_or_ge s.size (n + k) with hS | hS
   ·have hS' : (s.size : Int) - (k : Int) < (n : Int) := by omega
    have HR : Hid (nextB s.data.toList = ([],0,3)) := Lib.hid (by rw [HNX.out,if_neg (by simp),if_neg (by omega),if_pos hS])
    clear hL hS
    go_enter Tryz.func122,Tryz.ntmps122
    go_wp2_with (go_at_call 124;refine KG.mono ?_;rintro e w' ⟨rfl,hb⟩;have HB := Lib.hid hb;clear hb)
    go_ret3
    exact ⟨by rw [HR.out];rfl,HB.out⟩
   ·have hS' : ¬ (s.size : Int) - (k : Int) < (n : Int) := by omega
    have HR : Hid (nextB s.data.toList = ((s.data.toList.drop k).take n,k + n,0)) := Lib.hid (by rw [HNX.out,if_neg (by simp),if_neg (by omega),if_neg (by omega)])
    have hsl := fun (w : World) => run_slice_string (P := Tryz.prog) (w := w) 9 s .i64 .i64 (k : Int) ((k : Int) + (n : Int)) Tryz.underlying9 (by omega) (by omega) (by omega)
    rw [show ((k : Int) + (n : Int)).toNat = k + n by omega,show ((k : Int)).toNat = k by omega,ext_mkN'] at hsl
    clear hL hS
    go_enter Tryz.func122,Tryz.ntmps122
    go_wp2_with (go_at_call 124;refine KG.mono ?_;rintro e w' ⟨rfl,hb⟩;have HB := Lib.hid hb;clear hb)
    go_ret3
    exact ⟨by rw [HR.out];rfl,HB.out⟩
 ·have he' : ((e : Int) != 0) = true := by simp;omega
  have he2 : ¬ (e : Int) = 0 := by omega
  have HR : Hid (nextB s.data.toList = ([],0,e)) := Lib.hid (by rw [HNX.out,if_pos he])
  clear he
  go_enter Tryz.func122,Tryz.ntmps122
  go_wp2_with (go_at_call 124;refine KG.mono ?_;rintro e w' ⟨rfl,hb⟩;have HB := Lib.hid hb;clear hb)
  go_ret3
  exact ⟨by rw [HR.out];rfl,HB.out⟩
open Go.RowKit
theorem info5 : (Tryz.prog.info? 5).map (fun i => (i.zero,i.size,i.bytes)) = some (some (.int .u8 0),1,1) := by kernel_rfl
theorem size101 : (Tryz.prog.info? 93).map (·.size) = some 2 := by kernel_rfl
set_option maxHeartbeats 1000000 in
set_option maxRecDepth 100000 in
theorem check_used (b : Nat) (w : World) (h0 : w.cell? ⟨b,0,none⟩ = some (.pointer (some ⟨b,0,none⟩))) :
  Calls Tryz.prog 81 #[.pointer (some ⟨b,0,none⟩)] w fun e w' => e = .returned (.tuple #[]) ∧ w' = w := by
 obtain ⟨j,hj,_⟩ := Option.map_eq_some_iff.1 size101
 go_enter Tryz.func81,Tryz.ntmps81
 go_wp2
 rw [Lib.run_neq_ptr_same w _ Tryz.underlying91 hj]
 go_wp2
 go_end0
 exact ⟨rfl,rfl⟩
set_option maxHeartbeats 1000000 in
set_option maxRecDepth 100000 in
theorem check_fresh (b : Nat) (w : World) (h0 : w.cell? ⟨b,0,none⟩ = some (.pointer none)) (hsh : w.shape? b = some (93,2)) (hfz : w.frozen? ⟨b,0,none⟩ = false) :
  Calls Tryz.prog 81 #[.pointer (some ⟨b,0,none⟩)] w fun e w' => e = .returned (.tuple #[]) ∧ w' = w.setCell ⟨b,0,none⟩ (.pointer (some ⟨b,0,none⟩)) := by
 obtain ⟨j,hj,hjs⟩ := Option.map_eq_some_iff.1 size101
 go_enter Tryz.func81,Tryz.ntmps81
 go_wp2
 rw [Lib.run_to_unsafe w ⟨b,0,none⟩ Tryz.underlying91 Tryz.underlying184 hj (by rw [hjs];decide) hsh (Nat.zero_lt_succ 1)]
 simp only [Result.andThen]
 rw [Oper.upon_value]
 go_wp2
 rw [run_callFunc_extern Tryz.func110 (by kernel_rfl) (by kernel_rfl) (by kernel_rfl) (e := Extern.AbiNoEscape.same) (by kernel_rfl)]
 rw [Lib.run_noEscape]
 simp only [Result.andThen]
 rw [Oper.upon_value]
 go_wp2
 rw [Lib.run_from_unsafe w ⟨b,0,none⟩ Tryz.underlying184 Tryz.underlying91 hj hsh (by kernel_rfl)]
 simp only [Result.andThen]
 rw [Oper.upon_value]
 go_wp2
 go_end0
 exact ⟨rfl,rfl⟩
def Others (b : Nat) (w w' : World) : Prop := ∀ (g : Nat) (cs : Array Value) (t : TypeId) (fr : Nat × Nat),t ≠ 5 → g ≠ b → w.heap[g]? = some (.cells cs t fr) → w'.heap[g]? = some (.cells cs t fr)
theorem Others.of {w w' : World} {b : Nat} (h : w.grownBy w' (some b)) : Others b w w' := fun g _ _ _ _ hb hh => (h.block g (Array.getElem?_eq_some_iff.1 hh).1 (fun e => hb (by cases e;rfl))).trans hh
theorem check_any (B b : Nat) (bs : List Value) (w : World) (h : Lib.IsBuilder 93 5 B b bs w) :
  Calls Tryz.prog 81 #[.pointer (some ⟨b,0,none⟩)] w fun e w' => e = .returned (.tuple #[]) ∧ (Lib.BuilderAt 93 5 B b (.pointer (some ⟨b,0,none⟩)) bs w' ∧ Below B w w' ∧ Others b w w') := by
 rcases h with h | h
 ·refine (check_fresh b w h.cell0 h.shape h.frozen0).mono ?_
  rintro e w' ⟨rfl,rfl⟩
  exact ⟨rfl,h.used _,(Below.refl B w).setCell (p := ⟨b,0,none⟩) h.1 _,Others.of (grown_set _ _ _ _)⟩
 ·refine (check_used b w h.cell0).mono ?_
  rintro e w' ⟨rfl,rfl⟩
  exact ⟨rfl,h,Below.refl B _,fun _ _ _ _ _ _ h => h⟩
set_option maxHeartbeats 2000000 in
set_option maxRecDepth 100000 in
theorem bwrite_any (B b : Nat) (bs : List Value) (s : ByteArray) (w : World) (h : Lib.IsBuilder 93 5 B b bs w) (hlen : bs.length + s.size ≤ 140737488355328) (hBw : B ≤ w.heap.size) :
  Calls Tryz.prog 45 #[.pointer (some ⟨b,0,none⟩), .string s] w fun e w' => e = .returned (.tuple #[.int .i64 s.size, .nilIface]) ∧ (Lib.BuilderAt 93 5 B b (.pointer (some ⟨b,0,none⟩)) (bs ++ Lib.strCells s) w' ∧ Below B w w' ∧ Others b w w') := by
 obtain ⟨i0,hi,hz0,hz1,hz2⟩ := info_parts info5
 have KC := check_any B b bs w h
 go_enter Tryz.func45,Tryz.ntmps45
 go_wp2_with (go_at_call 81;refine KC.mono ?_)
 rintro e w1 ⟨rfl,h1,hb1,hot1⟩
 clear KC
 obtain ⟨hB,v,hbk,hown,hne⟩ := h1
 have c0 : w1.cell? ⟨b,0,none⟩ = some (.pointer (some ⟨b,0,none⟩)) := by rw [Lib.cell_of_heap hbk];rfl
 have c1 : w1.cell? ⟨b,1,none⟩ = some v := by rw [Lib.cell_of_heap hbk];rfl
 go_wp2_with (at_builtin;refine Lib.wpList_append_own_string _ rfl _ _ 62 9 rfl B 5 i0 Tryz.underlying62 Tryz.underlying9 hi hz0 hz1 hz2 _ _ _ rfl hown s rfl ?c3 ?c4 ?c5 ?_)
 case c3 => unfold maxLen;omega
 case c4 => omega
 case c5 => have := hb1.size;omega
 intro v' w2 hown' hgrow _
 have hlt : b < w1.heap.size := by
  rcases Nat.lt_or_ge b w1.heap.size with h' | h'
  ·exact h'
  ·simp [Array.getElem?_eq_none h'] at hbk
 have hb2 : w2.heap[b]? = some (.cells #[.pointer (some ⟨b,0,none⟩),v] 93 (0,0)) := by
  rw [hgrow.block b hlt (fun e => hne e.symm)]
  exact hbk
 have d0 : w2.cell? ⟨b,0,none⟩ = some (.pointer (some ⟨b,0,none⟩)) := by rw [Lib.cell_of_heap hb2];rfl
 have d1 : w2.cell? ⟨b,1,none⟩ = some v := by rw [Lib.cell_of_heap hb2];rfl
 have f1 : w2.frozen? ⟨b,1,none⟩ = false := Lib.frozen_of_heap hb2 1
 obtain ⟨ao,n',cap,rfl⟩ : ∃ ao n' cap,v' = .slice ao n' cap := by
  rcases hown'.2 with ⟨hv,_⟩ | ⟨g,cap,cur,hv,_⟩
  ·exact ⟨_,_,_,hv⟩
  ·exact ⟨_,_,_,hv⟩
 go_wp2
 go_ret2
 refine ⟨rfl, ?_, ?_, ?_⟩
 ·exact Lib.BuilderAt.put (T := 93) (e := 5) hB hb2 (bs' := bs ++ Lib.strCells s) (by simpa [Lib.strCells_length] using hown') (by decide)
 ·exact (hb1.grown hgrow (by have := hb1.size;omega) (fun k hk => (hown.lt k hk).1)).setCell (p := ⟨b,1,none⟩) hB _
 ·intro g cs t fr ht hg hh
  have h1 := hot1 g cs t fr ht hg hh
  have h2 : w2.heap[g]? = some (.cells cs t fr) := by
   refine (hgrow.block g (Array.getElem?_eq_some_iff.1 h1).1 (fun e => ?_)).trans h1
   rcases hown.2 with ⟨rfl,_⟩ | ⟨g1,c1,cur1,rfl,_,hg1,_⟩
   ·simp [Value.ownBlock] at e
   ·simp only [Value.ownBlock,Option.some.injEq] at e
    subst e
    rw [hg1] at h1
    simp only [Option.some.injEq,Obj.cells.injEq] at h1
    exact ht h1.2.1.symm
  exact Others.of (grown_set w2 b 1 _) g cs t fr ht hg h2
open Go.RowKit
theorem joinB_take (l : List Bs) (k : Nat) : (joinB (l.take k)).length ≤ (joinB l).length := by
 have : joinB l = joinB (l.take k) ++ joinB (l.drop k) := by
  unfold joinB;rw [← List.flatMap_append,List.take_append_drop]
 rw [this,List.length_append];omega
theorem isb_below {T e : TypeId} {B b : Nat} {bs : List Value} {w w' : World} (h : Lib.IsBuilder T e B b bs w) (hb : Below w.heap.size w w') : Lib.IsBuilder T e B b bs w' := by
 have hat : ∀ p,Lib.BuilderAt T e B b p bs w → Lib.BuilderAt T e B b p bs w' := fun p ⟨h1,v,h2,h3,h4⟩ => ⟨h1,v,(hb.block b (Array.getElem?_eq_some_iff.1 h2).1).trans h2,own_below h3 hb,h4⟩
 exact h.imp (hat _) (hat _)
set_option maxRecDepth 100000 in
set_option maxHeartbeats 4000000 in
theorem join_any (A : Option Addr) (cap : Nat) (l : List Bs) (w : World) (hA : Lies w A (txc l)) (hn : l.length ≤ 1000000) (hsz : (joinB l).length ≤ 1099511627776) :
  Calls Tryz.prog 83 #[.slice A l.length cap] w fun e w' => e = .returned (.string (mk (joinB l))) ∧ Below w.heap.size w w' := by
 obtain ⟨n,hl⟩ : ∃ n,l.length = n := ⟨_,rfl⟩
 rw [hl] at hn ⊢
 have HL := Lib.hid hA
 have HS := Lib.hid hsz
 have HN := Lib.hid hl
 clear hA hsz hl
 go_enter Tryz.func83,Tryz.ntmps83
 go_wp2
 go_loopw [5,8] (fun _ i wr => ∃ k : Nat,k ≤ n ∧ i = .int .i64 k ∧ Lib.IsBuilder 93 5 w.heap.size w.heap.size (Lib.byteCells (joinB (l.take k))) wr ∧ Below w.heap.size w wr) (fun _ i _ => n - (intOf i).toNat)
 case atStart => exact ⟨0,Nat.zero_le _,rfl,Lib.fresh_isBuilder 93 5 w,(Below.refl _ w).alloc (Nat.le_refl _) _⟩
 case round =>
  obtain ⟨k,hk,rfl,hbu,hB⟩ := hrel
  have hsz := hB.size
  by_cases h : k < n
  ·have hkl : k < l.length := by rw [HN.out];exact h
   obtain ⟨g,off,rfl,hgl,hcs⟩ := HL.out (by simp [txc];omega)
   have d0 := (hB.cell (p := ⟨g,off + k,none⟩) hgl).trans (hcs k _ (txc_at l k hkl))
   have hsn : joinB (l.take (k + 1)) = joinB (l.take k) ++ putB l[k].length ++ l[k] := by
    rw [List.take_succ_eq_append_getElem hkl,joinB_snoc]
   have hln := joinB_take l (k + 1)
   rw [hsn] at hln
   have hln2 := HS.out
   obtain ⟨x,hx⟩ : ∃ x,l[k] = x := ⟨_,rfl⟩
   rw [hx] at d0 hsn hln
   obtain ⟨T,hT⟩ : ∃ T,joinB (l.take k) = T := ⟨_,rfl⟩
   rw [hT] at hbu hsn hln
   have HSN := Lib.hid hsn
   have k0 : (0 : Int) ≤ (k : Int) := by omega
   have k1 : (k : Int) < (n : Int) := by omega
   simp only [List.length_append] at hln
   have KP := fun w' => put_any x.length w' (by omega)
   have s0 : (mk x).size = x.length := mk_size _
   have s1 : (mk (putB x.length)).size = (putB x.length).length := mk_size _
   obtain ⟨X,hX⟩ : ∃ X,mk x = X := ⟨_,rfl⟩
   obtain ⟨Y,hY⟩ : ∃ Y,mk (putB x.length) = Y := ⟨_,rfl⟩
   rw [hX] at d0 s0
   rw [hY] at s1 KP
   have HX := Lib.hid hX
   have HY := Lib.hid hY
   rw [← s0] at KP
   have HB := Lib.hid hB
   have HBU := Lib.hid hbu
   have KW := fun (w4 : World) (h4 : Below wr.heap.size wr w4) => bwrite_any w.heap.size w.heap.size (Lib.byteCells T) Y w4 (isb_below HBU.out h4) (by simp [Lib.byteCells];omega) (Nat.le_trans hsz h4.size)
   have KW2 := fun (w5 : World) (h5 : Lib.BuilderAt 93 5 w.heap.size w.heap.size (.pointer (some ⟨w.heap.size,0,none⟩)) (Lib.byteCells T ++ Lib.strCells Y) w5) (h6 : w.heap.size ≤ w5.heap.size) => bwrite_any w.heap.size w.heap.size (Lib.byteCells T ++ Lib.strCells Y) X w5 (.inr h5) (by simp [Lib.byteCells,Lib.strCells];omega) h6
   have Hs0 := Lib.hid s0
   clear hcs hsn hx hT hX hY hB hbu hln hln2 s0 s1
   go_wp2_with (first
    | (go_at_call 84;refine (KP _).mono ?_;rintro e w4 ⟨rfl,hb4⟩;have K1 := KW w4 hb4;have H4 := Lib.hid hb4;clear hb4 KW KP)
    | (go_at_call 45;(with_reducible refine K1.mono ?_);rintro e w5 ⟨rfl,hbu5,hb5,_⟩;have K2 := KW2 w5 hbu5 (by have := hb5.size;have := H4.out.size;omega);have H5 := Lib.hid hb5;clear hb5 hbu5 K1 KW2)
    | (go_at_call 45;(with_reducible refine K2.mono ?_);rintro e w6 ⟨rfl,hbu6,hb6,_⟩;have H6 := Lib.hid hb6;have HU6 := Lib.hid hbu6;clear hb6 hbu6 K2))
   have hfin : Lib.byteCells T ++ Lib.strCells Y ++ Lib.strCells X = Lib.byteCells (joinB (l.take (k + 1))) := by
    rw [HSN.out, ← HX.out, ← HY.out]
    simp [Lib.byteCells,Lib.strCells,mk_data]
   have HF := Lib.hid hfin
   clear hfin
   go_roundw
   case rel => exact ⟨k + 1,by omega,by go_num, .inr (by rw [← HF.out];exact HU6.out),(((HB.out.trans (H4.out.mono hsz)).trans H5.out).trans H6.out)⟩
   case measure => simp [intOf];omega
  ·obtain rfl : k = n := by omega
   have e : l.take k = l := List.take_of_length_le (by rw [HN.out];exact Nat.le_refl _)
   rw [e] at hbu
   have KS := Tryz.Builder_String_any w.heap.size w.heap.size (joinB l) wr hbu hsz
   clear hbu
   go_wp2_with (go_at_call 46;refine KS.mono ?_;rintro e2 w2 ⟨rfl,hb2⟩)
   go_ret
   exact ⟨rfl,hB.trans hb2⟩
open Go.RowKit
def tblL : List Int := [0,498536548,997073096,651767980,1994146192,1802195444,1303535960,1342533948,3988292384,4027552580,3604390888,3412177804,2607071920,2262029012,2685067896,3183342108]
def TB (w : World) : Prop := ∀ k,k < 16 → w.cell? ⟨0,k,none⟩ = some (.int .u32 (tblL.getD k 0))
theorem TB.below {w w' : World} {B : Nat} (h : TB w) (hB : 0 < B) (hb : Below B w w') : TB w' := fun k hk => (hb.cell (p := ⟨0,k,none⟩) hB).trans (h k hk)
def half (r : Int) : Int := bits .xor .u32 (r / 16) (tblL.getD (bits .and .u32 r 15).toNat 0)
def crcStep (r : Int) (c : UInt8) : Int := half (half (bits .xor .u32 r c.toNat))
def crcR (s : Bs) : Int := s.foldl crcStep 4294967295
def crcI (s : Bs) : Int := bits .xor .u32 4294967295 (crcR s)
theorem crcR_take (s : Bs) (k : Nat) (h : k < s.length) : crcR (s.take (k + 1)) = crcStep (crcR (s.take k)) s[k] := by
 rw [List.take_succ_eq_append_getElem h];unfold crcR;rw [List.foldl_append];rfl
theorem and_fifteen (z : Int) : ∃ q : Nat,q ≤ 15 ∧ bits .and .u32 z 15 = (q : Int) := by
 refine ⟨(BitVec.ofInt 32 z).toNat &&& 15,Nat.and_le_right, ?_⟩
 show IntKind.u32.wrap ((BitVec.ofInt 32 z &&& BitVec.ofInt 32 15).toNat : Int) = _
 have h : (BitVec.ofInt 32 z &&& BitVec.ofInt 32 15).toNat = (BitVec.ofInt 32 z).toNat &&& 15 := by rw [BitVec.toNat_and];rfl
 rw [h]
 have h2 : (BitVec.ofInt 32 z).toNat &&& 15 ≤ 15 := Nat.and_le_right
 generalize (BitVec.ofInt 32 z).toNat &&& 15 = r at h2
 simp [IntKind.wrap,IntKind.bits,IntKind.signed]
 omega
set_option maxRecDepth 100000 in
set_option maxHeartbeats 1000000 in
theorem sum_any (s : Bs) (w : World) (hT : TB w) (hs : s.length ≤ 9223372036854775807) : Calls Tryz.prog 85 #[.string (mk s)] w fun e w' => e = .returned (.int .u32 (crcI s)) ∧ w' = w := by
 have zs : (mk s).size = s.length := mk_size s
 obtain ⟨X,hX⟩ : ∃ X,mk s = X := ⟨_,rfl⟩
 rw [hX] at zs ⊢
 obtain ⟨n,hn⟩ : ∃ n,s.length = n := ⟨_,rfl⟩
 rw [hn] at zs hs
 have HX := Lib.hid hX
 have HN := Lib.hid hn
 have HT := Lib.hid hT
 clear hX hn hT
 go_enter Tryz.func85,Tryz.ntmps85
 go_wp2
 go_loopw [3,7] (fun rv kv wr => ∃ k : Nat,k ≤ n ∧ kv = .int .i64 k ∧ rv = .int .u32 (crcR (s.take k)) ∧ wr = w) (fun _ kv _ => n - (intOf kv).toNat)
 case atStart => exact ⟨0,by omega,rfl,rfl,rfl⟩
 case round =>
  obtain ⟨k,hk,rfl,rfl,rfl⟩ := hrel
  have k0 : (0 : Int) ≤ (k : Int) := by omega
  by_cases hkn : k < n
  ·have k1 : (k : Int) < (n : Int) := by omega
   have hc : X[k]'(by omega) = s[k]'(by rw [HN.out];exact hkn) := by
    have h1 : X.data.toList = s := by rw [← HX.out,mk_data]
    have : X.data.toList[k]'(by rw [h1,HN.out];exact hkn) = s[k]'(by rw [HN.out];exact hkn) := by simp [h1]
    exact this
   obtain ⟨r,hr⟩ : ∃ r,crcR (s.take k) = r := ⟨_,rfl⟩
   obtain ⟨c,hcc⟩ : ∃ c,s[k]'(by rw [HN.out];exact hkn) = c := ⟨_,rfl⟩
   rw [hcc] at hc
   rw [hr]
   have hcw : (c.toNat : Int) % 4294967296 = c.toNat := by have := c.toNat_lt;omega
   obtain ⟨r1,hr1⟩ : ∃ r1,bits .xor .u32 r (c.toNat : Int) = r1 := ⟨_,rfl⟩
   obtain ⟨q1,hq1,ha1⟩ := and_fifteen r1
   have t1 := HT.out q1 (by omega)
   obtain ⟨v1,hv1⟩ : ∃ v1,tblL.getD q1 0 = v1 := ⟨_,rfl⟩
   rw [hv1] at t1
   obtain ⟨r2,hr2⟩ : ∃ r2,bits .xor .u32 (r1 / 16) v1 = r2 := ⟨_,rfl⟩
   obtain ⟨q2,hq2,ha2⟩ := and_fifteen r2
   have t2 := HT.out q2 (by omega)
   obtain ⟨v2,hv2⟩ : ∃ v2,tblL.getD q2 0 = v2 := ⟨_,rfl⟩
   rw [hv2] at t2
   obtain ⟨r3,hr3⟩ : ∃ r3,bits .xor .u32 (r2 / 16) v2 = r3 := ⟨_,rfl⟩
   have HR := Lib.hid (show crcR (s.take (k + 1)) = r3 by
    rw [crcR_take s k (by rw [HN.out];exact hkn),hr,hcc]
    unfold crcStep half
    rw [hr1,ha1,Int.toNat_natCast,hv1,hr2,ha2,Int.toNat_natCast,hv2,hr3])
   have p1 : (0 : Int) ≤ (q1 : Int) := by omega
   have p2 : (q1 : Int) < 16 := by omega
   have p3 : (0 : Int) ≤ (q2 : Int) := by omega
   have p4 : (q2 : Int) < 16 := by omega
   have p5 : (q1 : Int) ≤ 15 := by omega
   have p6 : (q2 : Int) ≤ 15 := by omega
   clear hr hcc hv1 hv2
   go_wp2
   go_roundw
   case rel => exact ⟨k + 1,by omega,by go_num,by rw [HR.out],trivial⟩
   case measure => simp [intOf];omega
  ·obtain rfl : k = n := by omega
   have HR := Lib.hid (show crcR (s.take k) = crcR s by rw [List.take_of_length_le (by rw [HN.out];exact Nat.le_refl _)])
   have HF := Lib.hid (show bits .xor .u32 4294967295 (crcR s) = crcI s from rfl)
   go_wp2
   go_ret
   exact ⟨by rw [HR.out];rfl,rfl⟩
open Go.RowKit
def zeroS : Bs := List.replicate 512 0
def fullB (d : Bs) : Bs := d ++ List.replicate (512 - d.length) 0
def overlay (L : List Bs) (S : List (Nat × Bs)) : List Bs := S.foldl (fun L x => L.set x.1 x.2) L
def scells (S : List (Nat × Bs)) : List Value := S.flatMap fun x => [.int .i64 x.1, .string (mk x.2)]
theorem overlay_length (S : List (Nat × Bs)) : ∀ L,(overlay L S).length = L.length := by
 induction S with
 | nil => intro L;rfl
 | cons x S ih => intro L;unfold overlay at ih ⊢;rw [List.foldl_cons,ih,List.length_set]
theorem overlay_snoc (L : List Bs) (S : List (Nat × Bs)) (x : Nat × Bs) : overlay L (S ++ [x]) = (overlay L S).set x.1 x.2 := by simp [overlay]
theorem scells_length (S : List (Nat × Bs)) : (scells S).length = S.length * 2 := by
 induction S with
 | nil => rfl
 | cons x S ih => unfold scells at ih ⊢;rw [List.flatMap_cons,List.length_append,ih];simp;omega
theorem scells_at (S : List (Nat × Bs)) : ∀ j (h : j < S.length),(scells S)[j * 2]? = some (.int .i64 S[j].1) ∧ (scells S)[j * 2 + 1]? = some (.string (mk S[j].2)) := by
 induction S with
 | nil => intro j h;simp at h
 | cons x S ih =>
  intro j h
  have e : scells (x :: S) = .int .i64 x.1 :: .string (mk x.2) :: scells S := by unfold scells;rfl
  rw [e]
  cases j with
  | zero => exact ⟨rfl,rfl⟩
  | succ j =>
   have := ih j (by simpa using h)
   rw [show (j + 1) * 2 = j * 2 + 1 + 1 by omega]
   simpa using this
theorem scells_snoc (S : List (Nat × Bs)) (x : Nat × Bs) : scells (S ++ [x]) = scells S ++ [.int .i64 x.1, .string (mk x.2)] := by simp [scells]
structure Mv (X X' : List Nat) (w w' : World) : Prop where
 frm : Frm X w w'
 sub : ∀ x ∈ X',x ∈ X ∨ w.heap.size ≤ x
theorem Mv.of_frm {X : List Nat} {w w' : World} (h : Frm X w w') : Mv X X w w' := ⟨h,fun _ h => .inl h⟩
theorem Mv.refl (X : List Nat) (w : World) : Mv X X w w := .of_frm (Frm.refl X w)
theorem Mv.of_below (X : List Nat) {w w' : World} (h : Below w.heap.size w w') : Mv X X w w' := .of_frm (Frm.of_below X h)
theorem Mv.trans {X Y Z : List Nat} {a b c : World} (h : Mv X Y a b) (k : Mv Y Z b c) : Mv X Z a c :=
 ⟨h.frm.trans k.frm h.sub,fun z hz => (k.sub z hz).elim (h.sub z) (fun hh => .inr (Nat.le_trans h.frm.size hh))⟩
theorem Mv.drew {X Y : List Nat} {a b : World} (h : Mv X Y a b) : Mv X Y a b.drew := ⟨h.frm.drew,h.sub⟩
theorem Mv.alloc {X Y : List Nat} {a b : World} (h : Mv X Y a b) (o : Obj) : Mv X Y a (b.alloc o) := ⟨h.frm.alloc o,h.sub⟩
theorem Mv.below {X Y : List Nat} {a b c : World} (h : Mv X Y a b) (k : Below b.heap.size b c) : Mv X Y a c := h.trans (.of_below _ k)
theorem Mv.size {X Y : List Nat} {a b : World} (h : Mv X Y a b) : a.heap.size ≤ b.heap.size := h.frm.size
theorem Mv.blk {X Y : List Nat} {w w' : World} (h : Mv X Y w w') {b : Nat} {cs : Array Value} {e : TypeId} (hb : Blk w b cs e) (hx : b ∉ X) : Blk w' b cs e := h.frm.blk hb hx
structure DS where
 L : List Bs
 S : List (Nat × Bs)
 cut : Option (Nat × List Int)
 off : Bool
def keptI (keep : List Int) (k : Nat) : Bool := decide (0 < keep.length) && (bits .and .i64 (keep.getD (k % keep.length) 0) 1 == 1)
def overK (p : Nat → Bool) : Nat → List Bs → List (Nat × Bs) → List Bs
 | _,L,[] => L
 | k,L,x :: S => overK p (k + 1) (if p k then L.set x.1 x.2 else L) S
theorem overK_snoc (p : Nat → Bool) (x : Nat × Bs) : ∀ (S : List (Nat × Bs)) (k : Nat) (L : List Bs),overK p k L (S ++ [x]) = if p (k + S.length) then (overK p k L S).set x.1 x.2 else overK p k L S := by
 intro S
 induction S with
 | nil => intro k L;simp [overK]
 | cons y S ih => intro k L;rw [List.cons_append,overK,ih,List.length_cons,show k + 1 + S.length = k + (S.length + 1) by omega];rfl
theorem overK_length (p : Nat → Bool) : ∀ (S : List (Nat × Bs)) (k : Nat) (L : List Bs),(overK p k L S).length = L.length := by
 intro S
 induction S with
 | nil => intro k L;rfl
 | cons x S ih => intro k L;rw [overK,ih];split <;> simp
theorem overK_good (p : Nat → Bool) (n : Nat) : ∀ (S : List (Nat × Bs)) (k : Nat) (L : List Bs),(∀ x ∈ L,x.length = 512) → (∀ x ∈ S,x.1 < n ∧ x.2.length = 512) → ∀ x ∈ overK p k L S,x.length = 512 := by
 intro S
 induction S with
 | nil => intro k L h _;exact h
 | cons y S ih =>
  intro k L h hS
  rw [overK]
  refine ih _ _ (fun x hx => ?_) (fun z hz => hS z (List.mem_cons_of_mem _ hz))
  split at hx
  ·rcases List.mem_or_eq_of_mem_set hx with hx | rfl
   ·exact h x hx
   ·exact (hS y (List.mem_cons_self ..)).2
  ·exact h x hx
def DS.fail (d : DS) (keep : List Int) : DS := ⟨overK (keptI keep) 0 d.L d.S,[],none,true⟩
def DS.step (d : DS) : Nat × DS :=
 if d.off then (7,d) else match d.cut with
 | none => (0,d)
 | some (n,keep) => if n = 1 then (7,d.fail keep) else (0,⟨d.L,d.S,some (n - 1,keep),false⟩)
def DS.write (d : DS) (i : Nat) (b : Bs) : Nat × DS := if d.step.1 = 0 then (0,⟨d.step.2.L,d.step.2.S ++ [(i,fullB b)],d.step.2.cut,d.step.2.off⟩) else d.step
def DS.sync (d : DS) : Nat × DS := if d.step.1 = 0 then (0,⟨overlay d.step.2.L d.step.2.S,[],d.step.2.cut,d.step.2.off⟩) else d.step
def DS.vis (d : DS) : List Bs := overlay d.L d.S
structure DGood (d : DS) : Prop where
 lasts : ∀ x ∈ d.L,x.length = 512
 wrote : ∀ x ∈ d.S,x.1 < d.L.length ∧ x.2.length = 512
 small : d.L.length ≤ 4096
def icells (l : List Int) : List Value := l.map fun i => .int .i64 i
def CutAt (w : World) (X : List Nat) (v : Value) : Option (Nat × List Int) → Prop
 | none => v = .pointer none
 | some (n,keep) => 1 ≤ n ∧ n ≤ 9223372036854775807 ∧ keep.length ≤ 9223372036854775807 ∧ ∃ C A c,v = .pointer (some ⟨C,0,none⟩) ∧ C ∈ X ∧ Blk w C #[.int .i64 n, .slice A keep.length c] 115 ∧ Lies w A (icells keep) ∧ Typed w A 3 ∧ ∀ a,A = some a → a.block ∈ X
structure Dsk (w : World) (X : List Nat) (D : Nat) (d : DS) : Prop where
 blk : ∃ gL cL vS vC cnt,Blk w D #[.slice (some ⟨gL,0,none⟩) d.L.length cL,vS,vC, .bool d.off, .int .i64 cnt] 123 ∧ w.ownsRow 0 9 1 (.slice (some ⟨gL,0,none⟩) d.L.length cL) d.L.length (txc d.L) ∧
  w.ownsRow 0 141 2 vS d.S.length (scells d.S) ∧ CutAt w X vC d.cut ∧ gL ∈ X ∧ ∀ g,vS.ownBlock = some g → g ∈ X
 good : DGood d
 mem : D ∈ X
 lt : ∀ x ∈ X,x < w.heap.size
theorem Typed.frm {X : List Nat} {w w' : World} (h : Frm X w w') {A : Option Addr} {e : TypeId} (ht : Typed w A e) (hx : ∀ a,A = some a → a.block ∉ X) : Typed w' A e := by
 intro a ha
 obtain ⟨cs,fr,hc⟩ := ht a ha
 exact ⟨cs,fr,(h.block _ (Array.getElem?_eq_some_iff.1 hc).1 (hx a ha)).trans hc⟩
theorem CutAt.frm {X Y : List Nat} {w w' : World} (h : Frm Y w w') {v : Value} {o : Option (Nat × List Int)} (hc : CutAt w X v o) (hx : ∀ x ∈ X,x ∉ Y) : CutAt w' X v o := by
 cases o with
 | none => exact hc
 | some p =>
  obtain ⟨n,keep⟩ := p
  obtain ⟨h1,h2,h3,C,A,c,h4,h5,h6,h7,h8,h9⟩ := hc
  exact ⟨h1,h2,h3,C,A,c,h4,h5,h.blk h6 (hx _ h5),h.lies h7 (fun a ha => hx _ (h9 a ha)),h8.frm h (fun a ha => hx _ (h9 a ha)),h9⟩
theorem Dsk.frm {X Y : List Nat} {w w' : World} {D : Nat} {d : DS} (h : Dsk w X D d) (hf : Frm Y w w') (hx : ∀ x ∈ X,x ∉ Y) : Dsk w' X D d := by
 obtain ⟨gL,cL,vS,vC,cnt,hB,hL,hS,hC,hg,hv⟩ := h.blk
 exact ⟨⟨gL,cL,vS,vC,cnt,hf.blk hB (hx _ h.mem),hf.row hL (fun g e => by simp only [Value.ownBlock,Option.some.injEq] at e;subst e;exact hx _ hg),hf.row hS (fun g e => hx _ (hv g e)),hC.frm hf hx,hg,hv⟩,h.good,h.mem,fun x hx => Nat.lt_of_lt_of_le (h.lt x hx) hf.size⟩
theorem Dsk.below {X : List Nat} {w w' : World} {D : Nat} {d : DS} (h : Dsk w X D d) (hb : Below w.heap.size w w') : Dsk w' X D d := h.frm (Frm.of_below [] hb) (fun _ _ => by simp)
theorem Mv.apart {X X' : List Nat} {w w' : World} (h : Mv X X' w w') {b : Nat} (hb : b ∉ X) (hl : b < w.heap.size) : b ∉ X' := fun hx => (h.sub b hx).elim hb (fun hh => by omega)
theorem mk_app (a b : Bs) : mk a ++ mk b = mk (a ++ b) := by
 rw [← mk_list (mk a ++ mk b)]
 congr 1
theorem run_sum (a b : Bs) (h : a.length + b.length ≤ 1099511627776) (w : World) : (Op.stringOp .add (mk a) (mk b)).run Tryz.prog w = .ok (.string (mk (a ++ b))) w := by
 have h1 : (mk a).size = a.length := mk_size _
 have h2 : (mk b).size = b.length := mk_size _
 have h3 := mk_app a b
 obtain ⟨X,hX⟩ : ∃ X,mk a = X := ⟨_,rfl⟩
 obtain ⟨Y,hY⟩ : ∃ X,mk b = X := ⟨_,rfl⟩
 rw [hX] at h1 h3 ⊢
 rw [hY] at h2 h3 ⊢
 rw [← h3]
 have h4 : X.size + Y.size ≤ 9223372036854775807 := by omega
 clear hX hY h1 h2 h3
 go_simp
theorem ext_mk' (s : ByteArray) (a b : Nat) : s.extract a (a + b) = mk ((s.data.toList.drop a).take b) := by
 apply ByteArray.ext
 rw [ByteArray.data_extract]
 apply Array.toList_inj.1
 simp [mk,List.extract_eq_take_drop]
theorem repeat_zero : ∀ n,Lib.repeatL [0] n = List.replicate n 0
 | 0 => rfl
 | n + 1 => by rw [Lib.repeatL,repeat_zero n,List.replicate_succ];rfl
theorem blank_any (w : World) : Calls Tryz.prog 62 #[] w fun e w' => e = .returned (.string (mk zeroS)) ∧ Below w.heap.size w w' := by
 have hr : (⟨(Lib.repeatL (ByteArray.data ⟨#[0]⟩).toList 512).toArray⟩ : ByteArray) = mk zeroS := by
  rw [show (ByteArray.data ⟨#[0]⟩).toList = [0] from rfl,repeat_zero];rfl
 have K := fun w => Tryz.strings_Repeat ⟨#[0]⟩ 512 w (by decide) (by decide)
 rw [hr] at K
 go_enter Tryz.func62,Tryz.ntmps62
 go_wp2_with (go_at_call 103;refine (K _).mono ?_;rintro e w1 ⟨rfl,hb⟩)
 go_wp2
 go_ret
 exact ⟨rfl,hb⟩
theorem drop_zero (k : Nat) : zeroS.drop k = List.replicate (512 - k) 0 := by unfold zeroS;rw [List.drop_replicate]
theorem full_any (d : Bs) (w : World) (h : d.length ≤ 512) : Calls Tryz.prog 72 #[.string (mk d)] w fun e w' => e = .returned (.string (mk (fullB d))) ∧ Below w.heap.size w w' := by
 have K := blank_any w
 have zr : (mk zeroS).size = 512 := by rw [mk_size];unfold zeroS;rw [List.length_replicate]
 have zd : (mk d).size = d.length := mk_size d
 have hsl := fun (w : World) => run_slice_string_l (P := Tryz.prog) (w := w) (t := 9) (s := mk zeroS) Tryz.underlying9 .i64 (d.length : Int) (by omega) (by rw [zr];omega)
 rw [show ((d.length : Int)).toNat = d.length by omega,show (mk zeroS).extract d.length (mk zeroS).size = mk (List.replicate (512 - d.length) 0) by
  have := ext_mk' (mk zeroS) d.length (512 - d.length)
  rw [show d.length + (512 - d.length) = (mk zeroS).size by rw [zr];omega,mk_data,drop_zero,List.take_of_length_le (by simp)] at this
  exact this] at hsl
 have hsum := run_sum d (List.replicate (512 - d.length) 0) (by simp;omega)
 have hf : d ++ List.replicate (512 - d.length) 0 = fullB d := rfl
 rw [hf] at hsum
 obtain ⟨X,hX⟩ : ∃ X,mk d = X := ⟨_,rfl⟩
 obtain ⟨Z,hZ⟩ : ∃ X,mk zeroS = X := ⟨_,rfl⟩
 obtain ⟨Y,hY⟩ : ∃ X,mk (List.replicate (512 - d.length) 0) = X := ⟨_,rfl⟩
 obtain ⟨R,hR⟩ : ∃ X,mk (fullB d) = X := ⟨_,rfl⟩
 obtain ⟨k,hk⟩ : ∃ k,d.length = k := ⟨_,rfl⟩
 rw [hX,hk] at zd
 rw [hZ,hY,hk] at hsl
 rw [hX,hY,hR] at hsum
 rw [hZ] at K
 rw [hX,hR]
 clear hX hZ hY hR hk hf zr h
 go_enter Tryz.func72,Tryz.ntmps72
 go_wp2_with (go_at_call 62;refine K.mono ?_;rintro e w1 ⟨rfl,hb⟩)
 go_wp2
 go_ret
 exact ⟨rfl,hb⟩
theorem since_at {w : World} {B m : Nat} {v : Value} {S : List (Nat × Bs)} (h : w.ownsRow B 141 2 v m (scells S)) (hm : S.length = m) (j : Nat) (hj : j < S.length) : ∃ g c,v = .slice (some ⟨g,0,none⟩) m c ∧ w.cell? ⟨g,j * 2,none⟩ = some (.int .i64 S[j].1) ∧ w.cell? ⟨g,j * 2 + 1,none⟩ = some (.string (mk S[j].2)) := by
 obtain ⟨g,cap,rfl,_,_⟩ := h.form (by omega)
 obtain ⟨h0,h1⟩ := scells_at S j hj
 refine ⟨g,cap,rfl, ?_, ?_⟩
 ·rw [h.cellAt (j * 2) (by omega)];exact h0
 ·rw [h.cellAt (j * 2 + 1) (by omega)];exact h1
theorem over_drop (L : List Bs) (S : List (Nat × Bs)) (i : Nat) (h : ∀ x ∈ S,x.1 ≠ i) : (overlay L S)[i]? = L[i]? := by
 induction S generalizing L with
 | nil => rfl
 | cons x S ih =>
  unfold overlay at ih ⊢
  rw [List.foldl_cons,ih _ (fun y hy => h y (List.mem_cons_of_mem _ hy)),List.getElem?_set_ne (h x (List.mem_cons_self ..))]
theorem over_hit (L : List Bs) (S : List (Nat × Bs)) (i j : Nat) (hj : j < S.length) (he : S[j].1 = i) (h : ∀ k (hk : k < S.length),j < k → S[k].1 ≠ i) (hi : i < L.length) : (overlay L S)[i]? = some S[j].2 := by
 have e : S = S.take j ++ S[j] :: S.drop (j + 1) := by rw [← List.drop_eq_getElem_cons hj,List.take_append_drop]
 have e2 : overlay L S = overlay ((overlay L (S.take j)).set i S[j].2) (S.drop (j + 1)) := by
  conv => lhs;rw [e]
  unfold overlay
  rw [List.foldl_append,List.foldl_cons,he]
 rw [e2,over_drop _ _ _ (fun x hx => ?_),List.getElem?_set_self (by rw [overlay_length];exact hi)]
 obtain ⟨k,hk,rfl⟩ := List.getElem_of_mem hx
 rw [List.getElem_drop]
 exact h _ _ (by omega)
theorem add_any (a : Addr) (n : Int) (w : World) (hc : w.cell? a = some (.int .i64 n)) (hz : w.frozen? a = false) :
  Calls Tryz.prog 121 #[.pointer (some a), .int .i64 1] w fun e w' => (∃ v,e = .returned v) ∧ w' = w.setCell a (.int .i64 (wrap64 (n + 1))) := by
 have hadd := run_call_add (P := Tryz.prog) Tryz.func146 (by kernel_rfl) (by kernel_rfl) (by kernel_rfl) .i64 (by kernel_rfl) (y := 1) (s := wrap64 (n + 1)) hc hz (by simp [go_sem];exact Go.IntWalk.i64_left _)
 go_enter Tryz.func121,Tryz.ntmps121
 go_wp2
 go_ret
 exact ⟨⟨_,rfl⟩,rfl⟩
theorem size_any (X : List Nat) (D : Nat) (d : DS) (w : World) (h : Dsk w X D d) : Calls Tryz.prog 53 #[.pointer (some ⟨D,0,none⟩)] w fun e w' => e = .returned (.int .i64 (d.L.length : Nat)) ∧ w' = w := by
 obtain ⟨gL,cL,vS,vC,cnt,hB,_⟩ := h.blk
 have x0 := hB.cell 0
 simp at x0
 obtain ⟨n,hn⟩ : ∃ n,d.L.length = n := ⟨_,rfl⟩
 rw [hn] at x0 ⊢
 clear h hB hn
 go_enter Tryz.func53,Tryz.ntmps53
 go_wp2
 go_ret
 exact ⟨rfl,rfl⟩
theorem has_any (X : List Nat) (D : Nat) (d : DS) (i : Int) (w : World) (h : Dsk w X D d) : Calls Tryz.prog 71 #[.pointer (some ⟨D,0,none⟩), .int .i64 i] w fun e w' => e = .returned (.bool (decide (0 ≤ i ∧ i < d.L.length))) ∧ w' = w := by
 have K := size_any X D d w h
 obtain ⟨n,hn⟩ : ∃ n,d.L.length = n := ⟨_,rfl⟩
 rw [hn] at K ⊢
 clear h hn
 by_cases h0 : 0 ≤ i
 ·go_enter Tryz.func71,Tryz.ntmps71
  go_wp2_with (go_at_call 53;refine K.mono ?_;rintro e w1 ⟨rfl,rfl⟩)
  go_wp2
  go_ret
  exact ⟨by simp [h0],rfl⟩
 ·go_enter Tryz.func71,Tryz.ntmps71
  go_wp2
  go_ret
  exact ⟨by simp;omega,rfl⟩
theorem off_any (X : List Nat) (D : Nat) (d : DS) (w : World) (h : Dsk w X D d) : Calls Tryz.prog 82 #[.pointer (some ⟨D,0,none⟩)] w fun e w' => e = .returned (.bool d.off) ∧ w' = w := by
 obtain ⟨gL,cL,vS,vC,cnt,hB,_⟩ := h.blk
 have x0 := hB.cell 3
 simp at x0
 obtain ⟨o,ho⟩ : ∃ o,d.off = o := ⟨_,rfl⟩
 rw [ho] at x0 ⊢
 clear h hB ho
 go_enter Tryz.func82,Tryz.ntmps82
 go_wp2
 go_ret
 exact ⟨rfl,rfl⟩
theorem len63 {w : World} {B e size n : Nat} {v : Value} {xs : List Value} (h : w.ownsRow B e size v n xs) : n ≤ 9223372036854775807 := by
 rcases h.2 with ⟨_,e⟩ | ⟨g,c',cur,_,_,_,e,e2,_⟩
 ·omega
 ·unfold maxLen at e2;omega
set_option maxHeartbeats 1000000 in
theorem read_any (X : List Nat) (D : Nat) (d : DS) (i : Nat) (w : World) (h : Dsk w X D d) (hi : i < d.L.length) (hoff : d.off = false) :
  Calls Tryz.prog 33 #[.pointer (some ⟨D,0,none⟩), .int .i64 i] w fun e w' => e = .returned (.tuple #[.string (mk (d.vis[i]?.getD [])), .int .i64 0]) ∧ w' = w := by
 have K := has_any X D d i w h
 rw [show decide (0 ≤ (i : Int) ∧ (i : Int) < d.L.length) = true by simp;omega] at K
 obtain ⟨gL,cL,vS,vC,cnt,hB,hL,hSr,_⟩ := h.blk
 have x0 := hB.cell 0
 have x1 := hB.cell 1
 have x3 := hB.cell 3
 simp at x0 x1 x3
 rw [hoff] at x3
 unfold DS.vis
 obtain ⟨L,hLe⟩ : ∃ L,d.L = L := ⟨_,rfl⟩
 obtain ⟨S,hSe⟩ : ∃ L,d.S = L := ⟨_,rfl⟩
 rw [hLe] at hi hL x0
 rw [hSe] at hSr
 rw [hLe,hSe]
 obtain ⟨n,hn⟩ : ∃ n,L.length = n := ⟨_,rfl⟩
 rw [hn] at hi hL x0
 have hl : w.cell? ⟨gL,i,none⟩ = some (.string (mk (L[i]?.getD []))) := by
  rw [hL.cellAt i (by omega),txc_at L i (by omega),List.getElem?_eq_getElem (by omega)];rfl
 have HOV := Lib.hid (over_drop L S i)
 have HOH := Lib.hid (fun j hj he hk => over_hit L S i j hj he hk (by omega))
 obtain ⟨m,hm⟩ : ∃ m,S.length = m := ⟨_,rfl⟩
 rw [hm] at hSr
 obtain ⟨A,c,hvS⟩ : ∃ A c,vS = .slice A m c := row_form hSr
 rw [hvS] at x1 hSr
 have hm63 : m ≤ 9223372036854775807 := len63 hSr
 have HR := Lib.hid hSr
 have HM := Lib.hid hm
 obtain ⟨V,hV⟩ : ∃ V,mk ((overlay L S)[i]?.getD []) = V := ⟨_,rfl⟩
 rw [hV]
 have HV := Lib.hid hV
 clear h hB hL hvS hm hV hSr hLe hSe hn hoff
 have i0 : (0 : Int) ≤ (i : Int) := by omega
 have i1 : (i : Int) < (n : Int) := by omega
 go_enter Tryz.func33,Tryz.ntmps33
 go_wp2_with (go_at_call 71;refine K.mono ?_;rintro e w1 ⟨rfl,hw⟩;obtain rfl := hw.symm)
 go_loopw [6] (fun kv wr => ∃ k : Nat,k ≤ m ∧ kv = .int .i64 ((k : Int) - 1) ∧ (∀ j (hj : j < S.length),k ≤ j → S[j].1 ≠ i) ∧ wr = w) (fun kv _ => (intOf kv + 1).toNat)
 case atStart => exact ⟨m,Nat.le_refl _,rfl,fun j hj hk => by have := HM.out;omega,rfl⟩
 case round =>
  obtain ⟨k,hk,rfl,hno,rfl⟩ := hrel
  have HNO := Lib.hid hno
  clear hno
  cases k with
  | zero =>
   have hv : (overlay L S)[i]?.getD [] = L[i]?.getD [] := by rw [HOV.out (fun x hx => by obtain ⟨j,hj,rfl⟩ := List.getElem_of_mem hx;exact HNO.out j hj (by omega))]
   rw [← hv,HV.out] at hl
   clear hv
   go_wp2
   go_ret2
   exact ⟨rfl,rfl⟩
  | succ k =>
   have hkl : k < S.length := by have := HM.out;omega
   obtain ⟨g,c',hA,s0,s1⟩ := since_at HR.out HM.out k hkl
   injection hA with hA1 _ hA3
   subst hA1 hA3
   have e1 : ((k + 1 : Nat) : Int) - 1 = (k : Int) := by omega
   rw [e1]
   have k0 : (0 : Int) ≤ (k : Int) := by omega
   have k1 : (k : Int) < (m : Int) := by omega
   by_cases he : S[k].1 = i
   ·have hv : (overlay L S)[i]?.getD [] = S[k].2 := by rw [HOH.out k hkl he (fun j hj hjk => HNO.out j hj (by omega))];rfl
    rw [he] at s0
    rw [← hv,HV.out] at s1
    clear hv e1 he
    go_wp2
    go_ret2
    exact ⟨rfl,rfl⟩
   ·have hne : ¬ ((S[k].1 : Int) = (i : Int)) := by omega
    have hne2 : ((S[k].1 : Int) == (i : Int)) = false := beq_eq_false_iff_ne.2 hne
    have HNO2 := Lib.hid (show ∀ j (hj : j < S.length),k ≤ j → S[j].1 ≠ i from fun j hj hkj => by
     by_cases e : j = k
     ·subst e;exact he
     ·exact HNO.out j hj (by omega))
    obtain ⟨z,hz⟩ : ∃ z,S[k].1 = z := ⟨_,rfl⟩
    rw [hz] at s0 hne hne2
    clear he hz e1 s1
    go_wp2
    go_roundw
    case rel => exact ⟨k,by omega,rfl,HNO2.out,trivial⟩
    case measure => simp [intOf]
open Go.RowKit
theorem noughts_any (k : Nat) (hk : k ≤ 512) (w : World) : Calls Tryz.prog 103 #[.string ⟨#[0]⟩, .int .i64 k] w fun e w' => e = .returned (.string (mk (List.replicate k 0))) ∧ Below w.heap.size w w' := by
 have K := Tryz.strings_Repeat ⟨#[0]⟩ k w (by omega) (by rw [show (ByteArray.size ⟨#[0]⟩) = 1 from rfl];omega)
 rw [show (⟨(Lib.repeatL (ByteArray.data ⟨#[0]⟩).toList k).toArray⟩ : ByteArray) = mk (List.replicate k 0) by
  rw [show (ByteArray.data ⟨#[0]⟩).toList = [0] from rfl,repeat_zero];rfl] at K
 exact K
theorem padded_any (d : Bs) (w : World) (h : d.length ≤ 512) : Calls Tryz.prog 86 #[.string (mk d)] w fun e w' => e = .returned (.string (mk (fullB d))) ∧ Below w.heap.size w w' := by
 have K := fun w => noughts_any (512 - d.length) (by omega) w
 rw [show ((512 - d.length : Nat) : Int) = 512 - (d.length : Int) by omega] at K
 have zd : (mk d).size = d.length := mk_size d
 have hsum := run_sum d (List.replicate (512 - d.length) 0) (by simp;omega)
 rw [show d ++ List.replicate (512 - d.length) 0 = fullB d from rfl] at hsum
 obtain ⟨X,hX⟩ : ∃ X,mk d = X := ⟨_,rfl⟩
 obtain ⟨Y,hY⟩ : ∃ X,mk (List.replicate (512 - d.length) 0) = X := ⟨_,rfl⟩
 obtain ⟨R,hR⟩ : ∃ X,mk (fullB d) = X := ⟨_,rfl⟩
 obtain ⟨k,hk⟩ : ∃ k,d.length = k := ⟨_,rfl⟩
 rw [hX,hk] at zd
 rw [hY,hk] at K
 rw [hX,hY,hR] at hsum
 rw [hX,hR]
 rw [hk] at h
 clear hX hY hR hk
 go_enter Tryz.func86,Tryz.ntmps86
 go_wp2_with (go_at_call 103;refine (K _).mono ?_;rintro e w1 ⟨rfl,hb⟩)
 go_wp2
 go_ret
 exact ⟨rfl,hb⟩
theorem dataAt_any (n : Nat) (w : World) (h : n ≤ 1000000) : Calls Tryz.prog 54 #[.int .i64 n] w fun e w' => e = .returned (.int .i64 ((n + 7 : Nat) : Int)) ∧ w' = w := by
 have h0 : (0 : Int) ≤ (n : Int) := by omega
 have h1 : (n : Int) ≤ 1000000 := by omega
 go_enter Tryz.func54,Tryz.ntmps54
 go_wp2
 go_ret
 refine ⟨?_,rfl⟩
 show Ending.returned (.int .i64 (2 + (n : Int) + 5)) = _
 rw [show 2 + (n : Int) + 5 = ((n + 7 : Nat) : Int) by omega]
theorem needs_any (n : Nat) (w : World) (h : n ≤ 1000000000) : Calls Tryz.prog 40 #[.int .i64 n] w fun e w' => e = .returned (.int .i64 (((n + 511) / 512 : Nat) : Int)) ∧ w' = w := by
 have h0 : (0 : Int) ≤ (n : Int) := by omega
 have h1 : (n : Int) ≤ 1000000000 := by omega
 have ht : ((n : Int) + 512 - 1).tdiv 512 = (((n + 511) / 512 : Nat) : Int) := by rw [Int.tdiv_eq_ediv_of_nonneg (by omega)];omega
 go_enter Tryz.func40,Tryz.ntmps40
 go_wp2
 go_ret
 exact ⟨rfl,rfl⟩
theorem conv_blk {w : World} {b c : Nat} {l : Bs} {cs : Array Value} (h : Blk w b cs 5) (hcs : ∀ j (hj : j < l.length),cs[j]? = some (.int .u8 (l[j].toNat : Int))) : (convert 62 9 (.slice (some ⟨b,0,none⟩) l.length c)).run Tryz.prog w = .ok (.string (mk l)) w :=
 run_convert_bytes_back (P := Tryz.prog) w 62 9 5 ⟨b,0,none⟩ c l Tryz.underlying62 Tryz.underlying5 Tryz.underlying9 (fun j hj => by
  rw [add_lit',Nat.zero_add,h.cell j];exact hcs j hj)
def twoB (n : Nat) : Bs := [UInt8.ofNat (n / 256),UInt8.ofNat n]
set_option maxRecDepth 100000 in
theorem two_any (n : Nat) (w : World) (h : n ≤ 1000000) : Calls Tryz.prog 94 #[.int .i64 n] w fun e w' => e = .returned (.string (mk (twoB n))) ∧ Below w.heap.size w w' := by
 have h0 : (0 : Int) ≤ (n : Int) := by omega
 have h1 : (n : Int) ≤ 1000000 := by omega
 have hcv : (convert 62 9 (.slice (some ⟨w.heap.size,0,none⟩) 2 2)).run Tryz.prog (w.alloc (.cells #[.int .u8 ((n : Int) / 256 % 256), .int .u8 ((n : Int) % 256)] 5)) = .ok (.string (mk (twoB n))) (w.alloc (.cells #[.int .u8 ((n : Int) / 256 % 256), .int .u8 ((n : Int) % 256)] 5)) :=
  conv_blk (l := twoB n) (Blk.new w #[.int .u8 ((n : Int) / 256 % 256), .int .u8 ((n : Int) % 256)] 5) (fun j hj => by
   have h2 : j < 2 := hj
   match j,h2 with
   | 0,_ => simp [twoB]
   | 1,_ => simp [twoB])
 obtain ⟨X,hX⟩ : ∃ X,mk (twoB n) = X := ⟨_,rfl⟩
 rw [hX] at hcv ⊢
 clear hX
 go_enter Tryz.func94,Tryz.ntmps94
 go_wp2
 go_ret
 exact ⟨rfl,below_alloc _ _⟩
def headB (s f : Nat) : Bs := fullB ([83,70] ++ twoB s ++ twoB f)
set_option maxRecDepth 100000 in
theorem head_any (s f : Nat) (w : World) (hs : s ≤ 1000000) (hf : f ≤ 1000000) : Calls Tryz.prog 55 #[.int .i64 s, .int .i64 f] w fun e w' => e = .returned (.string (mk (headB s f))) ∧ Below w.heap.size w w' := by
 have K1 := fun w => two_any s w hs
 have K2 := fun w => two_any f w hf
 have KP := fun w => padded_any ([83,70] ++ twoB s ++ twoB f) w (by simp [twoB])
 have s1 := run_sum [83,70] (twoB s) (by simp [twoB])
 have s2 := run_sum ([83,70] ++ twoB s) (twoB f) (by simp [twoB])
 rw [show mk [83,70] = ⟨#[83,70]⟩ from rfl] at s1
 have hh : fullB ([83,70] ++ twoB s ++ twoB f) = headB s f := rfl
 rw [hh] at KP
 obtain ⟨A,hA⟩ : ∃ X,mk (twoB s) = X := ⟨_,rfl⟩
 obtain ⟨B,hB⟩ : ∃ X,mk (twoB f) = X := ⟨_,rfl⟩
 obtain ⟨C,hC⟩ : ∃ X,mk ([83,70] ++ twoB s) = X := ⟨_,rfl⟩
 obtain ⟨D,hD⟩ : ∃ X,mk ([83,70] ++ twoB s ++ twoB f) = X := ⟨_,rfl⟩
 obtain ⟨R,hR⟩ : ∃ X,mk (headB s f) = X := ⟨_,rfl⟩
 rw [hA] at K1 s1
 rw [hB] at K2 s2
 rw [hC] at s1 s2
 rw [hD] at s2 KP
 rw [hR] at KP ⊢
 clear hA hB hC hD hR hh
 go_enter Tryz.func55,Tryz.ntmps55
 go_wp2_with (first
  | (go_at_call 94;(with_reducible refine (K1 _).mono ?_);rintro e w1 ⟨rfl,hb1⟩)
  | (go_at_call 94;(with_reducible refine (K2 _).mono ?_);rintro e w2 ⟨rfl,hb2⟩)
  | (go_at_call 86;refine (KP _).mono ?_;rintro e w3 ⟨rfl,hb3⟩))
 go_wp2
 go_ret
 exact ⟨rfl,(hb1.trans (hb2.mono hb1.size)).trans (hb3.mono (Nat.le_trans hb1.size hb2.size))⟩
open Go.RowKit
theorem icells_at (l : List Int) (j : Nat) (h : j < l.length) : (icells l)[j]? = some (.int .i64 l[j]) := by simp [icells,h]
theorem txc_set (L : List Bs) (i : Nat) (d : Bs) : txc (L.set i d) = (txc L).set i (.string (mk d)) := by simp [txc,List.map_set]
theorem row_ne_row {w : World} {B B' size size' n n' : Nat} {e e' : TypeId} {v v' : Value} {xs xs' : List Value} (h : w.ownsRow B e size v n xs) (h' : w.ownsRow B' e' size' v' n' xs') (he : e ≠ e') : v.ownBlock = none ∨ v.ownBlock ≠ v'.ownBlock := by
 cases hv : v.ownBlock with
 | none => exact .inl rfl
 | some g =>
  refine .inr fun e2 => ?_
  obtain ⟨c,fz,h1⟩ := row_kind h g hv
  obtain ⟨c',fz',h2⟩ := row_kind h' g e2.symm
  rw [h1] at h2
  simp only [Option.some.injEq,Obj.cells.injEq] at h2
  exact he h2.2.1
theorem Lies.grown {w w' : World} {A : Option Addr} {xs : List Value} {e : TypeId} {r : Option Nat} (h : Lies w A xs) (ht : Typed w A e) (hg : w.grownBy w' r) (hr : ∀ g,r = some g → ∃ c t fr,w.heap[g]? = some (.cells c t fr) ∧ t ≠ e) : Lies w' A xs ∧ Typed w' A e := by
 have hne : ∀ a,A = some a → some a.block ≠ r := fun a ha he => by
  obtain ⟨cs,fr,hc⟩ := ht a ha
  obtain ⟨c,t,fr',h1,h2⟩ := hr a.block he.symm
  rw [hc] at h1
  simp only [Option.some.injEq,Obj.cells.injEq] at h1
  exact h2 h1.2.1.symm
 refine ⟨fun h0 => ?_,fun a ha => ?_⟩
 ·obtain ⟨g,o,rfl,hl,hc⟩ := h h0
  have := hg.block g hl (hne _ rfl)
  exact ⟨g,o,rfl,Nat.lt_of_lt_of_le hl hg.size,fun j u hu => (World.cell?_of_block (a := ⟨g,o + j,none⟩) this).trans (hc j u hu)⟩
 ·obtain ⟨cs,fr,hc⟩ := ht a ha
  exact ⟨cs,fr,(hg.block _ (Array.getElem?_eq_some_iff.1 hc).1 (hne a ha)).trans hc⟩
theorem CutAt.grown {w w' : World} {X : List Nat} {v : Value} {o : Option (Nat × List Int)} {r : Option Nat} (h : CutAt w X v o) (hg : w.grownBy w' r) (hr : ∀ g,r = some g → ∃ c t fr,w.heap[g]? = some (.cells c t fr) ∧ t ≠ 3 ∧ t ≠ 115) : CutAt w' X v o := by
 cases o with
 | none => exact h
 | some p =>
  obtain ⟨n,keep⟩ := p
  obtain ⟨h1,h2,h3,C,A,c,h4,h5,h6,h7,h8,h9⟩ := h
  obtain ⟨k1,k2⟩ := h7.grown h8 hg (fun g hgr => by obtain ⟨c,t,fr,a,b,_⟩ := hr g hgr;exact ⟨c,t,fr,a,b⟩)
  refine ⟨h1,h2,h3,C,A,c,h4,h5,h6.grown hg (fun e => ?_),k1,k2,h9⟩
  obtain ⟨c,t,fr,a,_,b⟩ := hr C e
  unfold Blk at h6
  rw [h6] at a
  simp only [Option.some.injEq,Obj.cells.injEq] at a
  exact b a.2.1.symm
theorem own_set3' {w : World} {B s n X : Nat} {e e' : TypeId} {v : Value} {xs : List Value} {cs : Array Value} (h : w.ownsRow B e s v n xs) (hX : Blk w X cs e') (he : e ≠ e') (i j k : Nat) (a b c : Value) : (((w.setCell ⟨X,i,none⟩ a).setCell ⟨X,j,none⟩ b).setCell ⟨X,k,none⟩ c).ownsRow B e s v n xs :=
 own_set (own_set (own_set h hX he i a) (hX.set i a) he j b) ((hX.set i a).set j b) he k c
theorem CutAt.alloc {w : World} {X : List Nat} {v : Value} {o : Option (Nat × List Int)} (h : CutAt w X v o) (b : Obj) : CutAt (w.alloc b) X v o := h.grown (World.grownBy_alloc w b none) (fun g e => by cases e)
theorem CutAt.drew {w : World} {X : List Nat} {v : Value} {o : Option (Nat × List Int)} (h : CutAt w X v o) : CutAt w.drew X v o := h
theorem CutAt.set {w : World} {X : List Nat} {v : Value} {o : Option (Nat × List Int)} {b : Nat} {cs : Array Value} {t : TypeId} {fr : Nat × Nat} (h : CutAt w X v o) (hb : w.heap[b]? = some (.cells cs t fr)) (h3 : t ≠ 3) (h115 : t ≠ 115) (i : Nat) (u : Value) : CutAt (w.setCell ⟨b,i,none⟩ u) X v o :=
 h.grown (grown_set w b i u) (fun g e => by cases e;exact ⟨_,_,_,hb,h3,h115⟩)
theorem row_blk {w : World} {B e size n : Nat} {g c : Nat} {xs : List Value} (h : w.ownsRow B e size (.slice (some ⟨g,0,none⟩) n c) n xs) : ∃ cs fr,w.heap[g]? = some (.cells cs e fr) := row_kind h g rfl
set_option maxRecDepth 100000 in
set_option maxHeartbeats 2000000 in
theorem fail_core (X : List Nat) (D : Nat) (d : DS) (A : Option Addr) (cap : Nat) (keep : List Int) (w : World) (gL cL : Nat) (vS vC : Value) (off : Bool) (cnt : Int) (hB : Blk w D #[.slice (some ⟨gL,0,none⟩) d.L.length cL,vS,vC, .bool off, .int .i64 cnt] 123) (hL : w.ownsRow 0 9 1 (.slice (some ⟨gL,0,none⟩) d.L.length cL) d.L.length (txc d.L))
  (hSr : w.ownsRow 0 141 2 vS d.S.length (scells d.S)) (hgX : gL ∈ X) (hgd : DGood d) (hmem : D ∈ X) (hlt : ∀ x ∈ X,x < w.heap.size) (hl : Lies w A (icells keep)) (ht : Typed w A 3) (hk : keep.length ≤ 9223372036854775807) :
  Calls Tryz.prog 63 #[.pointer (some ⟨D,0,none⟩), .slice A keep.length cap] w fun e w' => e = .returned (.tuple #[]) ∧ Dsk w' X D (d.fail keep) ∧ Frm X w w' := by
 have HG := Lib.hid hgd
 have HMEM := Lib.hid (And.intro hmem hlt)
 have HGX := Lib.hid hgX
 have hDl := hB.lt
 unfold DS.fail
 have hov : ∀ k,overK (keptI keep) 0 d.L (d.S.take (k + 1)) = if k < d.S.length then (if keptI keep k then (overK (keptI keep) 0 d.L (d.S.take k)).set (d.S.getD k (0,[])).1 (d.S.getD k (0,[])).2 else overK (keptI keep) 0 d.L (d.S.take k)) else overK (keptI keep) 0 d.L (d.S.take k) := fun k => by
  by_cases hk : k < d.S.length
  ·rw [if_pos hk,List.take_succ_eq_append_getElem hk,overK_snoc,List.length_take,Nat.zero_add,Nat.min_eq_left (Nat.le_of_lt hk)]
   simp [hk]
  ·rw [if_neg hk,List.take_of_length_le (by omega),List.take_of_length_le (by omega)]
 have HOV := Lib.hid hov
 obtain ⟨L,hLe⟩ : ∃ L,d.L = L := ⟨_,rfl⟩
 obtain ⟨S,hSe⟩ : ∃ L,d.S = L := ⟨_,rfl⟩
 rw [hLe] at hB hL
 rw [hSe] at hSr
 rw [hLe,hSe] at HOV
 rw [hLe,hSe]
 obtain ⟨n,hn⟩ : ∃ n,L.length = n := ⟨_,rfl⟩
 obtain ⟨m,hm⟩ : ∃ m,S.length = m := ⟨_,rfl⟩
 rw [hn] at hB hL
 rw [hm] at hSr
 obtain ⟨As,cS,hvS⟩ : ∃ A c,vS = .slice A m c := row_form hSr
 rw [hvS] at hB hSr
 have hm63 : m ≤ 9223372036854775807 := len63 hSr
 have HX := Lib.hid (And.intro hLe (And.intro hSe (And.intro hn hm)))
 obtain ⟨kl,hkl⟩ : ∃ kl,keep.length = kl := ⟨_,rfl⟩
 rw [hkl] at hk ⊢
 have HKL := Lib.hid hkl
 have hST : Blk w D #[.slice (some ⟨gL,0,none⟩) n cL, .slice As m cS,vC, .bool off, .int .i64 cnt] 123 ∧ w.ownsRow 0 9 1 (.slice (some ⟨gL,0,none⟩) n cL) n (txc (overK (keptI keep) 0 L (S.take 0))) ∧ w.ownsRow 0 141 2 (.slice As m cS) m (scells S) ∧ Lies w A (icells keep) ∧ Typed w A 3 ∧ Frm X w w := ⟨hB,by simpa [overK] using hL,hSr,hl,ht,Frm.refl X w⟩
 have HST := Lib.hid hST
 have x1 := hB.cell 1
 simp at x1
 clear hB hL hSr hl ht hLe hSe hn hm hvS hST hov hkl hgX hgd hmem hlt
 go_enter Tryz.func63,Tryz.ntmps63
 have mixed := mixedT
 go_wp2
 clear x1
 go_loopw [11] (fun kv wr => ∃ k : Nat,k ≤ m ∧ kv = .int .i64 k ∧ Blk wr D #[.slice (some ⟨gL,0,none⟩) n cL, .slice As m cS,vC, .bool off, .int .i64 cnt] 123 ∧ wr.ownsRow 0 9 1 (.slice (some ⟨gL,0,none⟩) n cL) n (txc (overK (keptI keep) 0 L (S.take k))) ∧ wr.ownsRow 0 141 2 (.slice As m cS) m (scells S) ∧ Lies wr A (icells keep) ∧ Typed wr A 3 ∧ Frm X w wr) (fun kv _ => m - (intOf kv).toNat)
 case atStart => exact ⟨0,by omega,rfl,HST.out⟩
 case round =>
  obtain ⟨k,hkm,rfl,hB,hL,hSr,hl,ht,hF⟩ := hrel
  by_cases hlt : k < m
  ·have hkl : k < S.length := by have := HX.out.2.2.2;omega
   obtain ⟨g,c',hA,s0,s1⟩ := since_at hSr HX.out.2.2.2 k hkl
   injection hA with hA1 _ hA3
   subst hA1 hA3
   have hq : S[k].1 < n := by
    have := (HG.out.wrote S[k] (by rw [HX.out.2.1];exact List.getElem_mem hkl)).1
    rw [HX.out.1,HX.out.2.2.1] at this
    exact this
   have HOK := Lib.hid (show overK (keptI keep) 0 L (S.take (k + 1)) = if keptI keep k then (overK (keptI keep) 0 L (S.take k)).set S[k].1 S[k].2 else overK (keptI keep) 0 L (S.take k) by
    rw [HOV.out k,if_pos hkl];simp [hkl])
   have HLN := Lib.hid (show (overK (keptI keep) 0 L (S.take k)).length = n by rw [overK_length,HX.out.2.2.1])
   obtain ⟨z,hz⟩ : ∃ z,S[k].1 = z := ⟨_,rfl⟩
   obtain ⟨bs,hbs⟩ : ∃ Y,S[k].2 = Y := ⟨_,rfl⟩
   obtain ⟨Y,hY⟩ : ∃ Y,mk bs = Y := ⟨_,rfl⟩
   rw [hz] at s0 hq
   rw [hbs,hY] at s1
   rw [hz,hbs] at HOK
   have HY := Lib.hid hY
   obtain ⟨L1,hL1⟩ : ∃ L1,overK (keptI keep) 0 L (S.take k) = L1 := ⟨_,rfl⟩
   rw [hL1] at hL HOK HLN
   obtain ⟨k1,hk1⟩ : ∃ k1,keptI keep k = k1 := ⟨_,rfl⟩
   rw [hk1] at HOK
   have hk1' := hk1
   unfold keptI at hk1'
   rw [HKL.out] at hk1'
   have HB := Lib.hid hB
   have HL := Lib.hid hL
   have HSr := Lib.hid hSr
   have HF := Lib.hid hF
   have HLI := Lib.hid hl
   have HTY := Lib.hid ht
   have k0 : (0 : Int) ≤ (k : Int) := by omega
   have kk1 : (k : Int) < (m : Int) := by omega
   have z0 : (0 : Int) ≤ (z : Int) := by omega
   have z1 : (z : Int) < (n : Int) := by omega
   have HEND := Lib.hid (fun (hf : k1 = false) => (show Blk (wr.alloc (.cells #[.int .i64 z, .string Y] 141)) D #[.slice (some ⟨gL,0,none⟩) n cL, .slice (some ⟨g,0,none⟩) m cS,vC, .bool off, .int .i64 cnt] 123 ∧ (wr.alloc (.cells #[.int .i64 z, .string Y] 141)).ownsRow 0 9 1 (.slice (some ⟨gL,0,none⟩) n cL) n (txc (overK (keptI keep) 0 L (S.take (k + 1)))) ∧ (wr.alloc (.cells #[.int .i64 z, .string Y] 141)).ownsRow 0 141 2 (.slice (some ⟨g,0,none⟩) m cS) m (scells S) ∧ Lies (wr.alloc (.cells #[.int .i64 z, .string Y] 141)) A (icells keep) ∧ Typed (wr.alloc (.cells #[.int .i64 z, .string Y] 141)) A 3 ∧ Frm X w (wr.alloc (.cells #[.int .i64 z, .string Y] 141)) from
    ⟨HB.out.alloc _,by rw [HOK.out,hf];exact World.ownsRow.alloc HL.out _,World.ownsRow.alloc HSr.out _,HLI.out.below (Nat.le_refl _) (below_alloc _ _),HTY.out.below (below_alloc _ _),HF.out.alloc _⟩))
   clear hB hL hSr hF hl ht hz hbs hY hL1 hk1
   by_cases hke : 0 < kl
   ·have hke' : ¬ (kl = 0) := by omega
    obtain ⟨q,hqq⟩ : ∃ q,k % kl = q := ⟨_,rfl⟩
    have hql : q < kl := by rw [← hqq];exact Nat.mod_lt _ hke
    have htm : ((k : Int)).tmod (kl : Int) = (q : Int) := by rw [← hqq];rfl
    have hmd : (k : Int) % (kl : Int) = (q : Int) := by rw [← hqq];rfl
    have hqk : q < keep.length := by rw [HKL.out];exact hql
    obtain ⟨ga,oa,rfl,hga,hca⟩ := HLI.out (by simp [icells];omega)
    have c0 := hca q _ (icells_at keep q hqk)
    obtain ⟨y,hy⟩ : ∃ y,keep[q] = y := ⟨_,rfl⟩
    obtain ⟨b,hb⟩ : ∃ b,bits .and .i64 y 1 = b := ⟨_,rfl⟩
    rw [hy] at c0
    have hd : keep.getD q 0 = y := by rw [List.getD_eq_getElem?_getD,List.getElem?_eq_getElem hqk,hy];rfl
    rw [hqq,hd,hb] at hk1'
    have hde : decide (0 < kl) = true := by simpa using hke
    rw [hde,Bool.true_and] at hk1'
    have kp : (0 : Int) < (kl : Int) := by omega
    have q0 : (0 : Int) ≤ (q : Int) := by omega
    have q1 : (q : Int) < (kl : Int) := by omega
    clear hca hy hd hqq hde hqk hke hke' hql hlt hkl
    cases k1 with
    | true =>
     have hb1 : b = 1 := by simpa using hk1'
     clear HEND hk1'
     subst hb1
     go_wp2
     have hB1 := HB.out.alloc (.cells #[.int .i64 z, .string Y] 141)
     have hL1 := World.ownsRow.alloc HL.out (.cells #[.int .i64 z, .string Y] 141)
     have hS1 := World.ownsRow.alloc HSr.out (.cells #[.int .i64 z, .string Y] 141)
     have hl1 : Lies (wr.alloc (.cells #[.int .i64 z, .string Y] 141)) (some ⟨ga,oa,none⟩) (icells keep) := HLI.out.below (Nat.le_refl _) (below_alloc _ _)
     have ht1 : Typed (wr.alloc (.cells #[.int .i64 z, .string Y] 141)) (some ⟨ga,oa,none⟩) 3 := HTY.out.below (below_alloc _ _)
     have hF1 := (HF.out.alloc (.cells #[.int .i64 z, .string Y] 141))
     have hZ1 := Blk.new wr #[.int .i64 z, .string Y] 141
     obtain ⟨Z,hZ⟩ : ∃ Z,wr.heap.size = Z := ⟨_,rfl⟩
     rw [hZ] at hZ1
     simp only [hZ]
     clear hZ
     refine wp_region_held (S := fun w' => Blk w' D #[.slice (some ⟨gL,0,none⟩) n cL, .slice (some ⟨g,0,none⟩) m cS,vC, .bool off, .int .i64 cnt] 123 ∧ Blk w' Z #[.int .i64 z, .string Y] 141) mixed ?_
     change wpAnyH _ _ _ _ _ _ _ _ (wr.alloc (.cells #[.int .i64 z, .string Y] 141)).drew
     have hB2 : Blk (wr.alloc (.cells #[.int .i64 z, .string Y] 141)).drew D _ 123 := hB1
     have hL2 : (wr.alloc (.cells #[.int .i64 z, .string Y] 141)).drew.ownsRow 0 9 1 (.slice (some ⟨gL,0,none⟩) n cL) n (txc L1) := hL1
     have hS2 : (wr.alloc (.cells #[.int .i64 z, .string Y] 141)).drew.ownsRow 0 141 2 (.slice (some ⟨g,0,none⟩) m cS) m (scells S) := hS1
     have hZ2 : Blk (wr.alloc (.cells #[.int .i64 z, .string Y] 141)).drew Z _ 141 := hZ1
     have hl2 : Lies (wr.alloc (.cells #[.int .i64 z, .string Y] 141)).drew (some ⟨ga,oa,none⟩) (icells keep) := hl1
     have ht2 : Typed (wr.alloc (.cells #[.int .i64 z, .string Y] 141)).drew (some ⟨ga,oa,none⟩) 3 := ht1
     have hF2 : Frm X w (wr.alloc (.cells #[.int .i64 z, .string Y] 141)).drew := hF1.drew
     obtain ⟨W,hW⟩ : ∃ u,(wr.alloc (.cells #[.int .i64 z, .string Y] 141)).drew = u := ⟨_,rfl⟩
     rw [hW] at hB2 hL2 hS2 hZ2 hl2 ht2 hF2 ⊢
     clear hW hB1 hL1 hS1 hZ1 hl1 ht1 hF1 s0 s1 c0
     have hS0 := And.intro hB2 hZ2
     refine tkQ 0 (.pointer (some ⟨D,0,none⟩)) rfl hS0 ?_
     try go_simp
     refine tkQ 1 (.pointer (some ⟨D,0,none⟩)) rfl hS0 ?_
     try go_simp
     refine tkQ 2 (.pointer (some ⟨D,0,none⟩)) rfl hS0 ?_
     try go_simp
     refine tkH 3 (.slice (some ⟨gL,0,none⟩) n cL) rfl hS0 (fun w' hS => ?_) ?_
     ·have q0 := hS.1.cell 0;simp at q0;go_simp
     try go_simp
     refine tkQ 4 (.pointer (some ⟨Z,0,none⟩)) rfl hS0 ?_
     try go_simp
     refine tkH 5 (.int .i64 z) rfl hS0 (fun w' hS => ?_) ?_
     ·have q0 := hS.2.cell 0;simp at q0;go_simp
     try go_simp
     refine tkQ 6 (.pointer (some ⟨Z,1,none⟩)) rfl hS0 ?_
     try go_simp
     refine tkH 7 (.string Y) rfl hS0 (fun w' hS => ?_) ?_
     ·have q0 := hS.2.cell 1;simp at q0;go_simp
     try go_simp
     refine tkQ 8 (.pointer (some ⟨gL,z,none⟩)) rfl hS0 ?_
     try go_simp
     refine alH 9 ?_
     have r0 := hL2.cellAt z (by omega)
     have f0 := hL2.frozenAt z
     rw [txc_at _ z (by rw [HLN.out];exact hq)] at r0
     unfold wpOp
     go_simp
     have hne : gL ≠ D := fun e => own_ne_blk hL2 hB2 (by decide) (by rw [e];rfl)
     have hneZ : gL ≠ Z := fun e => own_ne_blk hL2 hZ2 (by decide) (by rw [e];rfl)
     have hgr := grown_set W gL z (.string Y)
     have hB3 := hB2.grown hgr (by simpa using hne)
     have hZ3 := hZ2.grown hgr (by simpa using hneZ)
     have hL3 := (World.ownsRow.stored hL2 z (.string Y)).1
     have hS3 := hS2.kept hgr (by
      rcases row_ne_row hS2 hL2 (by decide) with e | e
      ·exact .inl e
      ·exact .inr e)
     have hlt3 := hl2.grown ht2 hgr (fun x hx => by
      obtain ⟨cs,fr,hc⟩ := row_blk hL2
      cases hx
      exact ⟨cs,9,fr,hc,by decide⟩)
     have hF3 := hF2.setCell (p := ⟨gL,z,none⟩) (.inl HGX.out) (.string Y)
     have hL4 : (W.setCell ⟨gL,z,none⟩ (.string Y)).ownsRow 0 9 1 (.slice (some ⟨gL,0,none⟩) n cL) n (txc (overK (keptI keep) 0 L (S.take (k + 1)))) := by
      rw [HOK.out];simp only [if_true,txc_set,HY.out];exact hL3
     have HFN := Lib.hid (And.intro hB3 (And.intro hL4 (And.intro hS3 (And.intro hlt3.1 (And.intro hlt3.2 hF3)))))
     first | refine .inl ⟨⟨hB3,hZ3⟩, ?_⟩ | refine ⟨⟨hB3,hZ3⟩, ?_⟩
     refine wpAnyH_done (by kernel_rfl) ?_ _
     clear hB2 hL2 hS2 hZ2 hF2 hS0 r0 f0 hne hneZ hgr hB3 hZ3 hL3 hS3 hF3 hL4 hlt3 hl2 ht2
     go_wp2
     go_roundw
     case rel => exact ⟨k + 1,by omega,by go_num,HFN.out⟩
     case measure => simp [intOf];omega
    | false =>
     have hb1 : ¬ (b = 1) := by simpa using hk1'
     have hb2 : (b == 1) = false := by simpa using hk1'
     have HE := Lib.hid (HEND.out rfl)
     clear HEND HOK hk1'
     go_wp2
     go_roundw
     case rel => exact ⟨k + 1,by omega,by go_num,HE.out⟩
     case measure => simp [intOf];omega
   ·have hke' : kl = 0 := by omega
    have hkf : k1 = false := by rw [← hk1',hke'];rfl
    have HE := Lib.hid (HEND.out hkf)
    subst hke'
    clear HEND HOK hk1' hkf hkl
    go_wp2
    go_roundw
    case rel => exact ⟨k + 1,by omega,by go_num,HE.out⟩
    case measure => simp [intOf];omega
  ·obtain rfl : k = m := by omega
   have f1 := hB.frozen 1
   have f2 := hB.frozen 2
   have f3 := hB.frozen 3
   have x1 := hB.cell 1
   have x2 := hB.cell 2
   have x3 := hB.cell 3
   simp at x1 x2 x3
   have hB1 := ((hB.set 1 (.slice none 0 0)).set 2 (.pointer none)).set 3 (.bool true)
   simp at hB1
   have hL1 := own_set3' hL hB (by decide) 1 2 3 (.slice none 0 0) (.pointer none) (.bool true)
   have hF1 := ((hF.setCell (p := ⟨D,1,none⟩) (.inl HMEM.out.1) (.slice none 0 0)).setCell (p := ⟨D,2,none⟩) (.inl HMEM.out.1) (.pointer none)).setCell (p := ⟨D,3,none⟩) (.inl HMEM.out.1) (.bool true)
   rw [List.take_of_length_le (by rw [HX.out.2.2.2];exact Nat.le_refl _)] at hL1
   have hgd := HG.out
   have hln : (overK (keptI keep) 0 L S).length = n := by rw [overK_length,HX.out.2.2.1]
   have HFN := Lib.hid (show Dsk (((wr.setCell ⟨D,1,none⟩ (.slice none 0 0)).setCell ⟨D,2,none⟩ (.pointer none)).setCell ⟨D,3,none⟩ (.bool true)) X D ⟨overK (keptI keep) 0 L S,[],none,true⟩ ∧ Frm X w (((wr.setCell ⟨D,1,none⟩ (.slice none 0 0)).setCell ⟨D,2,none⟩ (.pointer none)).setCell ⟨D,3,none⟩ (.bool true)) from
    ⟨⟨⟨gL,cL, .slice none 0 0, .pointer none,cnt,by simp only [hln];exact hB1,by simp only [hln];exact hL1,World.ownsRow_nil _ _ _ _,rfl,HGX.out,fun g e => (by cases e)⟩,
     ⟨overK_good _ n S 0 L (fun x hx => hgd.lasts x (by rw [HX.out.1];exact hx)) (fun x hx => by have := hgd.wrote x (by rw [HX.out.2.1];exact hx);rwa [HX.out.1,HX.out.2.2.1] at this),fun x hx => (by cases hx),by simp only [hln];have := hgd.small;rw [HX.out.1,HX.out.2.2.1] at this;exact this⟩,HMEM.out.1,fun x hx => by have := HMEM.out.2 x hx;have := hF1.size;omega⟩,hF1⟩)
   clear hB hL hSr hF hB1 hL1 hF1 hl ht hgd hln
   go_wp2
   go_end0
   exact ⟨rfl,HFN.out⟩
theorem fail_any (X : List Nat) (D : Nat) (d : DS) (A : Option Addr) (cap : Nat) (keep : List Int) (w : World) (h : Dsk w X D d) (hl : Lies w A (icells keep)) (ht : Typed w A 3) (hk : keep.length ≤ 9223372036854775807) :
  Calls Tryz.prog 63 #[.pointer (some ⟨D,0,none⟩), .slice A keep.length cap] w fun e w' => e = .returned (.tuple #[]) ∧ Dsk w' X D (d.fail keep) ∧ Frm X w w' := by
 obtain ⟨gL,cL,vS,vC,cnt,hB,hL,hSr,_,hgX,_⟩ := h.blk
 exact fail_core X D d A cap keep w gL cL vS vC d.off cnt hB hL hSr hgX h.good h.mem h.lt hl ht hk
theorem step_off {d : DS} (h : d.off = true) : d.step = (7,d) := by unfold DS.step;rw [h];rfl
theorem step_none {d : DS} (h : d.off = false) (hc : d.cut = none) : d.step = (0,d) := by unfold DS.step;rw [h,hc];rfl
theorem step_last {d : DS} {keep : List Int} (h : d.off = false) (hc : d.cut = some (1,keep)) : d.step = (7,d.fail keep) := by unfold DS.step;rw [h,hc];rfl
theorem step_more {d : DS} {n : Nat} {keep : List Int} (h : d.off = false) (hc : d.cut = some (n,keep)) (hn : n ≠ 1) : d.step = (0,⟨d.L,d.S,some (n - 1,keep),false⟩) := by
 unfold DS.step;rw [h,hc];simp [hn]
set_option maxHeartbeats 1000000 in
theorem step_any (X : List Nat) (D : Nat) (d : DS) (w : World) (h : Dsk w X D d) :
  Calls Tryz.prog 95 #[.pointer (some ⟨D,0,none⟩)] w fun e w' => e = .returned (.int .i64 (d.step.1 : Nat)) ∧ Dsk w' X D d.step.2 ∧ Frm X w w' := by
 obtain ⟨gL,cL,vS,vC,cnt,hB,hL,hSr,hC,hgX,hvX⟩ := h.blk
 have x2 := hB.cell 2
 have x3 := hB.cell 3
 have x4 := hB.cell 4
 have f4 := hB.frozen 4
 simp at x2 x3 x4
 have HD := Lib.hid h
 have HB := Lib.hid hB
 have HL := Lib.hid hL
 have HS := Lib.hid hSr
 have HC := Lib.hid hC
 have HG := Lib.hid hgX
 have HV := Lib.hid hvX
 cases ho : d.off with
 | true =>
  rw [step_off ho]
  rw [ho] at x3
  clear h hB hL hSr hC hgX hvX f4 x4 x2 ho
  go_enter Tryz.func95,Tryz.ntmps95
  go_wp2
  go_ret
  exact ⟨rfl,HD.out,Frm.refl _ _⟩
 | false =>
  rw [ho] at x3
  cases hc : d.cut with
  | none =>
   rw [step_none ho hc]
   rw [hc] at hC
   obtain rfl : vC = .pointer none := hC
   have KA := add_any ⟨D,4,none⟩ cnt w x4 f4
   clear h hB hL hSr hgX hvX f4 x4 hc
   go_enter Tryz.func95,Tryz.ntmps95
   go_wp2_with (go_at_call 121;refine KA.mono ?_;rintro e w1 ⟨⟨v,rfl⟩,rfl⟩)
   go_wp2
   go_ret
   have hs := HB.out.set 4 (.int .i64 (wrap64 (cnt + 1)))
   simp at hs
   exact ⟨rfl,⟨⟨gL,cL,vS, .pointer none,_,hs,own_set HL.out HB.out (by decide) 4 _,own_set HS.out HB.out (by decide) 4 _,HC.out.set HB.out (by decide) (by decide) 4 _,HG.out,HV.out⟩,HD.out.good,HD.out.mem,fun x hx => by simpa using HD.out.lt x hx⟩,(Frm.refl _ w).setCell (p := ⟨D,4,none⟩) (.inl HD.out.mem) _⟩
  | some p =>
   obtain ⟨n,keep⟩ := p
   rw [hc] at hC
   obtain ⟨n1,n2,k1,C,A,c,rfl,hCX,hCB,hKL,hKT,hKX⟩ := hC
   have y0 := hCB.cell 0
   have y1 := hCB.cell 1
   have g0 := hCB.frozen 0
   simp at y0 y1
   have hCD : C ≠ D := fun e => by
    subst e
    unfold Blk at hB hCB
    rw [hB] at hCB
    simp at hCB
   obtain ⟨u,hu⟩ : ∃ u : Value, .int .i64 ((n - 1 : Nat) : Int) = u := ⟨_,rfl⟩
   have hB1 : Blk (w.setCell ⟨C,0,none⟩ u) D _ 123 := (Below.heap_setCell w ⟨C,0,none⟩ u D (fun e => hCD e.symm)).trans hB
   have hCB1 := hCB.set 0 u
   have hL1 := own_set hL hCB (by decide) 0 u
   have hS1 := own_set hSr hCB (by decide) 0 u
   have hKLT := hKL.grown hKT (grown_set w C 0 u) (fun x hx => by cases hx;exact ⟨_,_,_,hCB,by decide⟩)
   have hF1 := (Frm.refl X w).setCell (p := ⟨C,0,none⟩) (.inl hCX) u
   have hlt1 : ∀ x ∈ X,x < (w.setCell ⟨C,0,none⟩ u).heap.size := fun x hx => by simpa using HD.out.lt x hx
   by_cases hn1 : n = 1
   ·subst hn1
    rw [step_last ho hc]
    have KF := fail_core X D d A c keep (w.setCell ⟨C,0,none⟩ u) gL cL vS (.pointer (some ⟨C,0,none⟩)) false cnt (by simpa [ho] using hB1) hL1 hS1 hgX h.good h.mem hlt1 hKLT.1 hKLT.2 k1
    obtain ⟨kl,hkl⟩ : ∃ k,keep.length = k := ⟨_,rfl⟩
    rw [hkl] at KF y1
    have hu0 : u = .int .i64 0 := by rw [← hu];rfl
    subst hu0
    have HF1 := Lib.hid hF1
    clear h hB hL hSr hgX hvX f4 x4 hc hCB hKL hKT hKX hB1 hCB1 hL1 hS1 hKLT hF1 hlt1 hu hkl n1 n2 k1 hCX
    go_enter Tryz.func95,Tryz.ntmps95
    go_wp2_with (go_at_call 63;refine KF.mono ?_;rintro e w1 ⟨rfl,hD1,hF1⟩)
    go_wp2
    go_ret
    exact ⟨rfl,hD1,HF1.out.trans hF1 (fun y hy => .inl hy)⟩
   ·rw [step_more ho hc hn1]
    have hu1 : u = .int .i64 ((n : Int) - 1) := by rw [← hu];congr 1;omega
    subst hu1
    have a4 := hB1.cell 4
    have b4 := hB1.frozen 4
    simp at a4
    have KA := add_any ⟨D,4,none⟩ cnt _ a4 b4
    have hB2 := hB1.set 4 (.int .i64 (wrap64 (cnt + 1)))
    simp at hB2
    have hC2 : Blk _ C _ 115 := (Below.heap_setCell (w.setCell ⟨C,0,none⟩ (.int .i64 ((n : Int) - 1))) ⟨D,4,none⟩ (.int .i64 (wrap64 (cnt + 1))) C hCD).trans hCB1
    have hKLT2 := hKLT.1.grown hKLT.2 (grown_set _ D 4 (.int .i64 (wrap64 (cnt + 1)))) (fun x hx => by cases hx;exact ⟨_,_,_,hB1,by decide⟩)
    have hF2 := hF1.setCell (p := ⟨D,4,none⟩) (.inl h.mem) (.int .i64 (wrap64 (cnt + 1)))
    have hL2 := own_set hL1 hB1 (by decide) 4 (.int .i64 (wrap64 (cnt + 1)))
    have hS2 := own_set hS1 hB1 (by decide) 4 (.int .i64 (wrap64 (cnt + 1)))
    have HFN := Lib.hid (show Dsk ((w.setCell ⟨C,0,none⟩ (.int .i64 ((n : Int) - 1))).setCell ⟨D,4,none⟩ (.int .i64 (wrap64 (cnt + 1)))) X D ⟨d.L,d.S,some (n - 1,keep),false⟩ ∧ Frm X w ((w.setCell ⟨C,0,none⟩ (.int .i64 ((n : Int) - 1))).setCell ⟨D,4,none⟩ (.int .i64 (wrap64 (cnt + 1)))) from
     ⟨⟨⟨gL,cL,vS,_,_,by simpa [ho] using hB2,hL2,hS2,⟨by omega,by omega,k1,C,A,c,rfl,hCX,by
      have : ((n - 1 : Nat) : Int) = (n : Int) - 1 := by omega
      rw [this];simpa using hC2,hKLT2.1,hKLT2.2,hKX⟩,hgX,hvX⟩,⟨h.good.lasts,h.good.wrote,h.good.small⟩,h.mem,fun x hx => by simpa using hlt1 x hx⟩,hF2⟩)
    have n1' : (1 : Int) ≤ (n : Int) := by omega
    have n2' : (n : Int) ≤ 9223372036854775807 := by omega
    have hne : ¬ ((n : Int) - 1 = 0) := by omega
    have hnb : ((n : Int) - 1 == 0) = false := by simpa using hne
    clear h hB hL hSr hgX hvX f4 x4 hc hCB hKL hKT hKX hB1 hCB1 hL1 hS1 hKLT hF1 hlt1 hu hCX a4 b4 hB2 hC2 hKLT2 hF2 hL2 hS2 y1 n1 n2 k1 hn1
    go_enter Tryz.func95,Tryz.ntmps95
    go_wp2_with (go_at_call 121;refine KA.mono ?_;rintro e w1 ⟨⟨v,rfl⟩,rfl⟩)
    go_wp2
    go_ret
    exact ⟨rfl,HFN.out⟩
theorem on_any (X : List Nat) (D : Nat) (d : DS) (w : World) (h : Dsk w X D d) :
  Calls Tryz.prog 32 #[.pointer (some ⟨D,0,none⟩)] w fun e w' => e = .returned (.tuple #[]) ∧ Dsk w' X D ⟨d.L,d.S,none,false⟩ ∧ Frm X w w' := by
 obtain ⟨gL,cL,vS,vC,cnt,hB,hL,hSr,hC,hgX,hvX⟩ := h.blk
 have x2 := hB.cell 2
 have x3 := hB.cell 3
 have f2 := hB.frozen 2
 have f3 := hB.frozen 3
 simp at x2 x3
 have hB1 := (hB.set 3 (.bool false)).set 2 (.pointer none)
 simp at hB1
 have hL1 := own_set (own_set hL hB (by decide) 3 (.bool false)) (hB.set 3 (.bool false)) (by decide) 2 (.pointer none)
 have hS1 := own_set (own_set hSr hB (by decide) 3 (.bool false)) (hB.set 3 (.bool false)) (by decide) 2 (.pointer none)
 have hF := ((Frm.refl X w).setCell (p := ⟨D,3,none⟩) (.inl h.mem) (.bool false)).setCell (p := ⟨D,2,none⟩) (.inl h.mem) (.pointer none)
 have HFN := Lib.hid (show Dsk ((w.setCell ⟨D,3,none⟩ (.bool false)).setCell ⟨D,2,none⟩ (.pointer none)) X D ⟨d.L,d.S,none,false⟩ ∧ Frm X w ((w.setCell ⟨D,3,none⟩ (.bool false)).setCell ⟨D,2,none⟩ (.pointer none)) from
  ⟨⟨⟨gL,cL,vS, .pointer none,cnt,hB1,hL1,hS1,rfl,hgX,hvX⟩,⟨h.good.lasts,h.good.wrote,h.good.small⟩,h.mem,fun x hx => by simpa using h.lt x hx⟩,hF⟩)
 clear h hB hL hSr hC hgX hvX hB1 hL1 hS1 hF
 go_enter Tryz.func32,Tryz.ntmps32
 go_wp2
 go_end0
 exact ⟨rfl,HFN.out⟩
theorem crash_any (X : List Nat) (D : Nat) (d : DS) (A : Option Addr) (cap : Nat) (keep : List Int) (w : World) (h : Dsk w X D d) (hl : Lies w A (icells keep)) (ht : Typed w A 3) (hk : keep.length ≤ 9223372036854775807) :
  Calls Tryz.prog 28 #[.pointer (some ⟨D,0,none⟩), .slice A keep.length cap] w fun e w' => e = .returned (.tuple #[]) ∧ Dsk w' X D ⟨(d.fail keep).L,[],none,false⟩ ∧ Frm X w w' := by
 have KF := fail_any X D d A cap keep w h hl ht hk
 clear h hl ht hk
 go_enter Tryz.func28,Tryz.ntmps28
 go_upto_region 2 with (go_at_call 63;refine KF.mono ?_;rintro e w1 ⟨rfl,hD,hF⟩)
 obtain ⟨gL,cL,vS,vC,cnt,hB,hL,hSr,hC,hgX,hvX⟩ := hD.blk
 have x3 := hB.cell 3
 have f3 := hB.frozen 3
 simp at x3
 have hB1 := hB.set 3 (.bool false)
 simp at hB1
 have HFN := Lib.hid (show Dsk (w1.setCell ⟨D,3,none⟩ (.bool false)) X D ⟨(d.fail keep).L,[],none,false⟩ ∧ Frm X w (w1.setCell ⟨D,3,none⟩ (.bool false)) from
  ⟨⟨⟨gL,cL,vS,vC,cnt,hB1,own_set hL hB (by decide) 3 (.bool false),own_set hSr hB (by decide) 3 (.bool false),hC,hgX,hvX⟩,⟨hD.good.lasts,hD.good.wrote,hD.good.small⟩,hD.mem,fun x hx => by simpa using hD.lt x hx⟩,
   (hF.trans (Frm.refl X w1) (fun y hy => .inl hy)).setCell (p := ⟨D,3,none⟩) (.inl hD.mem) (.bool false)⟩)
 clear KF hB hL hSr hC hgX hvX hB1 hD hF
 go_wp2
 go_end0
 exact ⟨rfl,HFN.out⟩
open Go.RowKit
theorem read_out (X : List Nat) (D : Nat) (d : DS) (i : Int) (w : World) (h : Dsk w X D d) (hi : ¬ (0 ≤ i ∧ i < d.L.length)) :
  Calls Tryz.prog 33 #[.pointer (some ⟨D,0,none⟩), .int .i64 i] w fun e w' => e = .returned (.tuple #[.string ⟨#[]⟩, .int .i64 1]) ∧ w' = w := by
 have K := has_any X D d i w h
 rw [decide_eq_false hi] at K
 clear h hi
 go_enter Tryz.func33,Tryz.ntmps33
 go_wp2_with (go_at_call 71;refine K.mono ?_;rintro e w1 ⟨rfl,rfl⟩)
 go_wp2
 go_ret2
 exact ⟨rfl,rfl⟩
theorem full_length (d : Bs) (h : d.length ≤ 512) : (fullB d).length = 512 := by unfold fullB;rw [List.length_append,List.length_replicate];omega
theorem info141 : (Tryz.prog.info? 141).map (fun i => (i.zero,i.size,i.bytes)) = some (some (.agg #[.int .i64 0, .string ⟨#[]⟩]),2,24) := by kernel_rfl
theorem step_num (d : DS) : d.step.1 = 0 ∨ d.step.1 = 7 := by
 unfold DS.step
 split
 ·exact .inr rfl
 ·split
  ·exact .inl rfl
  ·split
   ·exact .inr rfl
   ·exact .inl rfl
theorem step_len (d : DS) : d.step.2.L.length = d.L.length := by
 unfold DS.step
 split
 ·rfl
 ·split
  ·rfl
  ·split
   ·exact overK_length _ _ _ _
   ·rfl
theorem step_S (d : DS) (h : d.step.1 = 0) : d.step.2.S = d.S ∧ d.step.2.L = d.L ∧ d.step.2.off = false ∧ d.off = false := by
 unfold DS.step at h ⊢
 cases ho : d.off with
 | true => rw [ho] at h;simp at h
 | false =>
  rw [ho] at h
  simp only [Bool.false_eq_true,if_false] at h ⊢
  split at h
  ·exact ⟨rfl,rfl,ho,trivial⟩
  ·split at h
   ·cases h
   ·rename_i hn;simp [hn]
theorem CutAt.mono {w : World} {X Y : List Nat} {v : Value} {o : Option (Nat × List Int)} (h : CutAt w X v o) (hXY : ∀ x ∈ X,x ∈ Y) : CutAt w Y v o := by
 cases o with
 | none => exact h
 | some p =>
  obtain ⟨n,keep⟩ := p
  obtain ⟨h1,h2,h3,C,A,c,h4,h5,h6,h7,h8,h9⟩ := h
  exact ⟨h1,h2,h3,C,A,c,h4,hXY _ h5,h6,h7,h8,fun a ha => hXY _ (h9 a ha)⟩
theorem CutAt.below {w w' : World} {X : List Nat} {v : Value} {o : Option (Nat × List Int)} (h : CutAt w X v o) (hb : Below w.heap.size w w') : CutAt w' X v o := h.frm (Frm.of_below [] hb) (fun _ _ => by simp)
set_option maxRecDepth 100000 in
set_option maxHeartbeats 1000000 in
theorem write_any (XB : List Nat) (D : Nat) (ds : DS) (i : Nat) (d : Bs) (w : World) (h : Dsk w XB D ds) (hi : i < ds.L.length) (hd : d.length ≤ 512) (hS : ds.S.length ≤ 1000000) :
  Calls Tryz.prog 56 #[.pointer (some ⟨D,0,none⟩), .int .i64 i, .string (mk d)] w fun e w' => e = .returned (.int .i64 ((ds.write i d).1 : Nat)) ∧ ∃ X',Dsk w' X' D (ds.write i d).2 ∧ Mv XB X' w w' := by
 have K := has_any XB D ds i w h
 rw [show decide (0 ≤ (i : Int) ∧ (i : Int) < ds.L.length) = true by simp;omega] at K
 have KS := step_any XB D ds w h
 have KF := fun w => full_any d w hd
 rcases step_num ds with hs0 | hs7
 case inr =>
  have hwr : ds.write i d = ds.step := by unfold DS.write;rw [if_neg (by omega)]
  rw [hwr]
  obtain ⟨d7,hd7⟩ : ∃ q,ds.step.2 = q := ⟨_,rfl⟩
  rw [hs7,hd7] at KS
  rw [hs7,hd7]
  have zd : (mk d).size = d.length := mk_size d
  have hdl : ¬ ((512 : Int) < (d.length : Int)) := by omega
  obtain ⟨n,hn⟩ : ∃ n,d.length = n := ⟨_,rfl⟩
  obtain ⟨ii,hii⟩ : ∃ ii : Int,(i : Int) = ii := ⟨_,rfl⟩
  obtain ⟨X,hX⟩ : ∃ X,mk d = X := ⟨_,rfl⟩
  rw [hX,hn] at zd
  rw [hX]
  rw [hn] at hdl
  rw [hii] at K ⊢
  clear h hs7 hd7 hwr hX hii hn hi hd hS KF
  go_enter Tryz.func56,Tryz.ntmps56
  go_wp2_with (first
   | (go_at_call 71;refine K.mono ?_;rintro e w1 ⟨rfl,hw⟩;obtain rfl := hw.symm)
   | (go_at_call 95;refine KS.mono ?_;rintro e w2 ⟨rfl,hD2,hF2⟩))
  go_wp2
  go_ret
  exact ⟨rfl,XB,hD2, .of_frm hF2⟩
 have hwr : ds.write i d = (0,⟨ds.step.2.L,ds.step.2.S ++ [(i,fullB d)],ds.step.2.cut,ds.step.2.off⟩) := by unfold DS.write;rw [if_pos hs0]
 have hln := step_len ds
 have hSe := (step_S ds hs0).1
 rw [hwr]
 rw [← hSe] at hS
 rw [← hln] at hi
 obtain ⟨d1,hd1⟩ : ∃ q,ds.step.2 = q := ⟨_,rfl⟩
 rw [hs0,hd1] at KS
 rw [hd1] at hS hi
 rw [hd1]
 clear hs0 hwr hln hSe hd1
 obtain ⟨i141,hi0,hi1,hi2,hi3⟩ := info_parts info141
 have zd : (mk d).size = d.length := mk_size d
 have hdl : ¬ ((512 : Int) < (d.length : Int)) := by omega
 obtain ⟨ii,hii⟩ : ∃ ii : Int,(i : Int) = ii := ⟨_,rfl⟩
 obtain ⟨X,hX⟩ : ∃ X,mk d = X := ⟨_,rfl⟩
 obtain ⟨R,hR⟩ : ∃ X,mk (fullB d) = X := ⟨_,rfl⟩
 rw [hX] at zd
 rw [hX,hR] at KF
 rw [hX]
 have HR := Lib.hid hR
 obtain ⟨m,hm⟩ : ∃ m,d1.S.length = m := ⟨_,rfl⟩
 rw [hm] at hS
 have HM := Lib.hid hm
 rw [hii] at K ⊢
 have HII := Lib.hid hii
 clear h hX hR hm hii
 go_enter Tryz.func56,Tryz.ntmps56
 go_upto_region 6 with (first
  | (go_at_call 71;refine K.mono ?_;rintro e w1 ⟨rfl,hw⟩;obtain rfl := hw.symm)
  | (go_at_call 95;refine KS.mono ?_;rintro e w2 ⟨rfl,hD2,hF2⟩))
 obtain ⟨gL,cL,vS,vC,cnt,hB,hL,hvS,hC,hgX,hvX⟩ := hD2.blk
 obtain ⟨n,hn⟩ : ∃ n,d1.L.length = n := ⟨_,rfl⟩
 rw [hn] at hB hL
 obtain ⟨off,hoff⟩ : ∃ n,d1.off = n := ⟨_,rfl⟩
 rw [hoff] at hB
 have HN := Lib.hid (And.intro hn hoff)
 clear hn hoff
 obtain ⟨W0,hW0⟩ : ∃ u,w2.drew = u := ⟨_,rfl⟩
 have hB0 : Blk W0 D #[.slice (some ⟨gL,0,none⟩) n cL,vS,vC, .bool off, .int .i64 cnt] 123 := by rw [← hW0];exact hB
 have hL0 : W0.ownsRow 0 9 1 (.slice (some ⟨gL,0,none⟩) n cL) n (txc d1.L) := by rw [← hW0];exact hL
 have hS0 : W0.ownsRow 0 141 2 vS m (scells d1.S) := by rw [← hW0, ← HM.out];exact hvS
 have hC0 : CutAt W0 XB vC d1.cut := by rw [← hW0];exact hC
 have hF0 : Frm XB w W0 := by rw [← hW0];exact hF2.drew
 have hz0 : w2.heap.size ≤ W0.heap.size := by rw [← hW0];exact Nat.le_refl _
 have HGX := Lib.hid (And.intro hgX hvX)
 clear hC hgX hvX
 have HD := Lib.hid hD2
 clear hD2 hF2 hB hL hvS K KS
 have mixed := mixedT
 refine wp_region_S 13 (fun _ => True) (fun w' => w'.cell? ⟨D,1,none⟩ = some vS) mixed ?_
 change wpAnyS _ _ _ _ _ _ _ _ _ _ w2.drew
 rw [hW0]
 clear hW0
 have x0 := hB0.cell 1
 simp at x0
 have HE0 : ∀ L : Array Bool,HeldS 13 (fun _ => True) (fun w' => w'.cell? ⟨D,1,none⟩ = some vS) L W0 := fun L => ⟨trivial,fun _ => x0⟩
 refine tkS 0 (.pointer (some ⟨D,0,none⟩)) rfl (HE0 _) (fun w' hS => ?_) ?_
 ·clear hS;go_simp
 try go_simp
 refine tkS 1 (.pointer (some ⟨D,0,none⟩)) rfl (HE0 _) (fun w' hS => ?_) ?_
 ·clear hS;go_simp
 try go_simp
 refine tkS 2 (.pointer (some ⟨D,0,none⟩)) rfl (HE0 _) (fun w' hS => ?_) ?_
 ·clear hS;go_simp
 try go_simp
 refine tkS 3 (.pointer (some ⟨D,1,none⟩)) rfl (HE0 _) (fun w' hS => ?_) ?_
 ·clear hS;go_simp
 try go_simp
 refine wpAnyS_take2 (i := 4) (v := vS) rfl (by decide) rfl (by kernel_rfl) (by kernel_rfl) (by kernel_rfl) (by kernel_rfl) (by kernel_rfl) (fun c a w h => h) (.inl ⟨by kernel_rfl,fun w' hS => ?_⟩) (HE0 _) ?_
 ·have hS0 := hS.2;go_simp
 try go_simp
 refine tkS 5 (.int .i64 ii) rfl (HE0 _) (fun w' hS => ?_) ?_
 ·clear hS;go_simp
 try go_simp
 refine tkS 6 (.string X) rfl (HE0 _) (fun w' hS => ?_) ?_
 ·clear hS;go_simp
 try go_simp
 refine alS 7 ?_
 unfold wpOp
 go_simp
 refine .inl ?_
 go_at_call 72
 refine (KF _).mono ?_
 rintro e W1 ⟨rfl,hb1⟩
 have hB1 := hB0.below hb1
 have hL1 := own_below hL0 hb1
 have hS1 := own_below hS0 hb1
 have hF1 := hF0.trans (Frm.of_below [] hb1) (by simp)
 have hC1 := hC0.below hb1
 have x1 := hB1.cell 1
 simp at x1
 have HE1 : ∀ L : Array Bool,HeldS 13 (fun _ => True) (fun w' => w'.cell? ⟨D,1,none⟩ = some vS) L W1 := fun L => ⟨trivial,fun _ => x1⟩
 refine ⟨HE1 _, ?_⟩
 try go_simp
 refine tkS 8 (.agg #[.int .i64 ii, .string R]) rfl (HE1 _) (fun w' hS => ?_) ?_
 ·clear hS;go_simp
 try go_simp
 refine alS 9 ?_
 unfold wpOp
 go_simp
 have hN := World.news_of_block (cs := #[.int .i64 ii, .string R]) (heap_alloc_new W1 (.cells #[.int .i64 ii, .string R] 141))
 have hB2 := hB1.alloc (.cells #[.int .i64 ii, .string R] 141)
 have hL2 := World.ownsRow.alloc hL1 (.cells #[.int .i64 ii, .string R] 141)
 have hS2 := World.ownsRow.alloc hS1 (.cells #[.int .i64 ii, .string R] 141)
 have hF2 := hF1.alloc (.cells #[.int .i64 ii, .string R] 141)
 have hC2 := hC1.alloc (.cells #[.int .i64 ii, .string R] 141)
 obtain ⟨Z,hZ⟩ : ∃ Z,W1.heap.size = Z := ⟨_,rfl⟩
 obtain ⟨W2,hW2⟩ : ∃ u,W1.alloc (.cells #[.int .i64 ii, .string R] 141) = u := ⟨_,rfl⟩
 rw [hZ] at hN
 rw [hW2] at hN hB2 hL2 hS2 hF2 hC2
 try rw [hZ]
 rw [hW2]
 have hz2 : W1.heap.size ≤ W2.heap.size := by rw [← hW2];simp
 clear hW2 hZ
 have x2 := hB2.cell 1
 simp at x2
 have HE2 : ∀ L : Array Bool,HeldS 13 (fun _ => True) (fun w' => w'.cell? ⟨D,1,none⟩ = some vS) L W2 := fun L => ⟨trivial,fun _ => x2⟩
 first | refine .inl ⟨HE2 _, ?_⟩ | refine ⟨HE2 _, ?_⟩
 refine alS 10 ?_
 refine wpOp_of rfl rfl (wp_append_lies (P := Tryz.prog) W2 (.tmp 26) (.tmp 31) 116 rfl 0 141 i141 _ 2 24 Tryz.underlying116 hi0 hi1 hi2 hi3 (by rfl) (by decide) vS m (scells d1.S) (by rfl) hS2 ⟨Z,0,none⟩ 1 1 [.int .i64 ii, .string R] (by rfl) (by rfl) hN (by simp [Value.oneCell']) (by omega) (by unfold maxLen;omega) (by omega) (Nat.zero_le _) W2.heap.size rfl ?_)
 intro g3 c3 W3 hS3 hg3 hat3 _
 have hne := own_ne_blk hS2 hB2 (by decide)
 have hB3 := hB2.grown hg3 hne
 have hL3 := hL2.kept hg3 (row_ne_row hL2 hS2 (by decide))
 have hF3 := hF2.grown hg3 (fun k hk => .inl (HGX.out.2 k hk))
 have hC3 := hC2.grown hg3 (fun g hg => by
  obtain ⟨c,fr,hc⟩ := row_kind hS2 g hg
  exact ⟨c,141,fr,hc,by decide,by decide⟩)
 have x3 := hB3.cell 1
 have f3 := hB3.frozen 1
 simp at x3
 have HE3 : ∀ L : Array Bool,HeldS 13 (fun _ => True) (fun w' => w'.cell? ⟨D,1,none⟩ = some vS) L W3 := fun L => ⟨trivial,fun _ => x3⟩
 refine ⟨HE3 _, ?_⟩
 try go_simp
 refine tkS 11 (.pointer (some ⟨D,0,none⟩)) rfl (HE3 _) (fun w' hS => ?_) ?_
 ·clear hS;go_simp
 try go_simp
 refine tkS 12 (.pointer (some ⟨D,1,none⟩)) rfl (HE3 _) (fun w' hS => ?_) ?_
 ·clear hS;go_simp
 try go_simp
 refine alS 13 ?_
 unfold wpOp
 go_simp
 have HE4 : ∀ L : Array Bool,L.getD 13 false = true → HeldS 13 (fun _ => True) (fun w' => w'.cell? ⟨D,1,none⟩ = some vS) L (W3.setCell ⟨D,1,none⟩ (.slice (some ⟨g3,0,none⟩) (m + 1) c3)) := fun L hL => ⟨trivial,fun e => by rw [hL] at e;cases e⟩
 first | refine .inl ⟨HE4 _ (by kernel_rfl), ?_⟩ | refine ⟨HE4 _ (by kernel_rfl), ?_⟩
 refine wpAnyS_done (by kernel_rfl) ?_ _
 have hB4 := hB3.set 1 (.slice (some ⟨g3,0,none⟩) (m + 1) c3)
 simp at hB4
 have hL4 := own_set hL3 hB3 (by decide) 1 (.slice (some ⟨g3,0,none⟩) (m + 1) c3)
 have hS4 := own_set hS3 hB3 (by decide) 1 (.slice (some ⟨g3,0,none⟩) (m + 1) c3)
 have hF4 := hF3.setCell (p := ⟨D,1,none⟩) (.inl HD.out.mem) (.slice (some ⟨g3,0,none⟩) (m + 1) c3)
 have hC4 := hC3.set hB3 (by decide) (by decide) 1 (.slice (some ⟨g3,0,none⟩) (m + 1) c3)
 have hs2 := hF2.size
 have hg3l := (hS4.lt g3 rfl).2
 have HFIN := Lib.hid (show ∃ X',Dsk (W3.setCell ⟨D,1,none⟩ (.slice (some ⟨g3,0,none⟩) (m + 1) c3)) X' D ⟨d1.L,d1.S ++ [(i,fullB d)],d1.cut,d1.off⟩ ∧ Mv XB X' w (W3.setCell ⟨D,1,none⟩ (.slice (some ⟨g3,0,none⟩) (m + 1) c3)) from by
  refine ⟨g3 :: XB,⟨⟨gL,cL, .slice (some ⟨g3,0,none⟩) (m + 1) c3,vC,cnt, ?_, ?_, ?_,hC4.mono (fun x hx => List.mem_cons_of_mem _ hx),List.mem_cons_of_mem _ HGX.out.1,fun g hg => ?_⟩,⟨HD.out.good.lasts,fun x hx => ?_,HD.out.good.small⟩,List.mem_cons_of_mem _ HD.out.mem,fun x hx => ?_⟩,hF4,fun x hx => ?_⟩
  ·simp only [HN.out.1,HN.out.2];exact hB4
  ·simp only [HN.out.1];exact hL4
  ·rw [scells_snoc,List.length_append,HM.out]
   simp only [HII.out,HR.out]
   exact hS4
  ·simp only [Value.ownBlock,Option.some.injEq] at hg
   subst hg
   exact List.mem_cons_self ..
  ·rcases List.mem_append.1 hx with hx | hx
   ·exact HD.out.good.wrote x hx
   ·rw [List.mem_singleton] at hx
    subst hx
    exact ⟨hi,full_length d hd⟩
  ·rcases List.mem_cons.1 hx with rfl | hx
   ·exact hg3l
   ·exact Nat.lt_of_lt_of_le (HD.out.lt x hx) (by have := hb1.size;have := hg3.size;simp;omega)
  ·rcases List.mem_cons.1 hx with rfl | hx
   ·rcases hat3 with e | e
    ·exact .inl (HGX.out.2 _ e)
    ·exact .inr (by omega)
   ·exact .inl hx)
 clear hB0 hB1 hB2 hB3 hB4 hL0 hL1 hL2 hL3 hL4 hS0 hS1 hS2 hS3 hS4 hF0 hF1 hF2 hF3 hF4 hC0 hC1 hC2 hC3 hC4 HE0 HE1 HE2 HE3 HE4 x0 x1 x2 x3 f3 hat3 hne hg3 hN KF
 go_wp2
 go_ret
 exact ⟨rfl,HFIN.out⟩
open Go.RowKit
theorem over_take (L : List Bs) (S : List (Nat × Bs)) (k : Nat) (h : k < S.length) : overlay L (S.take (k + 1)) = (overlay L (S.take k)).set S[k].1 S[k].2 := by
 rw [List.take_succ_eq_append_getElem h,overlay_snoc]
theorem over_good (n : Nat) (S : List (Nat × Bs)) : ∀ L,(∀ x ∈ L,x.length = 512) → (∀ x ∈ S,x.1 < n ∧ x.2.length = 512) → ∀ x ∈ overlay L S,x.length = 512 := by
 induction S with
 | nil => intro L h _;exact h
 | cons y S ih =>
  intro L h hS
  unfold overlay at ih ⊢
  rw [List.foldl_cons]
  refine ih _ (fun x hx => ?_) (fun z hz => hS z (List.mem_cons_of_mem _ hz))
  rcases List.mem_or_eq_of_mem_set hx with hx | rfl
  ·exact h x hx
  ·exact (hS y (List.mem_cons_self ..)).2
set_option maxRecDepth 100000 in
set_option maxHeartbeats 2000000 in
theorem sync_any (XB : List Nat) (D : Nat) (ds : DS) (w : World) (h : Dsk w XB D ds) :
  Calls Tryz.prog 57 #[.pointer (some ⟨D,0,none⟩)] w fun e w' => e = .returned (.int .i64 (ds.sync.1 : Nat)) ∧ Dsk w' XB D ds.sync.2 ∧ Frm XB w w' := by
 have KS := step_any XB D ds w h
 rcases step_num ds with hs0 | hs7
 case inr =>
  have hwr : ds.sync = ds.step := by unfold DS.sync;rw [if_neg (by omega)]
  rw [hwr]
  obtain ⟨d7,hd7⟩ : ∃ q,ds.step.2 = q := ⟨_,rfl⟩
  rw [hs7,hd7] at KS
  rw [hs7,hd7]
  clear h hs7 hd7 hwr
  go_enter Tryz.func57,Tryz.ntmps57
  go_wp2_with (go_at_call 95;refine KS.mono ?_;rintro e w2 ⟨rfl,hD2,hF2⟩)
  go_wp2
  go_ret
  exact ⟨rfl,hD2,hF2⟩
 have hwr : ds.sync = (0,⟨overlay ds.step.2.L ds.step.2.S,[],ds.step.2.cut,ds.step.2.off⟩) := by unfold DS.sync;rw [if_pos hs0]
 rw [hwr]
 obtain ⟨d1,hd1⟩ : ∃ q,ds.step.2 = q := ⟨_,rfl⟩
 rw [hs0,hd1] at KS
 rw [hd1]
 have HLT := Lib.hid h.lt
 clear hs0 hwr hd1 h
 obtain ⟨L,S,ct,off⟩ := d1
 dsimp only
 go_enter Tryz.func57,Tryz.ntmps57
 have mixed := mixedT
 go_upto_region 6 with (go_at_call 95;refine KS.mono ?_;rintro e w2 ⟨rfl,hD2,hF2⟩)
 obtain ⟨gL,cL,vS,vC,cnt,hB,hL,hSr,hC,hgX,hvX⟩ := hD2.blk
 have HGD := Lib.hid (And.intro hD2.good (And.intro hD2.mem (And.intro hD2.lt (And.intro hgX hvX))))
 dsimp only at hB hL hSr hC
 obtain ⟨n,hn⟩ : ∃ n,L.length = n := ⟨_,rfl⟩
 obtain ⟨m,hm⟩ : ∃ m,S.length = m := ⟨_,rfl⟩
 rw [hn] at hB hL
 rw [hm] at hSr
 obtain ⟨A,c,hvS⟩ : ∃ A c,vS = .slice A m c := row_form hSr
 rw [hvS] at hB hSr
 have hm63 : m ≤ 9223372036854775807 := len63 hSr
 have HLN := Lib.hid hn
 have HM := Lib.hid hm
 have HWR := Lib.hid (show (∀ x ∈ L,x.length = 512) ∧ (∀ x ∈ S,x.1 < n ∧ x.2.length = 512) ∧ n ≤ 4096 by
  have := hD2.good
  exact ⟨this.lasts,fun x hx => by have := this.wrote x hx;dsimp only at this;rwa [hn] at this,by have := this.small;dsimp only at this;rwa [hn] at this⟩)
 have x1 := hB.cell 1
 simp at x1
 have HB := Lib.hid hB
 have HL := Lib.hid hL
 have HSr := Lib.hid hSr
 have HC := Lib.hid hC
 have HF := Lib.hid hF2
 clear hD2 hF2 hB hL hSr KS hC hgX hvX hn hm hvS
 go_wp2
 clear x1
 go_loopw [18] (fun kv wr => ∃ k : Nat,k ≤ m ∧ kv = .int .i64 k ∧ Blk wr D #[.slice (some ⟨gL,0,none⟩) n cL, .slice A m c,vC, .bool off, .int .i64 cnt] 123 ∧ wr.ownsRow 0 9 1 (.slice (some ⟨gL,0,none⟩) n cL) n (txc (overlay L (S.take k))) ∧ wr.ownsRow 0 141 2 (.slice A m c) m (scells S) ∧ CutAt wr XB vC ct ∧ Frm XB w wr) (fun kv _ => m - (intOf kv).toNat)
 case atStart => exact ⟨0,by omega,rfl,HB.out,by simpa [overlay] using HL.out,HSr.out,HC.out,HF.out⟩
 case round =>
  obtain ⟨k,hk,rfl,hB,hL,hSr,hC,hF⟩ := hrel
  by_cases hkm : k < m
  ·have hkl : k < S.length := by have := HM.out;omega
   obtain ⟨g,c',hA,s0,s1⟩ := since_at hSr HM.out k hkl
   injection hA with hA1 _ hA3
   subst hA1 hA3
   obtain ⟨hq,_⟩ := HWR.out.2.1 _ (List.getElem_mem hkl)
   have HOT := Lib.hid (over_take L S k hkl)
   obtain ⟨z,hz⟩ : ∃ z,S[k].1 = z := ⟨_,rfl⟩
   obtain ⟨X,hX⟩ : ∃ X,mk S[k].2 = X := ⟨_,rfl⟩
   rw [hz] at s0 hq
   rw [hX] at s1
   have HZX := Lib.hid (And.intro hz hX)
   clear hz hX
   have HB := Lib.hid hB
   have HL := Lib.hid hL
   have HSr := Lib.hid hSr
   have HF := Lib.hid hF
   have HC := Lib.hid hC
   have k0 : (0 : Int) ≤ (k : Int) := by omega
   have k1 : (k : Int) < (m : Int) := by omega
   have z0 : (0 : Int) ≤ (z : Int) := by omega
   have z1 : (z : Int) < (n : Int) := by omega
   clear hB hL hSr hF hC
   go_wp2
   have hB1 := HB.out.alloc (.cells #[.int .i64 z, .string X] 141)
   have hL1 := World.ownsRow.alloc HL.out (.cells #[.int .i64 z, .string X] 141)
   have hS1 := World.ownsRow.alloc HSr.out (.cells #[.int .i64 z, .string X] 141)
   have hF1 := (HF.out.alloc (.cells #[.int .i64 z, .string X] 141)).drew
   have hC1 := (HC.out.alloc (.cells #[.int .i64 z, .string X] 141)).drew
   have hZ1 := Blk.new wr #[.int .i64 z, .string X] 141
   obtain ⟨Z,hZ⟩ : ∃ Z,wr.heap.size = Z := ⟨_,rfl⟩
   rw [hZ] at hZ1
   simp only [hZ]
   clear hZ
   refine wp_region_held (S := fun w' => Blk w' D #[.slice (some ⟨gL,0,none⟩) n cL, .slice (some ⟨g,0,none⟩) m c,vC, .bool off, .int .i64 cnt] 123 ∧ Blk w' Z #[.int .i64 z, .string X] 141) mixed ?_
   change wpAnyH _ _ _ _ _ _ _ _ (wr.alloc (.cells #[.int .i64 z, .string X] 141)).drew
   have hB2 : Blk (wr.alloc (.cells #[.int .i64 z, .string X] 141)).drew D #[.slice (some ⟨gL,0,none⟩) n cL, .slice (some ⟨g,0,none⟩) m c,vC, .bool off, .int .i64 cnt] 123 := hB1
   have hL2 : (wr.alloc (.cells #[.int .i64 z, .string X] 141)).drew.ownsRow 0 9 1 (.slice (some ⟨gL,0,none⟩) n cL) n (txc (overlay L (S.take k))) := hL1
   have hS2 : (wr.alloc (.cells #[.int .i64 z, .string X] 141)).drew.ownsRow 0 141 2 (.slice (some ⟨g,0,none⟩) m c) m (scells S) := hS1
   have hZ2 : Blk (wr.alloc (.cells #[.int .i64 z, .string X] 141)).drew Z #[.int .i64 z, .string X] 141 := hZ1
   obtain ⟨W,hW⟩ : ∃ u,(wr.alloc (.cells #[.int .i64 z, .string X] 141)).drew = u := ⟨_,rfl⟩
   rw [hW] at hB2 hL2 hS2 hZ2 hF1 hC1 ⊢
   clear hW hB1 hL1 hS1 hZ1 s0 s1
   have hS0 := And.intro hB2 hZ2
   refine tkQ 0 (.pointer (some ⟨D,0,none⟩)) rfl hS0 ?_
   try go_simp
   refine tkQ 1 (.pointer (some ⟨D,0,none⟩)) rfl hS0 ?_
   try go_simp
   refine tkQ 2 (.pointer (some ⟨D,0,none⟩)) rfl hS0 ?_
   try go_simp
   refine tkH 3 (.slice (some ⟨gL,0,none⟩) n cL) rfl hS0 (fun w' hS => ?_) ?_
   ·have q0 := hS.1.cell 0;simp at q0;go_simp
   try go_simp
   refine tkQ 4 (.pointer (some ⟨Z,0,none⟩)) rfl hS0 ?_
   try go_simp
   refine tkH 5 (.int .i64 z) rfl hS0 (fun w' hS => ?_) ?_
   ·have q0 := hS.2.cell 0;simp at q0;go_simp
   try go_simp
   refine tkQ 6 (.pointer (some ⟨Z,1,none⟩)) rfl hS0 ?_
   try go_simp
   refine tkH 7 (.string X) rfl hS0 (fun w' hS => ?_) ?_
   ·have q0 := hS.2.cell 1;simp at q0;go_simp
   try go_simp
   refine tkQ 8 (.pointer (some ⟨gL,z,none⟩)) rfl hS0 ?_
   try go_simp
   refine alH 9 ?_
   have hz63 : z < n := by omega
   have r0 := hL2.cellAt z (by omega)
   have f0 := hL2.frozenAt z
   rw [txc_at _ z (by rw [overlay_length,HLN.out];exact hz63)] at r0
   unfold wpOp
   go_simp
   have hne : gL ≠ D := fun e => own_ne_blk hL2 hB2 (by decide) (by rw [e];rfl)
   have hneZ : gL ≠ Z := fun e => own_ne_blk hL2 hZ2 (by decide) (by rw [e];rfl)
   have hgr := grown_set W gL z (.string X)
   have hB3 := hB2.grown hgr (by simpa using hne)
   have hZ3 := hZ2.grown hgr (by simpa using hneZ)
   have hL3 := (World.ownsRow.stored hL2 z (.string X)).1
   have hS3 := hS2.kept hgr (by
    rcases row_ne_row hS2 hL2 (by decide) with e | e
    ·exact .inl e
    ·exact .inr e)
   have hF3 := hF1.setCell (p := ⟨gL,z,none⟩) (.inl HGD.out.2.2.2.1) (.string X)
   have hC3 := (by
    obtain ⟨cs,fr,hc⟩ := row_blk hL2
    exact hC1.set hc (by decide) (by decide) z (.string X) : CutAt (W.setCell ⟨gL,z,none⟩ (.string X)) XB vC ct)
   have hL4 : (W.setCell ⟨gL,z,none⟩ (.string X)).ownsRow 0 9 1 (.slice (some ⟨gL,0,none⟩) n cL) n (txc (overlay L (S.take (k + 1)))) := by
    rw [HOT.out,txc_set,HZX.out.1,HZX.out.2];exact hL3
   have HFN := Lib.hid (And.intro hB3 (And.intro hL4 (And.intro hS3 (And.intro hC3 hF3))))
   first | refine .inl ⟨⟨hB3,hZ3⟩, ?_⟩ | refine ⟨⟨hB3,hZ3⟩, ?_⟩
   refine wpAnyH_done (by kernel_rfl) ?_ _
   clear hB2 hL2 hS2 hZ2 hF1 hC1 hS0 r0 f0 hne hneZ hgr hB3 hZ3 hL3 hS3 hF3 hC3 hL4
   go_wp2
   go_roundw
   case rel => exact ⟨k + 1,by omega,by go_num,HFN.out⟩
   case measure => simp [intOf];omega
  ·obtain rfl : k = m := by omega
   have x1 := hB.cell 1
   have f1 := hB.frozen 1
   simp at x1
   have hB1 := hB.set 1 (.slice none 0 0)
   simp at hB1
   have hL1 := own_set hL hB (by decide) 1 (.slice none 0 0)
   have hF1 := hF.setCell (p := ⟨D,1,none⟩) (.inl HGD.out.2.1) (.slice none 0 0)
   have hC1 := hC.set hB (by decide) (by decide) 1 (.slice none 0 0)
   rw [List.take_of_length_le (by rw [HM.out];exact Nat.le_refl _)] at hL1
   have hon : (overlay L S).length = n := by rw [overlay_length,HLN.out]
   have HFN := Lib.hid (show Dsk (wr.setCell ⟨D,1,none⟩ (.slice none 0 0)) XB D ⟨overlay L S,[],ct,off⟩ ∧ Frm XB w (wr.setCell ⟨D,1,none⟩ (.slice none 0 0)) from
    ⟨⟨⟨gL,cL, .slice none 0 0,vC,cnt,by simp only [hon];exact hB1,by simp only [hon];exact hL1,World.ownsRow_nil _ _ _ _,hC1,HGD.out.2.2.2.1,fun g e => (by cases e)⟩,
     ⟨over_good n S L HWR.out.1 HWR.out.2.1,fun x hx => (by cases hx),by simp only [hon];exact HWR.out.2.2⟩,HGD.out.2.1,fun x hx => Nat.lt_of_lt_of_le (HLT.out x hx) hF1.size⟩,hF1⟩)
   clear hB hL hSr hF hB1 hL1 hF1 hC hC1 hon
   go_wp2
   go_ret
   exact ⟨rfl,HFN.out⟩
open Go.RowKit
def sumB (c : Int) : Bs := (List.range 4).map fun i => UInt8.ofNat (c.toNat / 256 ^ i)
def listB (x : List (Nat × Bs)) : Bs := x.flatMap fun c => twoB c.1
def imgB (x : List (Nat × Bs)) : Bs := x.flatMap fun c => fullB c.2
def sayB (x : List (Nat × Bs)) : Bs := [87,76,UInt8.ofNat x.length] ++ listB x
def headW (x : List (Nat × Bs)) : Bs := sayB x ++ sumB (crcI (sayB x ++ imgB x))
theorem listB_length (x : List (Nat × Bs)) : (listB x).length = x.length * 2 := by
 induction x with
 | nil => rfl
 | cons a x ih => unfold listB at ih ⊢;rw [List.flatMap_cons,List.length_append,ih];simp [twoB];omega
theorem imgB_length (x : List (Nat × Bs)) (h : ∀ c ∈ x,c.2.length ≤ 512) : (imgB x).length = x.length * 512 := by
 induction x with
 | nil => rfl
 | cons a x ih =>
  unfold imgB at ih ⊢
  rw [List.flatMap_cons,List.length_append,ih (fun c hc => h c (List.mem_cons_of_mem _ hc)),full_length _ (h a (List.mem_cons_self ..)),List.length_cons];omega
theorem sayB_length (x : List (Nat × Bs)) : (sayB x).length = 3 + x.length * 2 := by unfold sayB;rw [List.length_append,listB_length];simp
theorem sumB_length (c : Int) : (sumB c).length = 4 := by simp [sumB]
theorem headW_length (x : List (Nat × Bs)) : (headW x).length = 7 + x.length * 2 := by unfold headW;rw [List.length_append,sayB_length,sumB_length];omega
theorem crcI_bd (s : Bs) : 0 ≤ crcI s ∧ crcI s < 4294967296 := by
 unfold crcI bits
 show 0 ≤ IntKind.u32.wrap _ ∧ IntKind.u32.wrap _ < 4294967296
 simp [IntKind.wrap,IntKind.bits,IntKind.signed]
 omega
theorem listB_snoc (x : List (Nat × Bs)) (c : Nat × Bs) : listB (x ++ [c]) = listB x ++ twoB c.1 := by simp [listB]
theorem imgB_snoc (x : List (Nat × Bs)) (c : Nat × Bs) : imgB (x ++ [c]) = imgB x ++ fullB c.2 := by simp [imgB]
theorem conv_one (w : World) (c : UInt8) (v : Int) (hv : v = (c.toNat : Int)) : (convert 62 9 (.slice (some ⟨w.heap.size,0,none⟩) 1 1)).run Tryz.prog (w.alloc (.cells #[.int .u8 v] 5)) = .ok (.string (mk [c])) (w.alloc (.cells #[.int .u8 v] 5)) :=
 conv_blk (l := [c]) (Blk.new w #[.int .u8 v] 5) (fun j hj => by
  have : j = 0 := by simpa using hj
  subst this;simp [hv])
theorem conv_two (w : World) (n : Nat) : (convert 62 9 (.slice (some ⟨w.heap.size,0,none⟩) 2 2)).run Tryz.prog (w.alloc (.cells #[.int .u8 ((n : Int) / 256 % 256), .int .u8 ((n : Int) % 256)] 5)) = .ok (.string (mk (twoB n))) (w.alloc (.cells #[.int .u8 ((n : Int) / 256 % 256), .int .u8 ((n : Int) % 256)] 5)) :=
 conv_blk (l := twoB n) (Blk.new w #[.int .u8 ((n : Int) / 256 % 256), .int .u8 ((n : Int) % 256)] 5) (fun j hj => by
  have h2 : j < 2 := hj
  match j,h2 with
  | 0,_ => simp [twoB]
  | 1,_ => simp [twoB])
set_option maxRecDepth 100000 in
set_option maxHeartbeats 4000000 in
theorem whead_any (A : Option Addr) (cap : Nat) (x : List (Nat × Bs)) (w : World) (hA : Lies w A (scells x)) (hn : x.length ≤ 64) (hx : ∀ c ∈ x,c.1 ≤ 1000000 ∧ c.2.length ≤ 512) (hT : TB w) (hw : 0 < w.heap.size) :
  Calls Tryz.prog 117 #[.slice A x.length cap] w fun e w' => e = .returned (.string (mk (headW x))) ∧ Below w.heap.size w w' := by
 have HIMG := Lib.hid (imgB_length x (fun c hc => (hx c hc).2))
 have HLI := Lib.hid (listB_length x)
 have HSB := Lib.hid (show sayB x = [87,76,UInt8.ofNat x.length] ++ listB x from rfl)
 have HHD := Lib.hid (show headW x = sayB x ++ sumB (crcI (sayB x ++ imgB x)) from rfl)
 obtain ⟨n,hl⟩ : ∃ n,x.length = n := ⟨_,rfl⟩
 rw [hl] at hn HIMG HLI HSB ⊢
 have HL := Lib.hid hA
 have HN := Lib.hid hl
 have HX := Lib.hid hx
 have HT := Lib.hid hT
 have hcv1 := conv_one w (UInt8.ofNat n) (n : Int) (by rw [← byte_int n];omega)
 have hsum1 := run_sum [87,76] [UInt8.ofNat n] (by simp)
 rw [show mk [87,76] = ⟨#[87,76]⟩ from rfl,show ([87,76] ++ [UInt8.ofNat n] : Bs) = [87,76,UInt8.ofNat n] from rfl] at hsum1
 obtain ⟨B1,hB1⟩ : ∃ q,mk [UInt8.ofNat n] = q := ⟨_,rfl⟩
 rw [hB1] at hcv1 hsum1
 obtain ⟨P,hP⟩ : ∃ q : Bs,[87,76,UInt8.ofNat n] = q := ⟨_,rfl⟩
 rw [hP] at hsum1 HSB
 have HPL := Lib.hid (show P.length = 3 by rw [← hP];rfl)
 obtain ⟨P1,hP1⟩ : ∃ q,mk P = q := ⟨_,rfl⟩
 rw [hP1] at hsum1
 have HP1 := Lib.hid hP1
 obtain ⟨R,hR⟩ : ∃ q,mk (headW x) = q := ⟨_,rfl⟩
 rw [hR]
 have HR := Lib.hid hR
 have n0 : (0 : Int) ≤ (n : Int) := by omega
 have n1 : (n : Int) ≤ 64 := by omega
 clear hA hl hx hT hB1 hP hP1 hR
 have mixed := mixedT
 go_enter Tryz.func117,Tryz.ntmps117
 go_wp2
 have HB0 := Lib.hid (below_alloc w (.cells #[.int .u8 (n : Int)] 5))
 clear hcv1 hsum1
 go_loopw [3,19] (fun sv i wr => ∃ k : Nat,k ≤ n ∧ i = .int .i64 k ∧ sv = .string (mk (P ++ listB (x.take k))) ∧ Below w.heap.size w wr) (fun _ i _ => n - (intOf i).toNat)
 case atStart => exact ⟨0,Nat.zero_le _,rfl,by simp [listB,HP1.out],HB0.out⟩
 case round =>
  obtain ⟨k,hk,rfl,rfl,hb⟩ := hrel
  have hsz := hb.size
  by_cases hlt : k < n
  ·have hkl : k < x.length := by rw [HN.out];exact hlt
   obtain ⟨g,off,rfl,hgl,hcs⟩ := HL.out (by rw [scells_length];omega)
   obtain ⟨s0,s1⟩ := scells_at x k hkl
   have d0 := (hb.cell (p := ⟨g,off + k * 2,none⟩) hgl).trans (hcs _ _ s0)
   have d1 := (hb.cell (p := ⟨g,off + (k * 2 + 1),none⟩) hgl).trans (hcs _ _ s1)
   have hq := (HX.out x[k] (List.getElem_mem hkl)).1
   have hsn : P ++ listB (x.take (k + 1)) = (P ++ listB (x.take k)) ++ twoB x[k].1 := by
    rw [List.take_succ_eq_append_getElem hkl,listB_snoc,List.append_assoc]
   have hln : (P ++ listB (x.take k)).length ≤ 1000 := by rw [List.length_append,HPL.out,listB_length,List.length_take];omega
   obtain ⟨z,hz⟩ : ∃ z,x[k].1 = z := ⟨_,rfl⟩
   obtain ⟨Y,hY⟩ : ∃ z,mk x[k].2 = z := ⟨_,rfl⟩
   rw [hz] at d0 hq hsn
   rw [hY, ← Nat.add_assoc] at d1
   have hsum := run_sum (P ++ listB (x.take k)) (twoB z) (by simp [twoB] at hln ⊢;omega)
   rw [← hsn] at hsum
   have hcv := conv_two (wr.alloc (.cells #[.int .i64 z, .string Y] 156)) z
   rw [World.size_alloc] at hcv
   obtain ⟨S0,hS0⟩ : ∃ q,mk (P ++ listB (x.take k)) = q := ⟨_,rfl⟩
   obtain ⟨S1,hS1⟩ : ∃ q,mk (twoB z) = q := ⟨_,rfl⟩
   obtain ⟨S2,hS2⟩ : ∃ q,mk (P ++ listB (x.take (k + 1))) = q := ⟨_,rfl⟩
   rw [hS0,hS1,hS2] at hsum
   rw [hS1] at hcv
   rw [hS0]
   have HS2 := Lib.hid hS2
   have HB := Lib.hid hb
   have k0 : (0 : Int) ≤ (k : Int) := by omega
   have k1 : (k : Int) < (n : Int) := by omega
   have z0 : (0 : Int) ≤ (z : Int) := by omega
   have z1 : (z : Int) ≤ 1000000 := by omega
   clear hb hcs s0 s1 hsn hln hz hY hS0 hS1 hS2 hkl
   go_wp2
   go_roundw
   case rel => exact ⟨k + 1,by omega,by go_num,by rw [HS2.out],(HB.out.alloc hsz _).alloc (by simp;omega) _⟩
   case measure => simp [intOf];omega
  ·obtain rfl : n = k := by omega
   rw [List.take_of_length_le (by rw [HN.out];exact Nat.le_refl _), ← HSB.out]
   have HSL := Lib.hid (show (sayB x).length ≤ 1000 by rw [sayB_length,HN.out];omega)
   have zs : (mk (sayB x)).size = (sayB x).length := mk_size _
   obtain ⟨S,hS⟩ : ∃ q,sayB x = q := ⟨_,rfl⟩
   rw [hS] at HSL zs HHD
   rw [hS]
   obtain ⟨S0,hS0⟩ : ∃ q,mk S = q := ⟨_,rfl⟩
   rw [hS0] at zs
   rw [hS0]
   have HS0 := Lib.hid hS0
   have hb1 := hb.alloc hsz (.cells #[.pointer none, .slice none 0 0] 93)
   have hbu0 := Lib.fresh_isBuilder 93 5 wr
   obtain ⟨Z,hZ⟩ : ∃ Z,wr.heap.size = Z := ⟨_,rfl⟩
   have hz1 : (wr.alloc (.cells #[.pointer none, .slice none 0 0] 93)).heap.size = Z + 1 := by simp [hZ]
   rw [hZ] at hbu0 hsz
   have KW := bwrite_any Z Z [] S0 (wr.alloc (.cells #[.pointer none, .slice none 0 0] 93)) hbu0 (by have := HSL.out;simp;omega) (by omega)
   have HSC := Lib.hid (show Lib.strCells S0 = Lib.byteCells S by rw [← hS0];simp [Lib.strCells,Lib.byteCells,mk_data])
   rw [List.nil_append,HSC.out] at KW
   have HB1 := Lib.hid hb1
   have HZ1 := Lib.hid hz1
   have HZ := Lib.hid hZ
   clear HSB hS hS0 hb hb1 hbu0 hz1
   clear hZ
   go_wp2_with (rw [HZ.out];go_at_call 45;refine KW.mono ?_;rintro e w1 ⟨rfl,hbu1,hb2,_⟩)
   have hb3 := HB1.out.trans (hb2.mono hsz) 
   have HB3 := Lib.hid hb3
   have HBU := Lib.hid hbu1
   clear hbu1 hb2 hb3 KW
   go_loopw [39] (fun i wr2 => ∃ k : Nat,k ≤ n ∧ i = .int .i64 k ∧ Lib.IsBuilder 93 5 Z Z (Lib.byteCells (S ++ imgB (x.take k))) wr2 ∧ Below w.heap.size w wr2) (fun i _ => n - (intOf i).toNat)
   case atStart => exact ⟨0,Nat.zero_le _,rfl, .inr (by simpa [imgB] using HBU.out),HB3.out⟩
   case round =>
    obtain ⟨k,hk,rfl,hbu,hb⟩ := hrel
    have hsz2 := hb.size
    by_cases hlt2 : k < n
    ·have hkl : k < x.length := by rw [HN.out];exact hlt2
     obtain ⟨g,off,rfl,hgl,hcs⟩ := HL.out (by rw [scells_length];omega)
     obtain ⟨s0,s1⟩ := scells_at x k hkl
     have d0 := (hb.cell (p := ⟨g,off + k * 2,none⟩) hgl).trans (hcs _ _ s0)
     have d1 := (hb.cell (p := ⟨g,off + (k * 2 + 1),none⟩) hgl).trans (hcs _ _ s1)
     have hq := (HX.out x[k] (List.getElem_mem hkl)).2
     have hsn : S ++ imgB (x.take (k + 1)) = (S ++ imgB (x.take k)) ++ fullB x[k].2 := by
      rw [List.take_succ_eq_append_getElem hkl,imgB_snoc,List.append_assoc]
     have hln : (S ++ imgB (x.take k)).length ≤ 100000 := by
      have h1 : (imgB (x.take k)).length = k * 512 := by
       rw [imgB_length _ (fun c hc => (HX.out c (List.mem_of_mem_take hc)).2),List.length_take]
       rw [HN.out];omega
      rw [List.length_append,h1];have := HSL.out;omega
     have hfl : (fullB x[k].2).length = 512 := full_length _ hq
     obtain ⟨z,hz⟩ : ∃ z,x[k].1 = z := ⟨_,rfl⟩
     obtain ⟨d,hd⟩ : ∃ z,x[k].2 = z := ⟨_,rfl⟩
     rw [hz] at d0
     rw [hd, ← Nat.add_assoc] at d1
     rw [hd] at hq hsn hfl
     have hsum := run_sum d (List.replicate (512 - d.length) 0) (by simp;omega)
     rw [show d ++ List.replicate (512 - d.length) 0 = fullB d from rfl] at hsum
     have KN := fun w => noughts_any (512 - d.length) (by omega) w
     rw [show ((512 - d.length : Nat) : Int) = 512 - (d.length : Int) by omega] at KN
     obtain ⟨T,hT⟩ : ∃ q,S ++ imgB (x.take k) = q := ⟨_,rfl⟩
     rw [hT] at hbu hsn hln
     have zd : (mk d).size = d.length := mk_size d
     have zf : (mk (fullB d)).size = 512 := by rw [mk_size,hfl]
     obtain ⟨F,hF⟩ : ∃ q,mk (fullB d) = q := ⟨_,rfl⟩
     obtain ⟨N,hN⟩ : ∃ q,mk (List.replicate (512 - d.length) 0) = q := ⟨_,rfl⟩
     obtain ⟨Y,hY⟩ : ∃ q,mk d = q := ⟨_,rfl⟩
     obtain ⟨m,hm⟩ : ∃ q,d.length = q := ⟨_,rfl⟩
     rw [hF,hN,hY] at hsum
     rw [hY,hm] at zd
     rw [hN,hm] at KN
     rw [hY] at d1
     rw [hm] at hq
     rw [hF] at zf
     have KW := fun (w4 : World) (h4 : Below wr.heap.size wr w4) => bwrite_any Z Z (Lib.byteCells T) F w4 (isb_below hbu h4) (by rw [zf];simp [Lib.byteCells];omega) (Nat.le_trans (by rcases hbu with h | h <;> exact Nat.le_of_lt h.lt) h4.size)
     have HFC := Lib.hid (show Lib.byteCells T ++ Lib.strCells F = Lib.byteCells (S ++ imgB (x.take (k + 1))) by
      rw [hsn, ← hF];simp [Lib.byteCells,Lib.strCells,mk_data])
     have HZL := Lib.hid (show Z < wr.heap.size from by rcases hbu with h | h <;> exact h.lt)
     have HB := Lib.hid hb
     have HZF := Lib.hid zf
     have k0 : (0 : Int) ≤ (k : Int) := by omega
     have k1 : (k : Int) < (n : Int) := by omega
     have m0 : (0 : Int) ≤ (m : Int) := by omega
     have m1 : (m : Int) ≤ 512 := by omega
     clear hb hcs s0 s1 hsn hln hz hd hF hN hY hm hT hfl hkl hbu zf
     go_wp2
     have hZ1 := Blk.new wr #[.int .i64 z, .string Y] 156
     have hA1 := below_alloc wr (.cells #[.int .i64 z, .string Y] 156)
     obtain ⟨V,hV⟩ : ∃ V,wr.heap.size = V := ⟨_,rfl⟩
     rw [hV] at hZ1
     simp only [hV]
     have hwrp : IntKind.i64.wrap (512 - (m : Int)) = 512 - (m : Int) := by rw [Go.IntWalk.i64_left,Go.IntWalk.wrap64_in _ (by omega)]
     refine wp_region_held (S := fun w' => Blk w' V #[.int .i64 z, .string Y] 156) mixed ?_
     change wpAnyH _ _ _ _ _ _ _ _ (wr.alloc (.cells #[.int .i64 z, .string Y] 156)).drew
     have hZ2 : Blk (wr.alloc (.cells #[.int .i64 z, .string Y] 156)).drew V _ 156 := hZ1
     have hA2 : Below wr.heap.size wr (wr.alloc (.cells #[.int .i64 z, .string Y] 156)).drew := hA1.drew
     obtain ⟨W,hW⟩ : ∃ u,(wr.alloc (.cells #[.int .i64 z, .string Y] 156)).drew = u := ⟨_,rfl⟩
     rw [hW] at hZ2 hA2 ⊢
     have HV := Lib.hid hV
     clear hW hZ1 hA1 d0 d1 hV
     refine tkQ 0 (.pointer (some ⟨V,1,none⟩)) rfl hZ2 ?_
     try go_simp
     refine tkH 1 (.string Y) rfl hZ2 (fun w' hS => ?_) ?_
     ·have q0 := hS.cell 1;simp at q0;go_simp
     try go_simp
     refine tkQ 2 (.pointer (some ⟨V,1,none⟩)) rfl hZ2 ?_
     try go_simp
     refine tkH 3 (.string Y) rfl hZ2 (fun w' hS => ?_) ?_
     ·have q0 := hS.cell 1;simp at q0;go_simp
     try go_simp
     refine tkQ 4 (.int .i64 (m : Int)) rfl hZ2 ?_
     try go_simp
     refine tkQ 5 (.int .i64 (512 - (m : Int))) rfl hZ2 ?_
     try go_simp
     refine alH 6 ?_
     unfold wpOp
     go_simp
     refine .inl ?_
     go_at_call 103
     refine (KN _).mono ?_
     rintro e W1 ⟨rfl,hb1⟩
     have hZ3 := hZ2.below hb1
     have hA3 := hA2.trans (hb1.mono (by have := hA2.size;omega))
     refine ⟨hZ3, ?_⟩
     try go_simp
     refine tkQ 7 (.string F) rfl hZ3 ?_
     try go_simp
     refine alH 8 ?_
     unfold wpOp
     go_simp
     refine .inl ?_
     go_at_call 45
     refine (KW _ hA3).mono ?_
     rintro e W2 ⟨rfl,hbu2,hb4,hoth⟩
     have hZ4 : Blk W2 V #[.int .i64 z, .string Y] 156 := hoth V _ _ _ (by decide) (by have := HZL.out;have := HV.out;omega) hZ3
     refine ⟨hZ4, ?_⟩
     refine wpAnyH_done (by kernel_rfl) ?_ _
     rw [HFC.out] at hbu2
     have HBU2 := Lib.hid hbu2
     have HBF := Lib.hid (HB.out.trans ((hA3.mono (Nat.le_refl _)).mono hsz2 |>.trans (hb4.mono (by omega))))
     clear hZ2 hA2 hb1 hZ3 hA3 hbu2 hb4 hoth hZ4 KN KW hsum hwrp
     go_wp2
     go_roundw
     case rel => exact ⟨k + 1,by omega,by go_num, .inr HBU2.out,HBF.out⟩
     case measure => simp [intOf];omega
    ·obtain rfl : n = k := by omega
     rw [List.take_of_length_le (by rw [HN.out];exact Nat.le_refl _)] at hbu
     have hzl : Z ≤ wr.heap.size := by rcases hbu with h | h <;> exact Nat.le_of_lt h.lt
     have KS := Tryz.Builder_String_any Z Z (S ++ imgB x) wr hbu hzl
     have KC := fun (w' : World) (hT' : TB w') => sum_any (S ++ imgB x) w' hT' (by rw [List.length_append,HIMG.out];have := HSL.out;omega)
     have hbd := crcI_bd (S ++ imgB x)
     rw [show (⟨(S ++ imgB x).toArray⟩ : ByteArray) = mk (S ++ imgB x) from rfl] at KS
     obtain ⟨C,hC⟩ : ∃ q,crcI (S ++ imgB x) = q := ⟨_,rfl⟩
     rw [hC] at KC hbd HHD
     obtain ⟨U,hU⟩ : ∃ q,mk (S ++ imgB x) = q := ⟨_,rfl⟩
     rw [hU] at KS KC
     have hTw := HT.out.below hw hb
     have HB := Lib.hid hb
     have HTW := Lib.hid hTw
     obtain ⟨hc0,hc1⟩ := hbd
     clear hbu hb hTw hC hU
     go_wp2_with (first
      | (go_at_call 46;refine KS.mono ?_;rintro e w2 ⟨rfl,hb2⟩;have hT2 := HTW.out.below (by omega) hb2;have K2 := KC w2 hT2;have HB2 := Lib.hid (HB.out.trans (hb2.mono (by omega)));clear hb2 hT2)
      | (go_at_call 85;refine K2.mono ?_;rintro e w3 ⟨rfl,hw3⟩;obtain rfl := hw3.symm))
     go_loopw [3,55] (fun sv i wr => ∃ k : Nat,k ≤ 4 ∧ i = .int .i64 k ∧ sv = .string (mk (S ++ (sumB C).take k)) ∧ Below w.heap.size w wr) (fun _ i _ => 4 - (intOf i).toNat)
     case atStart => exact ⟨0,by omega,rfl,by rw [List.take_zero,List.append_nil,HS0.out],HB2.out⟩
     case round =>
      obtain ⟨k,hk,rfl,rfl,hb⟩ := hrel
      obtain ⟨S1,hS1⟩ : ∃ q,mk (S ++ (sumB C).take k) = q := ⟨_,rfl⟩
      rw [hS1]
      have hk4 : k = 0 ∨ k = 1 ∨ k = 2 ∨ k = 3 ∨ k = 4 := by omega
      have HB := Lib.hid hb
      have hln : S.length ≤ 1000 := HSL.out
      rcases hk4 with rfl | rfl | rfl | rfl | rfl
      ·have hcv := conv_one wr (UInt8.ofNat (C.toNat / 256 ^ 0)) (C % 256) (by rw [← byte_int];omega)
       have hst : S ++ (sumB C).take 1 = (S ++ (sumB C).take 0) ++ [UInt8.ofNat (C.toNat / 256 ^ 0)] := by rw [List.append_assoc];rfl
       have hsum := run_sum (S ++ (sumB C).take 0) [UInt8.ofNat (C.toNat / 256 ^ 0)] (by simp;omega)
       rw [← hst,hS1] at hsum
       obtain ⟨S2,hS2⟩ : ∃ q,mk (S ++ (sumB C).take 1) = q := ⟨_,rfl⟩
       obtain ⟨b1,hb1⟩ : ∃ q,mk [UInt8.ofNat (C.toNat / 256 ^ 0)] = q := ⟨_,rfl⟩
       rw [hb1] at hcv hsum
       rw [hS2] at hsum
       have HS2 := Lib.hid hS2
       clear hS1 hS2 hst hb1 hln hb
       go_wp2
       go_roundw
       case rel => exact ⟨1,by omega,rfl,by rw [HS2.out],HB.out.alloc HB.out.size _⟩
       case measure => simp [intOf]
      ·have hcv := conv_one wr (UInt8.ofNat (C.toNat / 256 ^ 1)) (C / 256 % 256) (by rw [← byte_int];omega)
       have hst : S ++ (sumB C).take 2 = (S ++ (sumB C).take 1) ++ [UInt8.ofNat (C.toNat / 256 ^ 1)] := by rw [List.append_assoc];rfl
       have hsum := run_sum (S ++ (sumB C).take 1) [UInt8.ofNat (C.toNat / 256 ^ 1)] (by simp;omega)
       rw [← hst,hS1] at hsum
       obtain ⟨S2,hS2⟩ : ∃ q,mk (S ++ (sumB C).take 2) = q := ⟨_,rfl⟩
       obtain ⟨b1,hb1⟩ : ∃ q,mk [UInt8.ofNat (C.toNat / 256 ^ 1)] = q := ⟨_,rfl⟩
       rw [hb1] at hcv hsum
       rw [hS2] at hsum
       have HS2 := Lib.hid hS2
       clear hS1 hS2 hst hb1 hln hb
       go_wp2
       go_roundw
       case rel => exact ⟨2,by omega,rfl,by rw [HS2.out],HB.out.alloc HB.out.size _⟩
       case measure => simp [intOf]
      ·have hcv := conv_one wr (UInt8.ofNat (C.toNat / 256 ^ 2)) (C / 65536 % 256) (by rw [← byte_int];omega)
       have hst : S ++ (sumB C).take 3 = (S ++ (sumB C).take 2) ++ [UInt8.ofNat (C.toNat / 256 ^ 2)] := by rw [List.append_assoc];rfl
       have hsum := run_sum (S ++ (sumB C).take 2) [UInt8.ofNat (C.toNat / 256 ^ 2)] (by simp;omega)
       rw [← hst,hS1] at hsum
       obtain ⟨S2,hS2⟩ : ∃ q,mk (S ++ (sumB C).take 3) = q := ⟨_,rfl⟩
       obtain ⟨b1,hb1⟩ : ∃ q,mk [UInt8.ofNat (C.toNat / 256 ^ 2)] = q := ⟨_,rfl⟩
       rw [hb1] at hcv hsum
       rw [hS2] at hsum
       have HS2 := Lib.hid hS2
       clear hS1 hS2 hst hb1 hln hb
       go_wp2
       go_roundw
       case rel => exact ⟨3,by omega,rfl,by rw [HS2.out],HB.out.alloc HB.out.size _⟩
       case measure => simp [intOf]
      ·have hcv := conv_one wr (UInt8.ofNat (C.toNat / 256 ^ 3)) (C / 16777216) (by rw [← byte_int];omega)
       have hst : S ++ (sumB C).take 4 = (S ++ (sumB C).take 3) ++ [UInt8.ofNat (C.toNat / 256 ^ 3)] := by rw [List.append_assoc];rfl
       have hsum := run_sum (S ++ (sumB C).take 3) [UInt8.ofNat (C.toNat / 256 ^ 3)] (by simp;omega)
       rw [← hst,hS1] at hsum
       obtain ⟨S2,hS2⟩ : ∃ q,mk (S ++ (sumB C).take 4) = q := ⟨_,rfl⟩
       obtain ⟨b1,hb1⟩ : ∃ q,mk [UInt8.ofNat (C.toNat / 256 ^ 3)] = q := ⟨_,rfl⟩
       rw [hb1] at hcv hsum
       rw [hS2] at hsum
       have HS2 := Lib.hid hS2
       clear hS1 hS2 hst hb1 hln hb
       go_wp2
       go_roundw
       case rel => exact ⟨4,by omega,rfl,by rw [HS2.out],HB.out.alloc HB.out.size _⟩
       case measure => simp [intOf]
      ·have HFN := Lib.hid (show S1 = R by rw [← hS1, ← HR.out,HHD.out];congr 1)
       clear hS1 hln hb
       go_wp2
       go_ret
       obtain rfl := HFN.out
       exact ⟨rfl,HB.out⟩
end Go.Proofs.YtcmcdddnckcpcaaGreatDoor
