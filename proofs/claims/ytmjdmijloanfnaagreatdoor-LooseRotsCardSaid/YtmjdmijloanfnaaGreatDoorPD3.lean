/- Packed: Ik, Sb, Sp, Bf, St, En, Fm, Sg, It, Sf, Tp, Ot, Tk. -/
import Derived.Test.YtmjdmijloanfnaaGreatDoorPD1
import Derived.Shelf.SlIter.Nil
import Derived.Shelf.SlIterI.Nil
import Derived.Shelf.SortM.Plain
import Derived.Shelf.SortM.SortNone
import Derived.Ground.GgzProg
import Derived.Ground.SlgmProg
import Derived.Test.YtmjdmijloanfnaaGreatDoorProg
import Derived.Laws.ResultCell
import Derived.WalkSpells
import Derived.WalkLawsBesides
import Derived.Laws.IdiomStrings
import Derived.Test.YtmjdmijloanfnaaGreatDoorPD2
import Derived.Maps.Own
import Derived.Maps.OwnSet
import Derived.Maps.Views
import Derived.StringKeys
import Derived.RangeFuncNested
import Derived.RangeFuncBound
import Derived.RangeFuncCalls
import Derived.RangeFuncLeaves
import Derived.RangeFuncBox
import Derived.Shelf.Abstract
import Derived.WalkKit
import Derived.OwnWalkIn
import Derived.TacticsInMore
import Derived.LoopNIn
import Derived.LoopIn
import Derived.OrdersIn
namespace Go.Proofs
open Go.RowKit Go.Maps Go.Sort Go.Shelf
def Tryz.keys52_ren : Go.Shelf.Ren := ⟨fun | 7 => 86 | 10 => 126 | n => n,fun | 23 => 105 | 26 => 9 | 3 => 97 | 28 => 161 | 0 => 0 | 27 => 160 | 33 => 31 | 4 => 4 | n => n,fun | n => n⟩
theorem Tryz.keys52 : Go.Proofs.SlLaysZ.n7 Tryz.prog Tryz.keys52_ren := {
 mixed := by kernel_rfl
 f7 := ⟨Tryz.f86.name,by decide,Tryz.func86.trans (congrArg some (by kernel_rfl))⟩
 f10 := ⟨Tryz.f126.name,by decide,Tryz.func126.trans (congrArg some (by kernel_rfl))⟩
 t0 := Tryz.underlying0
 a0 := Tryz.isAgg0
 z0 := Tryz.sizeOf0
 v0 := Tryz.zeroValue0
 t4 := Tryz.underlying4
 a4 := Tryz.isAgg4
 z4 := Tryz.sizeOf4
 v4 := Tryz.zeroValue4
 t23 := Tryz.underlying105
 a23 := Tryz.isAgg105
 z23 := Tryz.sizeOf105
 v23 := Tryz.zeroValue105
 t26 := Tryz.underlying9
 a26 := Tryz.isAgg9
 z26 := Tryz.sizeOf9
 v26 := Tryz.zeroValue9
 t27 := Tryz.underlying160
 a27 := Tryz.isAgg160
 z27 := Tryz.sizeOf160
 v27 := Tryz.zeroValue160
 t28 := Tryz.underlying161
 a28 := Tryz.isAgg161
 z28 := Tryz.sizeOf161
 v28 := Tryz.zeroValue161
 t33 := Tryz.underlying31
 a33 := Tryz.isAgg31
 z33 := Tryz.sizeOf31
 v33 := Tryz.zeroValue31 }
def Tryz.sorted51_ren : Go.Shelf.Ren := ⟨fun | 6 => 85 | 8 => 124 | 9 => 125 | 11 => 150 | 13 => 152 | 12 => 151 | 23 => 172 | 24 => 173 | 14 => 163 | 15 => 164 | 16 => 165 | 17 => 166 | 18 => 167 | 19 => 168 | 20 => 169 | 21 => 170 | 22 => 171 | 25 => 186 | 26 => 187 | 27 => 188 | 28 => 189 | 29 => 190 | 30 => 191 | 31 => 196 | n => n,fun | 26 => 9 | 28 => 161 | 24 => 33 | 0 => 0 | 3 => 3 | 37 => 125 | 48 => 137 | 50 => 167 | 4 => 4 | 40 => 238 | 39 => 237 | 45 => 100 | 5 => 5 | 9 => 9 | 51 => 252 | 55 => 256 | 57 => 260 | 58 => 59 | 33 => 31 | n => n,fun | n => n⟩
theorem Tryz.sorted51 : Go.Proofs.SlLaysZ.n6 Tryz.prog Tryz.sorted51_ren := {
 mixed := by kernel_rfl
 f6 := ⟨Tryz.f85.name,by decide,Tryz.func85.trans (congrArg some (by kernel_rfl))⟩
 f8 := ⟨Tryz.f124.name,by decide,Tryz.func124.trans (congrArg some (by kernel_rfl))⟩
 f11 := ⟨Tryz.f150.name,by decide,Tryz.func150.trans (congrArg some (by kernel_rfl))⟩
 t0 := Tryz.underlying0
 a0 := Tryz.isAgg0
 z0 := Tryz.sizeOf0
 v0 := Tryz.zeroValue0
 t24 := Tryz.underlying33
 a24 := Tryz.isAgg33
 z24 := Tryz.sizeOf33
 v24 := Tryz.zeroValue33
 t26 := Tryz.underlying9
 a26 := Tryz.isAgg9
 z26 := Tryz.sizeOf9
 v26 := Tryz.zeroValue9
 t28 := Tryz.underlying161
 a28 := Tryz.isAgg161
 z28 := Tryz.sizeOf161
 v28 := Tryz.zeroValue161
 i26 := by kernel_rfl }
def Tryz.sort92_ren : Go.Shelf.Ren := ⟨fun | 6 => 125 | 8 => 152 | 9 => 151 | 19 => 172 | 20 => 173 | 21 => 163 | 22 => 164 | 23 => 165 | 24 => 166 | 25 => 167 | 26 => 168 | 27 => 169 | 28 => 170 | 29 => 171 | 36 => 186 | 31 => 187 | 32 => 188 | 37 => 189 | 38 => 190 | 39 => 191 | 41 => 196 | n => n,fun | 27 => 33 | 29 => 9 | 3 => 3 | 32 => 125 | 26 => 33 | 0 => 0 | 44 => 137 | 46 => 167 | 4 => 4 | 36 => 238 | 35 => 237 | 41 => 100 | 5 => 5 | 9 => 9 | 53 => 252 | 57 => 256 | 63 => 260 | 64 => 59 | n => n,fun | n => n⟩
theorem Tryz.sort92 : Go.Proofs.SlLaysM.n6 Tryz.prog Tryz.sort92_ren := {
 mixed := by kernel_rfl
 f6 := ⟨Tryz.f125.name,by decide,Tryz.func125.trans (congrArg some (by kernel_rfl))⟩
 f8 := Tryz.func152.trans (congrArg some (by kernel_rfl))
 f9 := ⟨Tryz.f151.name,by decide,Tryz.func151.trans (congrArg some (by kernel_rfl))⟩
 f19 := Tryz.func172.trans (congrArg some (by kernel_rfl))
 f20 := Tryz.func173.trans (congrArg some (by kernel_rfl))
 f21 := ⟨Tryz.f163.name,by decide,Tryz.func163.trans (congrArg some (by kernel_rfl))⟩
 f22 := ⟨Tryz.f164.name,by decide,Tryz.func164.trans (congrArg some (by kernel_rfl))⟩
 f23 := ⟨Tryz.f165.name,by decide,Tryz.func165.trans (congrArg some (by kernel_rfl))⟩
 f24 := ⟨Tryz.f166.name,by decide,Tryz.func166.trans (congrArg some (by kernel_rfl))⟩
 f25 := ⟨Tryz.f167.name,by decide,Tryz.func167.trans (congrArg some (by kernel_rfl))⟩
 f26 := ⟨Tryz.f168.name,by decide,Tryz.func168.trans (congrArg some (by kernel_rfl))⟩
 f27 := ⟨Tryz.f169.name,by decide,Tryz.func169.trans (congrArg some (by kernel_rfl))⟩
 f28 := ⟨Tryz.f170.name,by decide,Tryz.func170.trans (congrArg some (by kernel_rfl))⟩
 f29 := ⟨Tryz.f171.name,by decide,Tryz.func171.trans (congrArg some (by kernel_rfl))⟩
 f31 := Tryz.func187.trans (congrArg some (by kernel_rfl))
 f32 := Tryz.func188.trans (congrArg some (by kernel_rfl))
 f36 := ⟨Tryz.f186.name,by decide,Tryz.func186.trans (congrArg some (by kernel_rfl))⟩
 f37 := ⟨Tryz.f189.name,by decide,Tryz.func189.trans (congrArg some (by kernel_rfl))⟩
 f38 := ⟨Tryz.f190.name,by decide,Tryz.func190.trans (congrArg some (by kernel_rfl))⟩
 f39 := ⟨Tryz.f191.name,by decide,Tryz.func191.trans (congrArg some (by kernel_rfl))⟩
 f41 := ⟨Tryz.f196.name,by decide,Tryz.func196.trans (congrArg some (by kernel_rfl))⟩
 t0 := Tryz.underlying0
 a0 := Tryz.isAgg0
 z0 := Tryz.sizeOf0
 v0 := Tryz.zeroValue0
 t3 := Tryz.underlying3
 a3 := Tryz.isAgg3
 z3 := Tryz.sizeOf3
 v3 := Tryz.zeroValue3
 t4 := Tryz.underlying4
 a4 := Tryz.isAgg4
 z4 := Tryz.sizeOf4
 v4 := Tryz.zeroValue4
 t5 := Tryz.underlying5
 a5 := Tryz.isAgg5
 z5 := Tryz.sizeOf5
 v5 := Tryz.zeroValue5
 t9 := Tryz.underlying9
 a9 := Tryz.isAgg9
 z9 := Tryz.sizeOf9
 v9 := Tryz.zeroValue9
 t26 := Tryz.underlying33
 a26 := Tryz.isAgg33
 z26 := Tryz.sizeOf33
 v26 := Tryz.zeroValue33
 t27 := Tryz.underlying33
 a27 := Tryz.isAgg33
 z27 := Tryz.sizeOf33
 v27 := Tryz.zeroValue33
 t29 := Tryz.underlying9
 a29 := Tryz.isAgg9
 z29 := Tryz.sizeOf9
 v29 := Tryz.zeroValue9
 t32 := Tryz.underlying125
 a32 := Tryz.isAgg125
 z32 := Tryz.sizeOf125
 v32 := Tryz.zeroValue125
 t35 := Tryz.underlying237
 a35 := Tryz.isAgg237
 z35 := Tryz.sizeOf237
 v35 := Tryz.zeroValue237
 t36 := Tryz.underlying238
 a36 := Tryz.isAgg238
 z36 := Tryz.sizeOf238
 v36 := Tryz.zeroValue238
 t41 := Tryz.underlying100
 a41 := Tryz.isAgg100
 z41 := Tryz.sizeOf100
 v41 := Tryz.zeroValue100
 t44 := Tryz.underlying137
 a44 := Tryz.isAgg137
 z44 := Tryz.sizeOf137
 v44 := Tryz.zeroValue137
 t46 := Tryz.underlying167
 a46 := Tryz.isAgg167
 z46 := Tryz.sizeOf167
 v46 := Tryz.zeroValue167
 t53 := Tryz.underlying252
 a53 := Tryz.isAgg252
 z53 := Tryz.sizeOf252
 v53 := Tryz.zeroValue252
 t57 := Tryz.underlying256
 a57 := Tryz.isAgg256
 z57 := Tryz.sizeOf256
 v57 := Tryz.zeroValue256
 t63 := Tryz.underlying260
 a63 := Tryz.isAgg260
 z63 := Tryz.sizeOf260
 v63 := Tryz.zeroValue260
 t64 := Tryz.underlying59
 a64 := Tryz.isAgg59
 z64 := Tryz.sizeOf59
 v64 := Tryz.zeroValue59 }
def Tryz.keys89_ren : Go.Shelf.Ren := ⟨fun | 7 => 121 | 10 => 148 | n => n,fun | 23 => 148 | 26 => 3 | 3 => 9 | 28 => 201 | 0 => 0 | 27 => 200 | 33 => 132 | 4 => 4 | n => n,fun | n => n⟩
theorem Tryz.keys89 : Go.Proofs.SlLaysZI.n7 Tryz.prog Tryz.keys89_ren := {
 mixed := by kernel_rfl
 f7 := ⟨Tryz.f121.name,by decide,Tryz.func121.trans (congrArg some (by kernel_rfl))⟩
 f10 := ⟨Tryz.f148.name,by decide,Tryz.func148.trans (congrArg some (by kernel_rfl))⟩
 t0 := Tryz.underlying0
 a0 := Tryz.isAgg0
 z0 := Tryz.sizeOf0
 v0 := Tryz.zeroValue0
 t4 := Tryz.underlying4
 a4 := Tryz.isAgg4
 z4 := Tryz.sizeOf4
 v4 := Tryz.zeroValue4
 t23 := Tryz.underlying148
 a23 := Tryz.isAgg148
 z23 := Tryz.sizeOf148
 v23 := Tryz.zeroValue148
 t26 := Tryz.underlying3
 a26 := Tryz.isAgg3
 z26 := Tryz.sizeOf3
 v26 := Tryz.zeroValue3
 t27 := Tryz.underlying200
 a27 := Tryz.isAgg200
 z27 := Tryz.sizeOf200
 v27 := Tryz.zeroValue200
 t28 := Tryz.underlying201
 a28 := Tryz.isAgg201
 z28 := Tryz.sizeOf201
 v28 := Tryz.zeroValue201
 t33 := Tryz.underlying132
 a33 := Tryz.isAgg132
 z33 := Tryz.sizeOf132
 v33 := Tryz.zeroValue132 }
def Tryz.sorted88_ren : Go.Shelf.Ren := ⟨fun | 6 => 120 | 8 => 146 | 9 => 147 | 11 => 161 | 13 => 152 | 12 => 162 | 23 => 172 | 24 => 173 | 14 => 177 | 15 => 178 | 16 => 179 | 17 => 180 | 18 => 181 | 19 => 182 | 20 => 183 | 21 => 184 | 22 => 185 | 25 => 192 | 26 => 187 | 27 => 188 | 28 => 193 | 29 => 194 | 30 => 195 | 31 => 197 | n => n,fun | 26 => 3 | 28 => 201 | 24 => 62 | 0 => 0 | 3 => 3 | 37 => 125 | 48 => 137 | 50 => 167 | 4 => 4 | 40 => 238 | 39 => 237 | 45 => 100 | 5 => 5 | 9 => 9 | 51 => 252 | 55 => 256 | 57 => 260 | 58 => 59 | 33 => 132 | n => n,fun | n => n⟩
theorem Tryz.sorted88 : Go.Proofs.SlLaysZI.n6 Tryz.prog Tryz.sorted88_ren := {
 mixed := by kernel_rfl
 f6 := ⟨Tryz.f120.name,by decide,Tryz.func120.trans (congrArg some (by kernel_rfl))⟩
 f8 := ⟨Tryz.f146.name,by decide,Tryz.func146.trans (congrArg some (by kernel_rfl))⟩
 f11 := ⟨Tryz.f161.name,by decide,Tryz.func161.trans (congrArg some (by kernel_rfl))⟩
 t0 := Tryz.underlying0
 a0 := Tryz.isAgg0
 z0 := Tryz.sizeOf0
 v0 := Tryz.zeroValue0
 t24 := Tryz.underlying62
 a24 := Tryz.isAgg62
 z24 := Tryz.sizeOf62
 v24 := Tryz.zeroValue62
 t26 := Tryz.underlying3
 a26 := Tryz.isAgg3
 z26 := Tryz.sizeOf3
 v26 := Tryz.zeroValue3
 t28 := Tryz.underlying201
 a28 := Tryz.isAgg201
 z28 := Tryz.sizeOf201
 v28 := Tryz.zeroValue201
 i26 := by kernel_rfl }
def Tryz.sort113_ren : Go.Shelf.Ren := ⟨fun | 5 => 147 | 8 => 152 | 7 => 162 | 19 => 172 | 20 => 173 | 10 => 177 | 11 => 178 | 12 => 179 | 13 => 180 | 14 => 181 | 15 => 182 | 16 => 183 | 17 => 184 | 18 => 185 | 30 => 192 | 31 => 187 | 32 => 188 | 33 => 193 | 34 => 194 | 35 => 195 | 40 => 197 | n => n,fun | 23 => 62 | 25 => 3 | 3 => 3 | 32 => 125 | 22 => 62 | 0 => 0 | 44 => 137 | 46 => 167 | 4 => 4 | 36 => 238 | 35 => 237 | 41 => 100 | 5 => 5 | 9 => 9 | 53 => 252 | 57 => 256 | 63 => 260 | 64 => 59 | n => n,fun | n => n⟩
theorem Tryz.sort113 : Go.Proofs.SlLaysM.n5 Tryz.prog Tryz.sort113_ren := {
 mixed := by kernel_rfl
 f5 := ⟨Tryz.f147.name,by decide,Tryz.func147.trans (congrArg some (by kernel_rfl))⟩
 f7 := ⟨Tryz.f162.name,by decide,Tryz.func162.trans (congrArg some (by kernel_rfl))⟩
 f8 := Tryz.func152.trans (congrArg some (by kernel_rfl))
 f10 := ⟨Tryz.f177.name,by decide,Tryz.func177.trans (congrArg some (by kernel_rfl))⟩
 f11 := ⟨Tryz.f178.name,by decide,Tryz.func178.trans (congrArg some (by kernel_rfl))⟩
 f12 := ⟨Tryz.f179.name,by decide,Tryz.func179.trans (congrArg some (by kernel_rfl))⟩
 f13 := ⟨Tryz.f180.name,by decide,Tryz.func180.trans (congrArg some (by kernel_rfl))⟩
 f14 := ⟨Tryz.f181.name,by decide,Tryz.func181.trans (congrArg some (by kernel_rfl))⟩
 f15 := ⟨Tryz.f182.name,by decide,Tryz.func182.trans (congrArg some (by kernel_rfl))⟩
 f16 := ⟨Tryz.f183.name,by decide,Tryz.func183.trans (congrArg some (by kernel_rfl))⟩
 f17 := ⟨Tryz.f184.name,by decide,Tryz.func184.trans (congrArg some (by kernel_rfl))⟩
 f18 := ⟨Tryz.f185.name,by decide,Tryz.func185.trans (congrArg some (by kernel_rfl))⟩
 f19 := Tryz.func172.trans (congrArg some (by kernel_rfl))
 f20 := Tryz.func173.trans (congrArg some (by kernel_rfl))
 f30 := ⟨Tryz.f192.name,by decide,Tryz.func192.trans (congrArg some (by kernel_rfl))⟩
 f31 := Tryz.func187.trans (congrArg some (by kernel_rfl))
 f32 := Tryz.func188.trans (congrArg some (by kernel_rfl))
 f33 := ⟨Tryz.f193.name,by decide,Tryz.func193.trans (congrArg some (by kernel_rfl))⟩
 f34 := ⟨Tryz.f194.name,by decide,Tryz.func194.trans (congrArg some (by kernel_rfl))⟩
 f35 := ⟨Tryz.f195.name,by decide,Tryz.func195.trans (congrArg some (by kernel_rfl))⟩
 f40 := ⟨Tryz.f197.name,by decide,Tryz.func197.trans (congrArg some (by kernel_rfl))⟩
 t0 := Tryz.underlying0
 a0 := Tryz.isAgg0
 z0 := Tryz.sizeOf0
 v0 := Tryz.zeroValue0
 t3 := Tryz.underlying3
 a3 := Tryz.isAgg3
 z3 := Tryz.sizeOf3
 v3 := Tryz.zeroValue3
 t4 := Tryz.underlying4
 a4 := Tryz.isAgg4
 z4 := Tryz.sizeOf4
 v4 := Tryz.zeroValue4
 t5 := Tryz.underlying5
 a5 := Tryz.isAgg5
 z5 := Tryz.sizeOf5
 v5 := Tryz.zeroValue5
 t9 := Tryz.underlying9
 a9 := Tryz.isAgg9
 z9 := Tryz.sizeOf9
 v9 := Tryz.zeroValue9
 t22 := Tryz.underlying62
 a22 := Tryz.isAgg62
 z22 := Tryz.sizeOf62
 v22 := Tryz.zeroValue62
 t23 := Tryz.underlying62
 a23 := Tryz.isAgg62
 z23 := Tryz.sizeOf62
 v23 := Tryz.zeroValue62
 t25 := Tryz.underlying3
 a25 := Tryz.isAgg3
 z25 := Tryz.sizeOf3
 v25 := Tryz.zeroValue3
 t32 := Tryz.underlying125
 a32 := Tryz.isAgg125
 z32 := Tryz.sizeOf125
 v32 := Tryz.zeroValue125
 t35 := Tryz.underlying237
 a35 := Tryz.isAgg237
 z35 := Tryz.sizeOf237
 v35 := Tryz.zeroValue237
 t36 := Tryz.underlying238
 a36 := Tryz.isAgg238
 z36 := Tryz.sizeOf238
 v36 := Tryz.zeroValue238
 t41 := Tryz.underlying100
 a41 := Tryz.isAgg100
 z41 := Tryz.sizeOf100
 v41 := Tryz.zeroValue100
 t44 := Tryz.underlying137
 a44 := Tryz.isAgg137
 z44 := Tryz.sizeOf137
 v44 := Tryz.zeroValue137
 t46 := Tryz.underlying167
 a46 := Tryz.isAgg167
 z46 := Tryz.sizeOf167
 v46 := Tryz.zeroValue167
 t53 := Tryz.underlying252
 a53 := Tryz.isAgg252
 z53 := Tryz.sizeOf252
 v53 := Tryz.zeroValue252
 t57 := Tryz.underlying256
 a57 := Tryz.isAgg256
 z57 := Tryz.sizeOf256
 v57 := Tryz.zeroValue256
 t63 := Tryz.underlying260
 a63 := Tryz.isAgg260
 z63 := Tryz.sizeOf260
 v63 := Tryz.zeroValue260
 t64 := Tryz.underlying59
 a64 := Tryz.isAgg59
 z64 := Tryz.sizeOf59
 v64 := Tryz.zeroValue59 }
theorem Tryz.sorts51 (m : Nat) : AnyZ.SortsIn Tryz.prog Tryz.sorted51_ren Fence.wide m :=
 ⟨fun blk off cap ss W hH hblk hsz => callsIn_wide.2 (AnyM.slices_Sort_string Tryz.sort92 blk off cap ss W hH hblk hsz),
  fun p cap W => callsIn_wide.2 (AnyM.slices_Sort_string_none Tryz.sort92 p cap W)⟩

theorem Tryz.maps_Keys_52 (mb : Option Nat) (W : World) : CallsIn Fence.wide 5 Tryz.prog 86 #[.map mb] W fun e w' => e = .returned (.func (.func 126) #[] #[.pointer (some ⟨W.heap.size,0,none⟩)]) ∧ w' = W.alloc (.cells #[.map mb] 105) :=
 AnyZ.keys_in Tryz.keys52 Fence.wide 5 trivial rfl mb W

set_option maxHeartbeats 1000000 in
theorem Tryz.slices_Sorted_keys_51_52 {H : Type} (b nn : Nat) (D0 : DataW H) (R : Value → Option (DataW H × List MemPlace)) (w : World) (hown : w.ownsMap Tryz.prog 9 R b nn D0) (hmax : Maps.size D0 ≤ maxLen) (hbytes : Maps.size D0 * 16 ≤ 140737488355328) :
  CallsIn Fence.wide 5 Tryz.prog 85 #[.func (.func 126) #[] #[.pointer (some ⟨w.heap.size,0,none⟩)]] (w.alloc (.cells #[.map (some b)] 105)) fun e w' => ∃ (v : Value) (ss : List (List UInt8)),e = .returned v ∧ ss.Perm (strKeys D0) ∧
   w'.ownsRow (w.alloc (.cells #[.map (some b)] 105)).heap.size 9 1 v ss.length ((ss.mergeSort (fun x y => decide (x ≤ y))).map encStr) ∧ (v = .slice none 0 0 ↔ ss = []) ∧ Below (w.alloc (.cells #[.map (some b)] 105)).heap.size (w.alloc (.cells #[.map (some b)] 105)) w' := by
 have hbl := hown.lt
 have hseq : SeqGives Fence.wide 2 Tryz.prog 126 #[.pointer (some ⟨w.heap.size,0,none⟩)] encStr (fun ss => ss.Perm (strKeys D0)) (Maps.size D0) (w.alloc (.cells #[.map (some b)] 105)) :=
  AnyZ.keys_gives (ρ := Tryz.keys52_ren) { Tryz.keys52 with } Fence.wide _ trivial rfl (by omega) w.heap.size b nn D0 _ (by simp) (by simp) (by
   obtain ⟨es,clock,hb,Ft,hs,hD⟩ := hown
   exact ⟨es,clock,(Below.heap_alloc _ _ b hbl).trans hb,Ft,hs,hD⟩)
 exact AnyZ.sorted_in Tryz.sorted51 Fence.wide 5 trivial trivial trivial trivial rfl (by omega) (Tryz.sorts51 _) (enters_of Tryz.func125 (by kernel_rfl) rfl) 126 #[.pointer (some ⟨w.heap.size,0,none⟩)] trivial (enters_of Tryz.func126 (by kernel_rfl) rfl) _ _ hmax hbytes _ hseq

theorem Tryz.sorts88 (m : Nat) : AnyZI.SortsIn Tryz.prog Tryz.sorted88_ren Fence.wide m :=
 ⟨fun blk off cap ss W hH hblk hsz => callsIn_wide.2 (AnyM.slices_Sort_int Tryz.sort113 blk off cap ss W hH hblk hsz),
  fun p cap W => callsIn_wide.2 (AnyM.slices_Sort_int_none Tryz.sort113 p cap W)⟩

theorem Tryz.maps_Keys_89 (mb : Option Nat) (W : World) : CallsIn Fence.wide 5 Tryz.prog 121 #[.map mb] W fun e w' => e = .returned (.func (.func 148) #[] #[.pointer (some ⟨W.heap.size,0,none⟩)]) ∧ w' = W.alloc (.cells #[.map mb] 148) :=
 AnyZI.keys_in Tryz.keys89 Fence.wide 5 trivial rfl mb W

set_option maxHeartbeats 1000000 in
theorem Tryz.slices_Sorted_keys_88_89 {H : Type} (b nn : Nat) (D0 : DataW H) (R : Value → Option (DataW H × List MemPlace)) (w : World) (hown : w.ownsMap Tryz.prog 3 R b nn D0) (hmax : Maps.size D0 ≤ maxLen) (hbytes : Maps.size D0 * 8 ≤ 140737488355328) :
  CallsIn Fence.wide 5 Tryz.prog 120 #[.func (.func 148) #[] #[.pointer (some ⟨w.heap.size,0,none⟩)]] (w.alloc (.cells #[.map (some b)] 148)) fun e w' => ∃ (v : Value) (ss : List Int),e = .returned v ∧ ss.Perm (intKeys D0) ∧
   w'.ownsRow (w.alloc (.cells #[.map (some b)] 148)).heap.size 3 1 v ss.length ((ss.mergeSort (fun x y => decide (x ≤ y))).map encZ) ∧ (v = .slice none 0 0 ↔ ss = []) ∧ Below (w.alloc (.cells #[.map (some b)] 148)).heap.size (w.alloc (.cells #[.map (some b)] 148)) w' := by
 have hbl := hown.lt
 have hseq : SeqGives Fence.wide 2 Tryz.prog 148 #[.pointer (some ⟨w.heap.size,0,none⟩)] encZ (fun ss => ss.Perm (intKeys D0)) (Maps.size D0) (w.alloc (.cells #[.map (some b)] 148)) :=
  AnyZI.keys_gives (ρ := Tryz.keys89_ren) { Tryz.keys89 with } Fence.wide _ trivial rfl (by omega) w.heap.size b nn D0 _ (by simp) (by simp) (by
   obtain ⟨es,clock,hb,Ft,hs,hD⟩ := hown
   exact ⟨es,clock,(Below.heap_alloc _ _ b hbl).trans hb,Ft,hs,hD⟩)
 exact AnyZI.sorted_in Tryz.sorted88 Fence.wide 5 trivial trivial trivial trivial rfl (by omega) (Tryz.sorts88 _) (enters_of Tryz.func147 (by kernel_rfl) rfl) 148 #[.pointer (some ⟨w.heap.size,0,none⟩)] trivial (enters_of Tryz.func148 (by kernel_rfl) rfl) _ _ hmax hbytes _ hseq

end Go.Proofs
namespace Go.Proofs.YtmjdmijloanfnaaGreatDoor
def bitN (T : List Bool) (i : Nat) : Nat := if T.getD i false then 1 else 0
def byteN (T : List Bool) (j : Nat) : Nat :=
 bitN T (8 * j) + 2 * bitN T (8 * j + 1) + 4 * bitN T (8 * j + 2) + 8 * bitN T (8 * j + 3) + 16 * bitN T (8 * j + 4) + 32 * bitN T (8 * j + 5) + 64 * bitN T (8 * j + 6) + 128 * bitN T (8 * j + 7)
def packB (T : List Bool) : Bs := (List.range ((T.length + 7) / 8)).map fun j => UInt8.ofNat (byteN T j)
theorem packB_length (T : List Bool) : (packB T).length = (T.length + 7) / 8 := by simp [packB]
theorem bitN_le (T : List Bool) (i : Nat) : bitN T i ≤ 1 := by unfold bitN;split <;> omega
theorem byteN_lt (T : List Bool) (j : Nat) : byteN T j < 256 := by
 unfold byteN
 have h := bitN_le T
 have a0 := h (8 * j);have a1 := h (8 * j + 1);have a2 := h (8 * j + 2);have a3 := h (8 * j + 3)
 have a4 := h (8 * j + 4);have a5 := h (8 * j + 5);have a6 := h (8 * j + 6);have a7 := h (8 * j + 7)
 omega
theorem packB_at (T : List Bool) (j : Nat) (h : j < (T.length + 7) / 8) : (packB T)[j]? = some (UInt8.ofNat (byteN T j)) := by simp [packB,h]
theorem byteN_bit (T : List Bool) (j k : Nat) (hk : k < 8) : byteN T j / 2 ^ k % 2 = bitN T (8 * j + k) := by
 unfold byteN
 have h := bitN_le T
 have a0 := h (8 * j);have a1 := h (8 * j + 1);have a2 := h (8 * j + 2);have a3 := h (8 * j + 3)
 have a4 := h (8 * j + 4);have a5 := h (8 * j + 5);have a6 := h (8 * j + 6);have a7 := h (8 * j + 7)
 have hk' : k = 0 ∨ k = 1 ∨ k = 2 ∨ k = 3 ∨ k = 4 ∨ k = 5 ∨ k = 6 ∨ k = 7 := by omega
 rcases hk' with rfl | rfl | rfl | rfl | rfl | rfl | rfl | rfl <;> simp only [Nat.reducePow,Nat.add_zero] <;> omega
theorem bitN_set_same (T : List Bool) (i : Nat) (v : Bool) (h : i < T.length) : bitN (T.set i v) i = if v then 1 else 0 := by
 unfold bitN;simp [h]
theorem bitN_set_other (T : List Bool) (i k : Nat) (v : Bool) (h : i ≠ k) : bitN (T.set i v) k = bitN T k := by
 unfold bitN;simp [h]
theorem turn8 : ∀ b0 b1 b2 b3 b4 b5 b6 b7 : Bool, ∀ k : Fin 8,
  (let f := fun (i : Nat) (b : Bool) => if (if k.val = i then !b else b) then 1 else 0
   f 0 b0 + 2 * f 1 b1 + 4 * f 2 b2 + 8 * f 3 b3 + 16 * f 4 b4 + 32 * f 5 b5 + 64 * f 6 b6 + 128 * f 7 b7) =
  ((if b0 then 1 else 0) + 2 * (if b1 then 1 else 0) + 4 * (if b2 then 1 else 0) + 8 * (if b3 then 1 else 0) + 16 * (if b4 then 1 else 0) + 32 * (if b5 then 1 else 0) + 64 * (if b6 then 1 else 0) + 128 * (if b7 then 1 else 0)) ^^^ 2 ^ k.val := by decide +kernel
theorem bitN_turn (T : List Bool) (i m : Nat) (hi : i < T.length) : bitN (T.set i (!T.getD i false)) m = if (if i = m then !T.getD m false else T.getD m false) then 1 else 0 := by
 by_cases h : i = m
 ·subst h
  rw [bitN_set_same _ _ _ hi,if_pos rfl]
 ·rw [bitN_set_other _ _ _ _ h,if_neg h];rfl
theorem byteN_turn (T : List Bool) (j k : Nat) (hk : k < 8) (hi : 8 * j + k < T.length) : byteN (T.set (8 * j + k) (!T.getD (8 * j + k) false)) j = byteN T j ^^^ 2 ^ k := by
 have h := turn8 (T.getD (8 * j) false) (T.getD (8 * j + 1) false) (T.getD (8 * j + 2) false) (T.getD (8 * j + 3) false) (T.getD (8 * j + 4) false) (T.getD (8 * j + 5) false) (T.getD (8 * j + 6) false) (T.getD (8 * j + 7) false) ⟨k,hk⟩
 simp only at h
 have e : ∀ m,(8 * j + k = 8 * j + m) = (k = m) := fun m => by simp
 have e0 : (8 * j + k = 8 * j) = (k = 0) := by simp
 unfold byteN
 simp only [bitN_turn T _ _ hi,e,e0]
 unfold bitN
 exact h
theorem byteN_other (T : List Bool) (i j : Nat) (v : Bool) (h : i / 8 ≠ j) : byteN (T.set i v) j = byteN T j := by
 unfold byteN
 rw [bitN_set_other _ _ _ _ (by omega),bitN_set_other _ _ _ _ (by omega),bitN_set_other _ _ _ _ (by omega),bitN_set_other _ _ _ _ (by omega),bitN_set_other _ _ _ _ (by omega),bitN_set_other _ _ _ _ (by omega),bitN_set_other _ _ _ _ (by omega),bitN_set_other _ _ _ _ (by omega)]
theorem packB_turn (T : List Bool) (i : Nat) (hi : i < T.length) : packB (T.set i (!T.getD i false)) = (packB T).set (i / 8) (UInt8.ofNat (byteN T (i / 8) ^^^ 2 ^ (i % 8))) := by
 apply List.ext_getElem?
 intro j
 rcases Nat.lt_or_ge j ((T.length + 7) / 8) with hj | hj
 ·rw [packB_at _ _ (by rw [List.length_set];exact hj)]
  by_cases e : i / 8 = j
  ·subst e
   rw [List.getElem?_set_self (by rw [packB_length];exact hj)]
   have := byteN_turn T (i / 8) (i % 8) (by omega) (by omega)
   rw [show 8 * (i / 8) + i % 8 = i by omega] at this
   rw [this]
  ·rw [List.getElem?_set_ne e,packB_at _ _ hj,byteN_other _ _ _ _ e]
 ·rw [List.getElem?_eq_none (by rw [packB_length,List.length_set];exact hj),List.getElem?_eq_none (by rw [List.length_set,packB_length];exact hj)]
theorem packB_zero (n : Nat) : packB (List.replicate n false) = List.replicate ((n + 7) / 8) 0 := by
 apply List.ext_getElem?
 intro j
 rcases Nat.lt_or_ge j ((n + 7) / 8) with hj | hj
 ·have h0 : ∀ i,bitN (List.replicate n false) i = 0 := fun i => by
   unfold bitN
   rw [List.getD_eq_getElem?_getD,List.getElem?_replicate]
   by_cases h : i < n <;> simp [h]
  rw [packB_at _ _ (by simpa using hj),List.getElem?_replicate,if_pos hj]
  unfold byteN
  simp [h0]
 ·rw [List.getElem?_eq_none (by rw [packB_length];simpa using hj),List.getElem?_replicate,if_neg (by omega)]
open Go.RowKit
def spv (T : List Bool) : Value := .agg #[.int .i64 T.length, .string (mk (packB T))]
set_option maxRecDepth 100000 in
theorem spnew_any (n : Nat) (w : World) (h : n ≤ 4096) : Calls Tryz.prog 107 #[.int .i64 n] w fun e w' => e = .returned (.tuple #[spv (List.replicate n false), .int .i64 0]) ∧ Below w.heap.size w w' := by
 obtain ⟨i5,hi0,hi1,hi2,hi3⟩ := info_parts info5n
 have h0 : (0 : Int) ≤ (n : Int) := by omega
 have h1 : ¬ ((4096 : Int) < (n : Int)) := by omega
 have h2 : (n : Int) ≤ 4096 := by omega
 obtain ⟨m,hm⟩ : ∃ m,(n + 7) / 8 = m := ⟨_,rfl⟩
 have ht : ((n : Int) + 7).tdiv 8 = (m : Int) := by rw [Int.tdiv_eq_ediv_of_nonneg (by omega)];omega
 have hed : ((n : Int) + 7) / 8 = (m : Int) := by omega
 have hmk := fun (w : World) => run_make (P := Tryz.prog) w 64 5 i5 _ Tryz.underlying64 hi0 hi1 .i64 .i64 (m : Int) (m : Int) (by omega) (by omega) (by rw [hi3];omega) (by omega)
 have hmc : madeCells (Value.cells (.int .u8 0)) ((m : Int).toNat * i5.size) = (bcells (List.replicate m 0)).toArray := by rw [hi2,Nat.mul_one,Int.toNat_natCast];exact made_zero m
 rw [hmc,Int.toNat_natCast] at hmk
 have hcv := fun (w : World) => conv_blk (w := w.alloc (.cells (bcells (List.replicate m 0)).toArray 5)) (b := w.heap.size) (c := m) (l := List.replicate m 0) (Blk.new w _ 5) (fun j hj => by simp [bcells] at hj ⊢;simp [hj])
 rw [List.length_replicate] at hcv
 have HV := Lib.hid (show spv (List.replicate n false) = .agg #[.int .i64 n, .string (mk (List.replicate m 0))] by unfold spv;rw [List.length_replicate,packB_zero,hm])
 obtain ⟨X,hX⟩ : ∃ X,mk (List.replicate m (0 : UInt8)) = X := ⟨_,rfl⟩
 rw [hX] at hcv HV
 have hcv := hcv (w.alloc (.cells #[.int .i64 0, .string ⟨#[]⟩] 104))
 rw [World.size_alloc] at hcv
 clear hX hm hmc
 go_enter Tryz.func107,Tryz.ntmps107
 go_wp2
 refine bodyPost_ret (v := .tuple #[.agg #[.int .i64 n, .string X], .int .i64 0]) ?_ rfl ?_
 ·rw [results_cell_tmp Tryz.results107]
  go_simp
 ·exact ⟨by rw [HV.out],((Below.refl _ w).alloc (Nat.le_refl _) _).alloc (by simp) _⟩
theorem bytes_any (T : List Bool) (w : World) : Calls Tryz.prog 119 #[spv T] w fun e w' => e = .returned (.string (mk (packB T))) ∧ Below w.heap.size w w' := by
 unfold spv
 obtain ⟨X,hX⟩ : ∃ X,mk (packB T) = X := ⟨_,rfl⟩
 obtain ⟨n,hn⟩ : ∃ n,T.length = n := ⟨_,rfl⟩
 rw [hX,hn]
 clear hX hn
 go_enter Tryz.func119,Tryz.ntmps119
 go_wp2
 go_ret
 exact ⟨rfl,below_alloc _ _⟩
theorem pack_byte (T : List Bool) (i : Nat) (hi : i < T.length) : ∃ h : i / 8 < (mk (packB T)).size,(mk (packB T))[i / 8]'h = UInt8.ofNat (byteN T (i / 8)) := by
 have hl : (mk (packB T)).size = (T.length + 7) / 8 := by rw [mk_size,packB_length]
 refine ⟨by omega, ?_⟩
 have h1 := packB_at T (i / 8) (by omega)
 have h2 : (mk (packB T)).data.toList[i / 8]? = some (UInt8.ofNat (byteN T (i / 8))) := by rw [mk_data];exact h1
 rw [Array.getElem?_toList,Array.getElem?_eq_getElem (by show i / 8 < (mk (packB T)).size;omega)] at h2
 exact Option.some.inj h2
theorem and_one8 : ∀ m : Fin 256,bits .and .u8 (m.val : Int) 1 = ((m.val % 2 : Nat) : Int) := by decide +kernel
theorem bit_at (c : UInt8) (k : Nat) : bits .and .u8 ((c.toNat : Int) / 2 ^ k) 1 = ((c.toNat / 2 ^ k % 2 : Nat) : Int) := by
 have e : (c.toNat : Int) / 2 ^ k = ((c.toNat / 2 ^ k : Nat) : Int) := by push_cast;rfl
 rw [e]
 exact and_one8 ⟨c.toNat / 2 ^ k,Nat.lt_of_le_of_lt (Nat.div_le_self _ _) c.toNat_lt⟩
theorem bitN_eq (T : List Bool) (i : Nat) : (((bitN T i : Nat) : Int) == 1) = T.getD i false := by
 unfold bitN
 cases T.getD i false <;> rfl
set_option maxRecDepth 100000 in
theorem has_sp (T : List Bool) (i : Nat) (w : World) (hi : i < T.length) (hn : T.length ≤ 4096) : Calls Tryz.prog 131 #[spv T, .int .i64 i] w fun e w' => e = .returned (.bool (T.getD i false)) ∧ Below w.heap.size w w' := by
 unfold spv
 obtain ⟨j,hjj⟩ : ∃ j,i / 8 = j := ⟨_,rfl⟩
 obtain ⟨k,hkk⟩ : ∃ k,i % 8 = k := ⟨_,rfl⟩
 obtain ⟨c,X,hX,hcT,hj,hb⟩ : ∃ (c : UInt8) (X : ByteArray),mk (packB T) = X ∧ c.toNat = byteN T j ∧ ∃ h : j < X.size,X[j]'h = c := by
  obtain ⟨h1,h2⟩ := pack_byte T i hi
  subst hjj
  exact ⟨_,_,rfl,by rw [UInt8.toNat_ofNat',Nat.mod_eq_of_lt (byteN_lt T _)],h1,h2⟩
 obtain ⟨n,hn2⟩ : ∃ n,T.length = n := ⟨_,rfl⟩
 rw [hX]
 rw [hn2] at hi hn ⊢
 have hk8 : k < 8 := by omega
 have h0 : (0 : Int) ≤ (i : Int) := by omega
 have h1 : (i : Int) < (n : Int) := by omega
 have ht : (i : Int).tdiv 8 = (j : Int) := by rw [Int.tdiv_eq_ediv_of_nonneg (by omega)];omega
 have hm : (i : Int).tmod 8 = (k : Int) := by rw [Int.tmod_eq_emod_of_nonneg (by omega)];omega
 have j0 : (0 : Int) ≤ (j : Int) := by omega
 have j1 : (j : Int) < (X.size : Int) := by omega
 have k0 : (0 : Int) ≤ (k : Int) := by omega
 have k1 : (k : Int) ≤ 8 := by omega
 have j2 : (j : Int) ≤ 512 := by omega
 have wj : wrap64 (j : Int) = (j : Int) := Go.IntWalk.wrap64_in _ (by omega)
 have wk : wrap64 (k : Int) = (k : Int) := Go.IntWalk.wrap64_in _ (by omega)
 have HB := Lib.hid (show c.toNat / 2 ^ k % 2 = bitN T i by rw [hcT,byteN_bit T j k hk8,show 8 * j + k = i by omega])
 clear hX hn2 hjj hkk hcT
 go_enter Tryz.func131,Tryz.ntmps131
 go_wp2
 go_ret
 refine ⟨?_,below_alloc _ _⟩
 show Ending.returned (.bool (bits .and .u8 ((c.toNat : Int) / 2 ^ k) 1 == 1)) = _
 rw [bit_at,HB.out,bitN_eq]
open Go.RowKit
def Buf (w : World) (g : Nat) (e : TypeId) (bs : List Nat) : Prop :=
 ∃ (pad : List Value) (lo hi : Nat),w.heap[g]? = some (.cells ((bs.map (fun b : Nat => Value.int .u8 (b : Int))) ++ pad).toArray e (lo,hi)) ∧ (lo = hi ∨ bs.length ≤ lo)

theorem Buf.lt {w : World} {g : Nat} {e : TypeId} {bs : List Nat} (h : Buf w g e bs) : g < w.heap.size := by
 obtain ⟨pad,lo,hi,h,_⟩ := h
 rcases Nat.lt_or_ge g w.heap.size with hlt | hge
 ·exact hlt
 ·rw [Array.getElem?_eq_none hge] at h;cases h
theorem Buf.keep {w w' : World} {g : Nat} {e : TypeId} {bs : List Nat} (h : Buf w g e bs) (hk : w'.heap[g]? = w.heap[g]?) : Buf w' g e bs := by
 obtain ⟨pad,lo,hi,h,hf⟩ := h
 exact ⟨pad,lo,hi,hk.trans h,hf⟩
theorem Buf.drew {w : World} {g : Nat} {e : TypeId} {bs : List Nat} (h : Buf w g e bs) : Buf w.drew g e bs := h
theorem Buf.alloc {w : World} {g : Nat} {e : TypeId} {bs : List Nat} (h : Buf w g e bs) (o : Obj) : Buf (w.alloc o) g e bs := h.keep (Below.heap_alloc w o g h.lt)
theorem Buf.far {w : World} {g : Nat} {e : TypeId} {bs : List Nat} (h : Buf w g e bs) {p : Addr} (hp : g ≠ p.block) (u : Value) : Buf (w.setCell p u) g e bs := h.keep (Below.heap_setCell w p u g hp)
theorem Buf.cell {w : World} {g : Nat} {e : TypeId} {bs : List Nat} (h : Buf w g e bs) {i : Nat} (hi : i < bs.length) : w.cell? ⟨g,i,none⟩ = some (.int .u8 (bs[i] : Int)) := by
 obtain ⟨pad,lo,hi',h,_⟩ := h
 unfold World.cell?
 rw [h]
 simp [List.getElem?_append_left,hi]
theorem Buf.frozen {w : World} {g : Nat} {e : TypeId} {bs : List Nat} (h : Buf w g e bs) {i : Nat} (hi : i < bs.length) : w.frozen? ⟨g,i,none⟩ = false := by
 obtain ⟨pad,lo,hi',h,hf⟩ := h
 unfold World.frozen?
 rw [h]
 simp
 omega
theorem Buf.set {w : World} {g : Nat} {e : TypeId} {bs : List Nat} (h : Buf w g e bs) {i : Nat} (hi : i < bs.length) (b : Nat) : Buf (w.setCell ⟨g,i,none⟩ (.int .u8 (b : Int))) g e (bs.set i b) := by
 obtain ⟨pad,lo,hi',h,hf⟩ := h
 refine ⟨pad,lo,hi', ?_,by simpa using hf⟩
 simp only [World.setCell,Array.getElem?_modify,h]
 simp [List.map_set,hi]

theorem bytesRow_eq (s : ByteArray) (cap : Nat) : bytesRow s cap = (((s.data.toList.map UInt8.toNat).map (fun b : Nat => Value.int .u8 (b : Int))) ++ List.replicate (cap - s.size) (Value.int .u8 0)).toArray := by
 unfold bytesRow
 apply Array.ext'
 simp [Function.comp_def]

theorem wpList_bytes {P : Program} {w : World} {ops : Array Oper} {rest : List Oper} {o : Oper} {a : Act} {Q : Exit → Act → World → Prop} (hgd : o.guard = none) (x : Operand) (src dst e : TypeId)
  (ho : o.op = .convert src dst x) (hs : P.underlying src = some .string) (hd : P.underlying dst = some (.slice e)) (he : P.underlying e = some (.int .u8))
  (s : ByteArray) (hx : a.eval x = .string s)
  (h : ∀ (cap : Nat) (w' : World),Buf w' w.heap.size e (s.data.toList.map UInt8.toNat) → Below w.heap.size w w' → w'.heap.size = w.heap.size + 1 →
   wpList P ops Q rest (a.put o.dst (.slice (some ⟨w.heap.size,0,none⟩) s.size cap)) w') : wpList P ops Q (o :: rest) a w := by
 refine wpList_plain hgd fun _ hK => ?_
 unfold Oper.wp execOp
 simp only [ho,hx,Sem.run_bind,run_bytes_of_string w src dst e s hs hd he,Result.andThen_ok,Sem.run_pure]
 refine hK _ _ (h _ _ ?_ ?_ ?_)
 ·refine ⟨List.replicate (grownCap w s.size 0 e - s.size) (Value.int .u8 0),(bytesRow s (grownCap w s.size 0 e)).size,(bytesRow s (grownCap w s.size 0 e)).size + 1, ?_, .inr ?_⟩
  ·rw [← bytesRow_eq]
   exact heap_alloc_new w.drew _
  ·rw [bytesRow_eq];simp
 ·exact ((Below.refl _ _).drew).alloc (by simp) _
 ·simp

open Go.RowKit
def turn1 (taken : Bool) : List Bool → Nat → Nat → Option (List Bool)
 | T,_,0 => some T
 | T,i,m + 1 => if T.getD i false = taken then none else turn1 taken (T.set i (!T.getD i false)) (i + 1) m
def turnS (taken : Bool) : List Bool → List (Nat × Nat) → Option (List Bool)
 | T,[] => some T
 | T,x :: l => if x.2 < 1 ∨ T.length < x.1 ∨ T.length - x.1 < x.2 then none else (turn1 taken T x.1 x.2).bind fun T' => turnS taken T' l
def ecells (l : List (Nat × Nat)) : List Value := l.flatMap fun x => [.int .i64 x.1, .int .i64 x.2]
theorem turn1_len (taken : Bool) : ∀ (m : Nat) (T : List Bool) (i : Nat) (T' : List Bool),turn1 taken T i m = some T' → T'.length = T.length := by
 intro m
 induction m with
 | zero => intro T i T' h;cases h;rfl
 | succ m ih =>
  intro T i T' h
  rw [turn1] at h
  split at h
  ·cases h
  ·have := ih _ _ _ h
   rw [this,List.length_set]
theorem ecells_at (l : List (Nat × Nat)) : ∀ j (h : j < l.length),(ecells l)[j * 2]? = some (.int .i64 l[j].1) ∧ (ecells l)[j * 2 + 1]? = some (.int .i64 l[j].2) := by
 induction l with
 | nil => intro j h;simp at h
 | cons x S ih =>
  intro j h
  have e : ecells (x :: S) = .int .i64 x.1 :: .int .i64 x.2 :: ecells S := by unfold ecells;rfl
  rw [e]
  cases j with
  | zero => exact ⟨rfl,rfl⟩
  | succ j =>
   have := ih j (by simpa using h)
   rw [show (j + 1) * 2 = j * 2 + 1 + 1 by omega]
   simpa using this
theorem ecells_length (l : List (Nat × Nat)) : (ecells l).length = l.length * 2 := by
 induction l with
 | nil => rfl
 | cons x S ih => unfold ecells at ih ⊢;rw [List.flatMap_cons,List.length_append,ih];simp;omega
theorem and_oneN (m : Nat) (h : m < 256) : bits .and .u8 (m : Int) 1 = ((m % 2 : Nat) : Int) := and_one8 ⟨m,h⟩
theorem xor_8 (a b : Nat) (ha : a < 256) (hb : b < 256) : bits .xor .u8 (a : Int) (b : Int) = ((a ^^^ b : Nat) : Int) := by
 have hx : a ^^^ b < 2 ^ 8 := Nat.xor_lt_two_pow (by omega) (by omega)
 have h1 : (BitVec.ofInt 8 (a : Int)).toNat = a := by rw [BitVec.ofInt_natCast,BitVec.toNat_ofNat];exact Nat.mod_eq_of_lt (by omega)
 have h2 : (BitVec.ofInt 8 (b : Int)).toNat = b := by rw [BitVec.ofInt_natCast,BitVec.toNat_ofNat];exact Nat.mod_eq_of_lt (by omega)
 show IntKind.u8.wrap ((BitVec.ofInt 8 (a : Int) ^^^ BitVec.ofInt 8 (b : Int)).toNat : Int) = _
 rw [BitVec.toNat_xor,h1,h2]
 simp [IntKind.wrap,IntKind.bits,IntKind.signed]
 omega
theorem pack_nat (T : List Bool) (j : Nat) (h : j < (T.length + 7) / 8) : ((packB T).map UInt8.toNat)[j]? = some (byteN T j) := by
 rw [List.getElem?_map,packB_at T j h,Option.map_some,UInt8.toNat_ofNat',Nat.mod_eq_of_lt (byteN_lt T j)]
theorem xor_lt (T : List Bool) (j k : Nat) (hk : k < 8) : byteN T j ^^^ 2 ^ k < 256 := Nat.xor_lt_two_pow (n := 8) (byteN_lt T j) (Nat.pow_lt_pow_right (by omega) hk)
theorem pack_turn_nat (T : List Bool) (i : Nat) (hi : i < T.length) : (packB (T.set i (!T.getD i false))).map UInt8.toNat = ((packB T).map UInt8.toNat).set (i / 8) (byteN T (i / 8) ^^^ 2 ^ (i % 8)) := by
 rw [packB_turn T i hi,List.map_set,UInt8.toNat_ofNat',Nat.mod_eq_of_lt (xor_lt T _ _ (by omega))]
def turnV : Option (List Bool) → Value
 | some T => .tuple #[spv T, .int .i64 0]
 | none => .tuple #[.agg #[.int .i64 0, .string ⟨#[]⟩], .int .i64 1]
set_option maxRecDepth 100000 in
set_option maxHeartbeats 2000000 in
theorem turn_any (taken : Bool) (T : List Bool) (l : List (Nat × Nat)) (A : Option Addr) (cap : Nat) (w : World) (hn : T.length ≤ 4096) (hl : Lies w A (ecells l)) (hb : ∀ x ∈ l,x.1 ≤ 2199023255552 ∧ x.2 ≤ 2199023255552) (hll : l.length ≤ 1000000) :
  Calls Tryz.prog 98 #[spv T, .slice A l.length cap, .bool taken] w fun e w' => e = .returned (turnV (turnS taken T l)) ∧ Below w.heap.size w w' := by
 obtain ⟨R,hR⟩ : ∃ R,turnS taken T l = R := ⟨_,rfl⟩
 rw [hR]
 have HRR := Lib.hid hR
 unfold spv
 obtain ⟨X,hX⟩ : ∃ X,mk (packB T) = X := ⟨_,rfl⟩
 obtain ⟨n,hn2⟩ : ∃ n,T.length = n := ⟨_,rfl⟩
 obtain ⟨q,hq⟩ : ∃ n,l.length = n := ⟨_,rfl⟩
 rw [hn2] at hn
 rw [hq] at hll
 rw [hX,hn2,hq]
 have HX := Lib.hid hX
 have HN := Lib.hid hn2
 have HQ := Lib.hid hq
 have HL := Lib.hid hl
 have HBB := Lib.hid hb
 clear hR hX hn2 hq hl hb
 go_enter Tryz.func98,Tryz.ntmps98
 have mixed := mixedT
 have HD0 : Hid (X.data.toList.map UInt8.toNat = (packB T).map UInt8.toNat) := Lib.hid (by rw [← HX.out,mk_data])
 go_wp2_with (with_reducible refine wpList_bytes rfl (.tmp 13) 9 64 5 rfl Tryz.underlying9 Tryz.underlying64 Tryz.underlying5 X rfl ?_;intro cp w1 hbuf hbel hsz)
 have hbW : Below w.heap.size w w1 := (((Below.refl _ w).alloc (Nat.le_refl _) _).alloc (by simp) _).trans (hbel.mono (by simp;omega))
 have hB0 : Blk w1 w.heap.size #[.int .i64 n, .string X] 104 := ((Blk.new w #[.int .i64 n, .string X] 104).alloc _).below hbel
 have hB1 : Blk w1 (w.heap.size + 1) #[.int .i64 0, .string ⟨#[]⟩] 104 := by
  have := (Blk.new (w.alloc (.cells #[.int .i64 n, .string X] 104)) #[.int .i64 0, .string ⟨#[]⟩] 104).below hbel
  rwa [World.size_alloc] at this
 rw [HD0.out] at hbuf
 simp only [World.size_alloc] at hbuf
 obtain ⟨H,hH⟩ : ∃ H,w.heap.size = H := ⟨_,rfl⟩
 obtain ⟨G,hG⟩ : ∃ G,H + 1 + 1 = G := ⟨_,rfl⟩
 have HH := Lib.hid hH
 have hxz : (X.size : Int) = ((n + 7) / 8 : Nat) := by rw [← HX.out,mk_size,packB_length,HN.out]
 obtain ⟨xz,hxz2⟩ : ∃ z,X.size = z := ⟨_,rfl⟩
 have HXZ := Lib.hid (show xz = (n + 7) / 8 by omega)
 simp only [hH,hG,hxz2] at hB0 hB1 hbuf hbW ⊢
 have HB0 := Lib.hid hB0
 have HB1 := Lib.hid hB1
 have HBU := Lib.hid hbuf
 have HBW := Lib.hid hbW
 clear hB0 hB1 hbuf hbW hbel hsz hxz hxz2 HD0 hH
 go_loopw [17] (fun kv wr => ∃ (k : Nat) (U : List Bool),k ≤ q ∧ kv = .int .i64 k ∧ U.length = n ∧ turnS taken U (l.drop k) = R ∧ Buf wr G 5 ((packB U).map UInt8.toNat) ∧ Blk wr H #[.int .i64 n, .string X] 104 ∧ Blk wr (H + 1) #[.int .i64 0, .string ⟨#[]⟩] 104 ∧ Below H w wr) (fun kv _ => q - (intOf kv).toNat)
 case atStart => exact ⟨0,T,by omega,rfl,HN.out,by rw [List.drop_zero];exact HRR.out,HBU.out,HB0.out,HB1.out,HBW.out⟩
 case round =>
  clear HBU HB0 HB1 HBW
  obtain ⟨k,U,hk,rfl,hU,hR,hbu,hB0,hB1,hb⟩ := hrel
  have hwr := hb.size
  have hHw : H ≤ w.heap.size := by rw [HH.out];exact Nat.le_refl _
  have k0 : (0 : Int) ≤ (k : Int) := by omega
  by_cases hkq : k < q
  ·have k1 : (k : Int) < (q : Int) := by omega
   have hkl : k < l.length := by rw [HQ.out];exact hkq
   have hlies := (HL.out.below (B := H) (by rw [HH.out];exact Nat.le_refl _) hb)
   obtain ⟨g,o,rfl,hgl,hcs⟩ := hlies (by rw [ecells_length];omega)
   obtain ⟨e0,e1⟩ := ecells_at l k hkl
   have c0 := hcs _ _ e0
   have c1 := hcs _ _ e1
   obtain ⟨b1,b2⟩ := HBB.out _ (List.getElem_mem hkl)
   have hdr : l.drop k = l[k] :: l.drop (k + 1) := List.drop_eq_getElem_cons hkl
   rw [hdr,turnS] at hR
   obtain ⟨f,hf⟩ : ∃ f,l[k].1 = f := ⟨_,rfl⟩
   obtain ⟨N,hN⟩ : ∃ f,l[k].2 = f := ⟨_,rfl⟩
   rw [hf] at c0 b1 hR
   rw [hN] at c1 b2 hR
   rw [hU] at hR
   rw [← Nat.add_assoc] at c1
   have f0 : (0 : Int) ≤ (f : Int) := by omega
   have N0 : (0 : Int) ≤ (N : Int) := by omega
   have hB1c0 := hB1.cell 0
   have hB1c1 := hB1.cell 1
   have hB1f0 := hB1.frozen 0
   have hB1f1 := hB1.frozen 1
   have hB0c := hB0.cell 0
   have hHl := hB0.lt
   have hH1l := hB1.lt
   simp at hB1c0 hB1c1 hB0c
   by_cases hbad : N < 1 ∨ n < f ∨ n - f < N
   ·rw [if_pos hbad] at hR
    have HRN := Lib.hid hR
    have HB := Lib.hid hb
    clear hR hbu hB0 hB1 hb hlies hcs e0 e1 hdr hf hN
    have fin : ∀ W,Below H w W → Below w.heap.size w W := fun W h => by rw [HH.out];exact h
    have HFI := Lib.hid fin
    by_cases h1 : N < 1
    ·have h1' : (N : Int) < 1 := by omega
     clear hbad fin
     go_wp2
     refine bodyPost_ret (v := .tuple #[.agg #[.int .i64 0, .string ⟨#[]⟩], .int .i64 1]) ?_ rfl ?_
     ·rw [results_cell_tmp Tryz.results98]
      go_simp
     ·refine ⟨by rw [← HRN.out];rfl,HFI.out _ ?_⟩
      exact ((HB.out.setCell (p := ⟨H + 1,0,none⟩) (by simp) _).setCell (p := ⟨H + 1,1,none⟩) (by simp) _).alloc (by simp;omega) _
    ·have h1' : ¬ ((N : Int) < 1) := by omega
     by_cases h2 : n < f
     ·have h2' : (n : Int) < (f : Int) := by omega
      clear hbad fin
      go_wp2
      refine bodyPost_ret (v := .tuple #[.agg #[.int .i64 0, .string ⟨#[]⟩], .int .i64 1]) ?_ rfl ?_
      ·rw [results_cell_tmp Tryz.results98]
       go_simp
      ·refine ⟨by rw [← HRN.out];rfl,HFI.out _ ?_⟩
       exact ((HB.out.setCell (p := ⟨H + 1,0,none⟩) (by simp) _).setCell (p := ⟨H + 1,1,none⟩) (by simp) _).alloc (by simp;omega) _
     ·have h2' : ¬ ((n : Int) < (f : Int)) := by omega
      have h3' : (n : Int) - (f : Int) < (N : Int) := by omega
      clear hbad fin
      go_wp2
      refine bodyPost_ret (v := .tuple #[.agg #[.int .i64 0, .string ⟨#[]⟩], .int .i64 1]) ?_ rfl ?_
      ·rw [results_cell_tmp Tryz.results98]
       go_simp
      ·refine ⟨by rw [← HRN.out];rfl,HFI.out _ ?_⟩
       exact ((HB.out.setCell (p := ⟨H + 1,0,none⟩) (by simp) _).setCell (p := ⟨H + 1,1,none⟩) (by simp) _).alloc (by simp;omega) _
   ·rw [if_neg hbad] at hR
    have n1 : ¬ ((N : Int) < 1) := by omega
    have n2 : ¬ ((n : Int) < (f : Int)) := by omega
    have n3 : ¬ ((n : Int) - (f : Int) < (N : Int)) := by omega
    have hfN : f + N ≤ n := by omega
    have HR1 := Lib.hid hR
    have HBU := Lib.hid (hbu.alloc (.cells #[.int .i64 f, .int .i64 N] 172))
    have HB0 := Lib.hid (hB0.alloc (.cells #[.int .i64 f, .int .i64 N] 172))
    have HB1 := Lib.hid (hB1.alloc (.cells #[.int .i64 f, .int .i64 N] 172))
    have HB := Lib.hid (hb.alloc (by omega) (.cells #[.int .i64 f, .int .i64 N] 172))
    have HZ := Lib.hid (Blk.new wr #[.int .i64 f, .int .i64 N] 172)
    have hGl := hbu.lt
    clear hR hbu hB0 hB1 hb hlies hcs e0 e1 hdr hf hN hbad
    go_wp2
    obtain ⟨Z,hZ⟩ : ∃ Z,wr.heap.size = Z := ⟨_,rfl⟩
    obtain ⟨W2,hW2⟩ : ∃ u,wr.alloc (.cells #[.int .i64 f, .int .i64 N] 172) = u := ⟨_,rfl⟩
    rw [hW2] at HBU HB0 HB1 HB HZ ⊢
    rw [hZ] at HZ hwr hHl hH1l hGl
    simp only [hZ]
    have hUt := Lib.hid hU
    clear hW2 hZ c0 c1 hB1c0 hB1c1 hB1f0 hB1f1 hB0c
    go_loopw [11] (fun iv wx => ∃ (m : Nat) (V : List Bool),m ≤ N ∧ iv = .int .i64 ((f : Int) + (m : Int)) ∧ V.length = n ∧ ((turn1 taken V (f + m) (N - m)).bind fun T' => turnS taken T' (l.drop (k + 1))) = R ∧ Buf wx G 5 ((packB V).map UInt8.toNat) ∧ Blk wx H #[.int .i64 n, .string X] 104 ∧ Blk wx (H + 1) #[.int .i64 0, .string ⟨#[]⟩] 104 ∧ Blk wx Z #[.int .i64 f, .int .i64 N] 172 ∧ Below H w wx) (fun iv _ => N - ((intOf iv).toNat - f))
    case atStart => exact ⟨0,U,by omega,by simp,hUt.out,HR1.out,HBU.out,HB0.out,HB1.out,HZ.out,HB.out⟩
    case round =>
     clear HR1 HBU HB0 HB1 HB HZ
     obtain ⟨m,V,hm,rfl,hV,hR,hbu,hB0,hB1,hZ,hb⟩ := hrel
     have z0 := hZ.cell 0
     have z1 := hZ.cell 1
     have o0 := hB1.cell 0
     have o1 := hB1.cell 1
     have p0 := hB1.frozen 0
     have p1 := hB1.frozen 1
     simp at z0 z1 o0 o1
     have hZl := hZ.lt
     have hH1l := hB1.lt
     obtain ⟨i,hi⟩ : ∃ i,f + m = i := ⟨_,rfl⟩
     have hii : (f : Int) + (m : Int) = (i : Int) := by omega
     rw [hii]
     rw [hi] at hR
     by_cases hmN : m < N
     ·have i0 : (0 : Int) ≤ (i : Int) := by omega
      have i1 : (i : Int) < (f : Int) + (N : Int) := by omega
      rw [show N - m = (N - (m + 1)) + 1 by omega,turn1] at hR
      have hiV : i < V.length := by omega
      obtain ⟨j,hj⟩ : ∃ j,i / 8 = j := ⟨_,rfl⟩
      obtain ⟨t,ht⟩ : ∃ t,i % 8 = t := ⟨_,rfl⟩
      have ht8 : t < 8 := by omega
      have hjl : j < (V.length + 7) / 8 := by omega
      have hjb : j < ((packB V).map UInt8.toNat).length := by rw [List.length_map,packB_length];exact hjl
      have hbv : ((packB V).map UInt8.toNat)[j] = byteN V j := by
       have := pack_nat V j hjl
       rw [List.getElem?_eq_getElem hjb] at this
       exact Option.some.inj this
      have cb := hbu.cell hjb
      have fb := hbu.frozen hjb
      rw [hbv] at cb
      obtain ⟨B,hB⟩ : ∃ B,byteN V j = B := ⟨_,rfl⟩
      have hB256 : B < 256 := by rw [← hB];exact byteN_lt V j
      have hbt : B / 2 ^ t % 2 = bitN V i := by rw [← hB,byteN_bit V j t ht8,show 8 * j + t = i by omega]
      rw [hB] at cb
      have td : (i : Int).tdiv 8 = (j : Int) := by rw [Int.tdiv_eq_ediv_of_nonneg (by omega)];omega
      have tm : (i : Int).tmod 8 = (t : Int) := by rw [Int.tmod_eq_emod_of_nonneg (by omega)];omega
      have j0 : (0 : Int) ≤ (j : Int) := by omega
      have j1 : (j : Int) < (xz : Int) := by have := HXZ.out;omega
      have j2 : (j : Int) ≤ 512 := by omega
      have t0 : (0 : Int) ≤ (t : Int) := by omega
      have t1 : (t : Int) ≤ 8 := by omega
      have hand : bits .and .u8 ((B : Int) / 2 ^ t) 1 = ((bitN V i : Nat) : Int) := by
       rw [show (B : Int) / 2 ^ t = ((B / 2 ^ t : Nat) : Int) by push_cast;rfl,and_oneN _ (Nat.lt_of_le_of_lt (Nat.div_le_self _ _) hB256),hbt]
      have hbit := bitN_eq V i
      obtain ⟨b,hbb⟩ : ∃ b,V.getD i false = b := ⟨_,rfl⟩
      rw [hbb] at hbit hR
      obtain ⟨bn,hbn⟩ : ∃ b,((bitN V i : Nat) : Int) = b := ⟨_,rfl⟩
      rw [hbn] at hand hbit
      have HTN := Lib.hid (pack_turn_nat V i hiV)
      have HBB2 := Lib.hid hbb
      have HJT := Lib.hid (And.intro hj (And.intro ht hB))
      clear hbv hB hj ht hbt hbb hbn
      have HID := Lib.hid (show m < N ∧ V.length = n ∧ f + m = i ∧ i < V.length ∧ B < 256 ∧ t < 8 ∧ j < ((packB V).map UInt8.toNat).length ∧ f + N ≤ n ∧ k < q ∧ k < l.length ∧ G < Z from ⟨hmN,hV,hi,hiV,hB256,ht8,hjb,hfN,hkq,hkl,hGl⟩)
      clear hmN hV hi hiV hB256 ht8 hjb hjl hkq hkl hk hm hU hUt n1 n2 n3 hgl hHw k0 k1 hwr hGl hii
      by_cases he : b = taken
      ·rw [if_pos he] at hR
       subst he
       have HRN := Lib.hid hR
       have HB := Lib.hid hb
       clear hR hbu hB0 hB1 hZ hb
       go_wp2
       refine bodyPost_ret (v := .tuple #[.agg #[.int .i64 0, .string ⟨#[]⟩], .int .i64 1]) ?_ rfl ?_
       ·rw [results_cell_tmp Tryz.results98]
        go_simp
       ·refine ⟨by rw [← HRN.out];rfl, ?_⟩
        rw [HH.out]
        exact (HB.out.setCell (p := ⟨H + 1,0,none⟩) (by simp) _).setCell (p := ⟨H + 1,1,none⟩) (by simp) _
      ·rw [if_neg he] at hR
       have hne : (b == taken) = false := by cases b <;> cases taken <;> simp_all
       have HRN := Lib.hid hR
       have HBU := Lib.hid hbu
       have HB0 := Lib.hid hB0
       have HB1 := Lib.hid hB1
       have HZ := Lib.hid hZ
       have HB := Lib.hid hb
       clear hR hbu hB0 hB1 hZ hb he
       go_upto_region 12 with fail
       have wi : IntKind.i64.wrap (j : Int) = (j : Int) := by rw [Go.IntWalk.i64_left,Go.IntWalk.wrap64_in _ (by omega)]
       obtain ⟨e1,e2,e3,e4,hB256,ht8,hjb,e5,e6,e7,hGZ⟩ := HID.out
       have h256 : 2 ^ t < 2 ^ 8 := Nat.pow_lt_pow_right (by omega) ht8
       have h256 : 2 ^ t < 256 := h256
       have wsh : IntKind.u8.wrap ((2 : Int) ^ t) = ((2 ^ t : Nat) : Int) := by
        rw [show ((2 : Int) ^ t) = ((2 ^ t : Nat) : Int) by push_cast;rfl]
        generalize 2 ^ t = z at h256
        simp [IntKind.wrap,IntKind.bits,IntKind.signed]
        omega
       have hx8 := xor_8 B (2 ^ t) hB256 h256
       have HX8 := Lib.hid (show ((packB (V.set i (!b))).map UInt8.toNat) = ((packB V).map UInt8.toNat).set j (B ^^^ 2 ^ t) by
        have h1 := HTN.out
        rw [HBB2.out,HJT.out.1,HJT.out.2.1,HJT.out.2.2] at h1
        exact h1)
       obtain ⟨Q,hQ⟩ : ∃ Q,2 ^ t = Q := ⟨_,rfl⟩
       rw [hQ] at hx8 HX8
       have wq : IntKind.u8.wrap (Q : Int) = (Q : Int) := by
        have h256 : Q < 256 := by rw [← hQ];exact h256
        simp [IntKind.wrap,IntKind.bits,IntKind.signed]
        omega
       have hq2 : ((2 : Int) ^ t) = (Q : Int) := by rw [← hQ];push_cast;rfl
       clear wsh
       obtain ⟨M,hM⟩ : ∃ M,B ^^^ Q = M := ⟨_,rfl⟩
       rw [hM] at hx8 HX8
       clear hQ hM h256 e1 e2 e3 e4 e5 e6 e7 hB256 ht8
       refine wp_region_S 10 (fun _ => True) (fun w' => w'.cell? ⟨G,j,none⟩ = some (.int .u8 (B : Int))) mixed ?_
       change wpAnyS _ _ _ _ _ _ _ _ _ _ wr.drew
       have cbd : wr.drew.cell? ⟨G,j,none⟩ = some (.int .u8 (B : Int)) := cb
       have fbd : wr.drew.frozen? ⟨G,j,none⟩ = false := fb
       have HBU := Lib.hid (show Buf wr.drew G 5 ((packB V).map UInt8.toNat) from HBU.out)
       have HB0 := Lib.hid (show Blk wr.drew H #[.int .i64 n, .string X] 104 from HB0.out)
       have HB1 := Lib.hid (show Blk wr.drew (H + 1) #[.int .i64 0, .string ⟨#[]⟩] 104 from HB1.out)
       have HZ := Lib.hid (show Blk wr.drew Z #[.int .i64 f, .int .i64 N] 172 from HZ.out)
       have HB := Lib.hid (HB.out.drew)
       obtain ⟨W5,hW5⟩ : ∃ u,wr.drew = u := ⟨_,rfl⟩
       rw [hW5] at cbd fbd HBU HB0 HB1 HZ HB ⊢
       clear hW5 cb fb z0 z1 o0 o1 p0 p1
       have HE0 : ∀ L : Array Bool,HeldS 10 (fun _ => True) (fun w' => w'.cell? ⟨G,j,none⟩ = some (.int .u8 (B : Int))) L W5 := fun L => ⟨trivial,fun _ => cbd⟩
       refine tkS 0 (.slice (some ⟨G,0,none⟩) xz cp) rfl (HE0 _) (fun w' hS => ?_) ?_
       ·clear hS;go_simp
       try go_simp
       refine tkS 1 (.int .i64 i) rfl (HE0 _) (fun w' hS => ?_) ?_
       ·clear hS;go_simp
       try go_simp
       refine tkS 2 (.int .i64 j) rfl (HE0 _) (fun w' hS => ?_) ?_
       ·clear hS;go_simp
       try go_simp
       refine tkS 3 (.pointer (some ⟨G,j,none⟩)) rfl (HE0 _) (fun w' hS => ?_) ?_
       ·clear hS;go_simp
       try go_simp
       refine wpAnyS_take2 (i := 4) (v := .int .u8 B) rfl (by decide) rfl (by kernel_rfl) (by kernel_rfl) (by kernel_rfl) (by kernel_rfl) (by kernel_rfl) (fun c a w h => h) (.inl ⟨by kernel_rfl,fun w' hS => ?_⟩) (HE0 _) ?_
       ·have hS0 := hS.2;go_simp
       try go_simp
       refine tkS 5 (.int .i64 i) rfl (HE0 _) (fun w' hS => ?_) ?_
       ·clear hS;go_simp
       try go_simp
       refine tkS 6 (.int .i64 t) rfl (HE0 _) (fun w' hS => ?_) ?_
       ·clear hS;go_simp
       try go_simp
       refine tkS 7 (.int .u8 Q) rfl (HE0 _) (fun w' hS => ?_) ?_
       ·clear hS;go_simp
       try go_simp
       refine tkS 8 (.int .u8 M) rfl (HE0 _) (fun w' hS => ?_) ?_
       ·clear hS;go_simp
       try go_simp
       refine tkS 9 (.pointer (some ⟨G,j,none⟩)) rfl (HE0 _) (fun w' hS => ?_) ?_
       ·clear hS;go_simp
       try go_simp
       refine wpAnyS_all (rs := [10]) (by kernel_rfl) (by simp) ?_
       intro ix hix
       simp only [List.mem_cons,List.not_mem_nil,or_false] at hix
       subst hix
       unfold wpOp
       go_simp
       have hBU2 := HBU.out.set (i := j) hjb M
       rw [← HX8.out] at hBU2
       have hB02 : Blk (W5.setCell ⟨G,j,none⟩ (.int .u8 (M : Int))) H #[.int .i64 n, .string X] 104 := (Below.heap_setCell W5 ⟨G,j,none⟩ _ H (by simp only;omega)).trans HB0.out
       have hB12 : Blk (W5.setCell ⟨G,j,none⟩ (.int .u8 (M : Int))) (H + 1) #[.int .i64 0, .string ⟨#[]⟩] 104 := (Below.heap_setCell W5 ⟨G,j,none⟩ _ (H + 1) (by simp only;omega)).trans HB1.out
       have hZ2 : Blk (W5.setCell ⟨G,j,none⟩ (.int .u8 (M : Int))) Z #[.int .i64 f, .int .i64 N] 172 := (Below.heap_setCell W5 ⟨G,j,none⟩ _ Z (by simp only;omega)).trans HZ.out
       have hBe2 := HB.out.setCell (p := ⟨G,j,none⟩) (by simp only;omega) (.int .u8 (M : Int))
       have HFN := Lib.hid (And.intro hBU2 (And.intro hB02 (And.intro hB12 (And.intro hZ2 hBe2))))
       have HE1 : ∀ L : Array Bool,L.getD 10 false = true → HeldS 10 (fun _ => True) (fun w' => w'.cell? ⟨G,j,none⟩ = some (.int .u8 (B : Int))) L (W5.setCell ⟨G,j,none⟩ (.int .u8 (M : Int))) := fun L hL => ⟨trivial,fun e => by rw [hL] at e;cases e⟩
       first | refine .inl ⟨HE1 _ (by kernel_rfl), ?_⟩ | refine ⟨HE1 _ (by kernel_rfl), ?_⟩
       refine wpAnyS_done (by kernel_rfl) ?_ _
       clear hBU2 hB02 hB12 hZ2 hBe2 HE0 HE1 cbd fbd hx8 wq hq2 wi hjb td tm
       go_wp2
       go_roundw
       case rel => exact ⟨m + 1,V.set i (!b),by have := HID.out;omega,by rw [show ((f : Int) + ((m + 1 : Nat) : Int)) = (i : Int) + 1 by have := HID.out.2.2.1;omega],by rw [List.length_set];exact HID.out.2.1,by rw [show f + (m + 1) = i + 1 by have := HID.out.2.2.1;omega];exact HRN.out,HFN.out.1,HFN.out.2.1,HFN.out.2.2.1,HFN.out.2.2.2.1,HFN.out.2.2.2.2⟩
       case measure => have := HID.out;simp [intOf];omega
     ·obtain rfl : m = N := by omega
      have i0 : (0 : Int) ≤ (i : Int) := by omega
      have i1 : ¬ ((i : Int) < (f : Int) + (m : Int)) := by omega
      rw [Nat.sub_self,turn1,Option.bind_some] at hR
      have HRN := Lib.hid hR
      have HBU := Lib.hid hbu
      have HB0 := Lib.hid hB0
      have HB1 := Lib.hid hB1
      have HB := Lib.hid hb
      have HVV := Lib.hid hV
      clear hR hbu hB0 hB1 hb hV hZ hii
      go_wp2
      go_roundw
      case rel => exact ⟨k + 1,V,by omega,by go_num,HVV.out,HRN.out,HBU.out,HB0.out,HB1.out,HB.out⟩
      case measure => simp [intOf];omega
  ·obtain rfl : k = q := by omega
   rw [List.drop_eq_nil_of_le (by rw [HQ.out];exact Nat.le_refl _),turnS] at hR
   have o0 := hB1.cell 0
   have o1 := hB1.cell 1
   have p0 := hB1.frozen 0
   have p1 := hB1.frozen 1
   have s0 := hB0.cell 0
   simp at o0 o1 s0
   have hH1l := hB1.lt
   have hHl := hB0.lt
   have hcv : (convert 64 9 (.slice (some ⟨G,0,none⟩) xz cp)).run Tryz.prog wr = .ok (.string (mk (packB U))) wr := by
    have hl : (packB U).length = xz := by rw [packB_length,HXZ.out,hU]
    rw [← hl]
    exact run_convert_bytes_back (P := Tryz.prog) wr 64 9 5 ⟨G,0,none⟩ cp (packB U) Tryz.underlying64 Tryz.underlying5 Tryz.underlying9 (fun j hj => by
     rw [add_lit',Nat.zero_add,hbu.cell (by rw [List.length_map];exact hj),List.getElem_map])
   have HV := Lib.hid (show turnV R = .tuple #[.agg #[.int .i64 n, .string (mk (packB U))], .int .i64 0] by rw [← hR, ← hU];rfl)
   obtain ⟨Y,hY⟩ : ∃ Y,mk (packB U) = Y := ⟨_,rfl⟩
   rw [hY] at hcv HV
   have HB := Lib.hid hb
   clear hR hbu hB0 hB1 hb hY hU
   go_wp2
   refine bodyPost_ret (v := .tuple #[.agg #[.int .i64 n, .string Y], .int .i64 0]) ?_ rfl ?_
   ·rw [results_cell_tmp Tryz.results98]
    go_simp
   ·refine ⟨by rw [HV.out], ?_⟩
    rw [HH.out]
    exact (HB.out.setCell (p := ⟨H + 1,0,none⟩) (by simp) _).setCell (p := ⟨H + 1,1,none⟩) (by simp) _
open Go.RowKit
def extB (l : List (Nat × Nat)) : Bs := l.flatMap fun x => putB x.1 ++ putB x.2
def bodyB (name : Bs) (size : Nat) (l : List (Nat × Nat)) : Bs := (joinB [name] ++ putB size ++ putB l.length) ++ extB l
def entryB (name : Bs) (size : Nat) (l : List (Nat × Nat)) : Bs := fullB (bodyB name size l ++ sumB (crcI (bodyB name size l)))
theorem extB_snoc (l : List (Nat × Nat)) (x : Nat × Nat) : extB (l ++ [x]) = extB l ++ (putB x.1 ++ putB x.2) := by simp [extB]
theorem extB_take (l : List (Nat × Nat)) (k : Nat) : (extB (l.take k)).length ≤ (extB l).length := by
 have : extB l = extB (l.take k) ++ extB (l.drop k) := by unfold extB;rw [← List.flatMap_append,List.take_append_drop]
 rw [this,List.length_append];omega
set_option maxRecDepth 100000 in
set_option maxHeartbeats 4000000 in
theorem entry_any (name : Bs) (en size : Nat) (A : Option Addr) (cap : Nat) (l : List (Nat × Nat)) (w : World) (hA : Lies w A (ecells l)) (hs : size ≤ 1099511627776) (hn : l.length ≤ 1000) (hl : ∀ x ∈ l,x.1 ≤ 1099511627776 ∧ x.2 ≤ 1099511627776) (hb : (bodyB name size l).length ≤ 508) (hT : TB w) (hw : 1 < w.heap.size) :
  Calls Tryz.prog 79 #[.string (mk name), .agg #[.int .i64 en, .int .i64 size, .slice A l.length cap]] w fun e w' => e = .returned (.string (mk (entryB name size l))) ∧ Below w.heap.size w w' := by
 have HBB := Lib.hid (show bodyB name size l = (joinB [name] ++ putB size ++ putB l.length) ++ extB l from rfl)
 have HEB := Lib.hid (show entryB name size l = fullB (bodyB name size l ++ sumB (crcI (bodyB name size l))) from rfl)
 have hlen := hb
 rw [HBB.out,List.length_append,List.length_append,List.length_append] at hlen
 have KJ := fun (B : Nat) (w : World) (hc : w.cell? ⟨B,0,none⟩ = some (.string (mk name))) (hB : B < w.heap.size) => join_any (some ⟨B,0,none⟩) 1 [name] w (fun _ => ⟨B,0,rfl,hB,fun j u hj => by
  have : j = 0 := by
   have := (List.getElem?_eq_some_iff.1 hj).1
   simp [txc] at this
   exact this
  subst this
  simp [txc] at hj
  subst hj
  exact hc⟩) (by simp) (by omega)
 rw [show ([name] : List Bs).length = 1 from rfl] at KJ
 have KP1 := fun w => put_any size w hs
 have KP2 := fun w => put_any l.length w (by omega)
 have hs1 := run_sum (joinB [name]) (putB size) (by omega)
 have hs2 := run_sum (joinB [name] ++ putB size) (putB l.length) (by rw [List.length_append];omega)
 obtain ⟨P,hP⟩ : ∃ q,joinB [name] ++ putB size ++ putB l.length = q := ⟨_,rfl⟩
 rw [hP] at hs2
 have HP := Lib.hid (And.intro hP (show P.length ≤ 508 by rw [← hP,List.length_append,List.length_append];omega))
 have zP := mk_size P
 obtain ⟨X,hX⟩ : ∃ q,mk name = q := ⟨_,rfl⟩
 obtain ⟨J,hJ⟩ : ∃ q,mk (joinB [name]) = q := ⟨_,rfl⟩
 obtain ⟨P1,hP1⟩ : ∃ q,mk (putB size) = q := ⟨_,rfl⟩
 obtain ⟨P2,hP2⟩ : ∃ q,mk (putB l.length) = q := ⟨_,rfl⟩
 obtain ⟨Q,hQ⟩ : ∃ q,mk (joinB [name] ++ putB size) = q := ⟨_,rfl⟩
 obtain ⟨PP,hPP⟩ : ∃ q,mk P = q := ⟨_,rfl⟩
 simp only [hX,hJ] at KJ
 rw [hP1] at KP1
 rw [hP2] at KP2
 rw [hJ,hP1,hQ] at hs1
 rw [hQ,hP2,hPP] at hs2
 rw [hPP] at zP
 rw [hX]
 have HPP := Lib.hid hPP
 obtain ⟨R,hR⟩ : ∃ q,mk (entryB name size l) = q := ⟨_,rfl⟩
 rw [hR]
 have HR := Lib.hid hR
 obtain ⟨n,hnn⟩ : ∃ q,l.length = q := ⟨_,rfl⟩
 rw [hnn] at hn KP2 ⊢
 have HN := Lib.hid hnn
 have HL := Lib.hid hA
 have HLX := Lib.hid hl
 have HT := Lib.hid (And.intro hT hw)
 have HBL := Lib.hid hb
 obtain ⟨B,hBe⟩ : ∃ q,bodyB name size l = q := ⟨_,rfl⟩
 have HBL2 := Lib.hid (show B.length ≤ 508 by rw [← hBe];exact HBL.out)
 have HBS := Lib.hid (show P ++ extB l = B by rw [← hBe,HBB.out,HP.out.1])
 have HEB2 := Lib.hid (show entryB name size l = fullB (B ++ sumB (crcI B)) by rw [← hBe];exact HEB.out)
 clear hBe HEB
 have mixed := mixedT
 clear hA hs hl hb hlen hP hX hJ hP1 hP2 hQ hPP hR hnn hT hw
 go_enter Tryz.func79,Tryz.ntmps79
 go_upto_region 2 with (fail)
 have hB0 := (Blk.new w #[.int .i64 en, .int .i64 size, .slice A n cap] 97).alloc (.cells #[.pointer none, .slice none 0 0] 153)
 have hBu0 := Lib.fresh_isBuilder 153 5 (w.alloc (.cells #[.int .i64 en, .int .i64 size, .slice A n cap] 97))
 rw [World.size_alloc] at hBu0
 have hbw0 := (below_alloc w (.cells #[.int .i64 en, .int .i64 size, .slice A n cap] 97)).alloc (by simp) (.cells #[.pointer none, .slice none 0 0] 153)
 refine wp_region_held (S := fun w' => Blk w' w.heap.size #[.int .i64 en, .int .i64 size, .slice A n cap] 97) mixed ?_
 change wpAnyH _ _ _ _ _ _ _ _ (World.alloc _ _).drew
 have hB1 : Blk ((w.alloc (.cells #[.int .i64 en, .int .i64 size, .slice A n cap] 97)).alloc (.cells #[.pointer none, .slice none 0 0] 153)).drew w.heap.size #[.int .i64 en, .int .i64 size, .slice A n cap] 97 := hB0
 have hBu1 : Lib.IsBuilder 153 5 (w.heap.size + 1) (w.heap.size + 1) [] ((w.alloc (.cells #[.int .i64 en, .int .i64 size, .slice A n cap] 97)).alloc (.cells #[.pointer none, .slice none 0 0] 153)).drew := hBu0
 have hbw1 : Below w.heap.size w ((w.alloc (.cells #[.int .i64 en, .int .i64 size, .slice A n cap] 97)).alloc (.cells #[.pointer none, .slice none 0 0] 153)).drew := hbw0.drew
 have hsz1 : ((w.alloc (.cells #[.int .i64 en, .int .i64 size, .slice A n cap] 97)).alloc (.cells #[.pointer none, .slice none 0 0] 153)).drew.heap.size = w.heap.size + 1 + 1 := by
  show ((w.alloc _).alloc _).heap.size = _
  simp
 obtain ⟨W0,hW0⟩ : ∃ q,((w.alloc (.cells #[.int .i64 en, .int .i64 size, .slice A n cap] 97)).alloc (.cells #[.pointer none, .slice none 0 0] 153)).drew = q := ⟨_,rfl⟩
 rw [hW0] at hB1 hBu1 hbw1 hsz1 ⊢
 clear hW0 hB0 hBu0 hbw0
 obtain ⟨H,hH⟩ : ∃ q,w.heap.size = q := ⟨_,rfl⟩
 rw [hH] at hB1 hBu1 hbw1 hsz1
 have HSZ1 := Lib.hid hsz1
 have hge1 : H ≤ W0.heap.size := by omega
 clear hsz1
 have HH := Lib.hid hH
 try simp only [hH]
 clear hH
 refine tkQ 0 (.string X) rfl hB1 ?_
 try go_simp
 refine tkQ 3 (.pointer (some ⟨H,1,none⟩)) rfl hB1 ?_
 try go_simp
 refine tkH 4 (.int .i64 (size : Int)) rfl hB1 (fun w' hS => ?_) ?_
 ·have q0 := hS.cell 1;simp at q0;go_simp
 try go_simp
 refine tkQ 7 (.pointer (some ⟨H,2,none⟩)) rfl hB1 ?_
 try go_simp
 refine tkH 8 (.slice A n cap) rfl hB1 (fun w' hS => ?_) ?_
 ·have q0 := hS.cell 2;simp at q0;go_simp
 try go_simp
 refine tkQ 9 (.int .i64 (n : Int)) rfl hB1 ?_
 try go_simp
 refine alH 1 ?_
 unfold wpOp
 go_simp
 have hB2 := hB1.alloc (.cells #[.string X] 9)
 have hBu2 := isb_below hBu1 (below_alloc W0 (.cells #[.string X] 9))
 have hbw2 := hbw1.alloc hge1 (.cells #[.string X] 9)
 have hX2 : (W0.alloc (.cells #[.string X] 9)).cell? ⟨W0.heap.size,0,none⟩ = some (.string X) := (Blk.new W0 #[.string X] 9).cell 0
 have hXl : W0.heap.size < (W0.alloc (.cells #[.string X] 9)).heap.size := by simp
 obtain ⟨Z,hZ⟩ : ∃ q,W0.heap.size = q := ⟨_,rfl⟩
 rw [hZ] at hX2 hXl
 try rw [hZ]
 obtain ⟨W1,hW1⟩ : ∃ q,W0.alloc (.cells #[.string X] 9) = q := ⟨_,rfl⟩
 rw [hW1] at hB2 hBu2 hbw2 hX2 hXl ⊢
 clear hW1 hB1 hBu1 hbw1
 first | refine .inl ⟨hB2, ?_⟩ | refine ⟨hB2, ?_⟩ | skip
 refine alH 2 ?_
 unfold wpOp
 go_simp
 refine .inl ?_
 go_at_call 116
 refine (KJ Z W1 hX2 hXl).mono ?_
 rintro e W2 ⟨rfl,hb2⟩
 have hB3 := hB2.below hb2
 have hBu3 := isb_below hBu2 hb2
 have hbw3 := hbw2.trans (hb2.mono (by rw [← HH.out];exact hbw2.size))
 refine ⟨hB3, ?_⟩
 refine alH 5 ?_
 unfold wpOp
 go_simp
 refine .inl ?_
 go_at_call 117
 refine (KP1 W2).mono ?_
 rintro e W3 ⟨rfl,hb3⟩
 have hB4 := hB3.below hb3
 have hBu4 := isb_below hBu3 hb3
 have hbw4 := hbw3.trans (hb3.mono (by rw [← HH.out];exact hbw3.size))
 refine ⟨hB4, ?_⟩
 refine tkQ 6 (.string Q) rfl hB4 ?_
 try go_simp
 refine alH 10 ?_
 unfold wpOp
 go_simp
 refine .inl ?_
 go_at_call 117
 refine (KP2 W3).mono ?_
 rintro e W4 ⟨rfl,hb4⟩
 have hB5 := hB4.below hb4
 have hBu5 := isb_below hBu4 hb4
 have hbw5 := hbw4.trans (hb4.mono (by rw [← HH.out];exact hbw4.size))
 refine ⟨hB5, ?_⟩
 refine tkQ 11 (.string PP) rfl hB5 ?_
 try go_simp
 have hpl := HP.out.2
 have KW := bwrite_any (H + 1) (H + 1) [] PP W4 hBu5 (by rw [zP];simp;omega) (by rcases hBu5 with h | h <;> exact Nat.le_of_lt h.lt)
 refine alH 12 ?_
 unfold wpOp
 go_simp
 refine .inl ?_
 go_at_call 82
 refine KW.mono ?_
 rintro e W5 ⟨rfl,hBu6,hb6,hoth⟩
 have hB6 : Blk W5 H #[.int .i64 en, .int .i64 size, .slice A n cap] 97 := hoth H _ _ _ (by decide) (by omega) hB5
 refine ⟨hB6, ?_⟩
 refine wpAnyH_done (by kernel_rfl) ?_ _
 have hbw6 := hbw5.trans (hb6.mono (by omega))
 have hsc : [] ++ Lib.strCells PP = Lib.byteCells P := by rw [← HPP.out];simp [Lib.strCells,Lib.byteCells,mk_data]
 rw [hsc] at hBu6
 have HBU := Lib.hid hBu6
 have HBW := Lib.hid hbw6
 have HB := Lib.hid hB6
 have c2 := hB6.cell 2
 simp at c2
 clear KJ KP1 KP2 KW hs1 hs2 zP hB2 hBu2 hbw2 hX2 hXl hb2 hB3 hBu3 hbw3 hb3 hB4 hBu4 hbw4 hb4 hB5 hBu5 hbw5 hBu6 hb6 hoth hB6 hbw6 hsc hpl hZ hge1
 go_upto_region 3 with (fail)
 go_wp2
 clear c2
 go_loopw [27] (fun i wr => ∃ k : Nat,k ≤ n ∧ i = .int .i64 k ∧ Lib.IsBuilder 153 5 (H + 1) (H + 1) (Lib.byteCells (P ++ extB (l.take k))) wr ∧ Below H w wr) (fun i _ => n - (intOf i).toNat)
 case atStart => exact ⟨0,Nat.zero_le _,rfl, .inr (by simpa [extB] using HBU.out),HBW.out⟩
 case round =>
  obtain ⟨k,hk,rfl,hbu,hb⟩ := hrel
  have hsz2 : H ≤ wr.heap.size := by have := hb.size;rw [HH.out] at this;exact this
  by_cases hlt2 : k < n
  ·have hkl : k < l.length := by rw [HN.out];exact hlt2
   obtain ⟨g,off,rfl,hgl,hcs⟩ := HL.out (by rw [ecells_length];omega)
   rw [HH.out] at hgl
   obtain ⟨s0,s1⟩ := ecells_at l k hkl
   have d0 := (hb.cell (p := ⟨g,off + k * 2,none⟩) hgl).trans (hcs _ _ s0)
   have d1 := (hb.cell (p := ⟨g,off + (k * 2 + 1),none⟩) hgl).trans (hcs _ _ s1)
   have hgr : g < wr.heap.size := by omega
   obtain ⟨hq1,hq2⟩ := HLX.out l[k] (List.getElem_mem hkl)
   have hsn : P ++ extB (l.take (k + 1)) = (P ++ extB (l.take k)) ++ (putB l[k].1 ++ putB l[k].2) := by
    rw [List.take_succ_eq_append_getElem hkl,extB_snoc,List.append_assoc]
   have hln : (P ++ extB (l.take (k + 1))).length ≤ 508 := by
    have h1 := extB_take l (k + 1)
    have h2 := HBL.out
    rw [HBB.out,List.length_append,HP.out.1] at h2
    rw [List.length_append];omega
   rw [hsn,List.length_append,List.length_append,List.length_append] at hln
   obtain ⟨a,ha⟩ : ∃ z,l[k].1 = z := ⟨_,rfl⟩
   obtain ⟨c,hc⟩ : ∃ z,l[k].2 = z := ⟨_,rfl⟩
   rw [ha] at d0 hq1 hsn hln
   rw [hc, ← Nat.add_assoc] at d1
   rw [hc] at hq2 hsn hln
   have hsum := run_sum (putB a) (putB c) (by omega)
   have KA := fun w => put_any a w hq1
   have KC := fun w => put_any c w hq2
   obtain ⟨T,hT⟩ : ∃ q,P ++ extB (l.take k) = q := ⟨_,rfl⟩
   have hln := (by rw [← hT,List.length_append];exact hln : T.length + ((putB a).length + (putB c).length) ≤ 508)
   rw [hT] at hbu hsn
   have zf := mk_size (putB a ++ putB c)
   obtain ⟨F,hF⟩ : ∃ q,mk (putB a ++ putB c) = q := ⟨_,rfl⟩
   obtain ⟨A1,hA1⟩ : ∃ q,mk (putB a) = q := ⟨_,rfl⟩
   obtain ⟨C1,hC1⟩ : ∃ q,mk (putB c) = q := ⟨_,rfl⟩
   rw [hA1,hC1,hF] at hsum
   rw [hA1] at KA
   rw [hC1] at KC
   rw [hF,List.length_append] at zf
   have hfz : T.length + F.size ≤ 508 := by omega
   have KW := fun (w4 : World) (h4 : Below wr.heap.size wr w4) => bwrite_any (H + 1) (H + 1) (Lib.byteCells T) F w4 (isb_below hbu h4) (by simp [Lib.byteCells];omega) (Nat.le_trans (by rcases hbu with h | h <;> exact Nat.le_of_lt h.lt) h4.size)
   have HFC := Lib.hid (show Lib.byteCells T ++ Lib.strCells F = Lib.byteCells (P ++ extB (l.take (k + 1))) by
    rw [hsn, ← hF];simp [Lib.byteCells,Lib.strCells,mk_data])
   have HZL := Lib.hid (show H + 1 < wr.heap.size from by rcases hbu with h | h <;> exact h.lt)
   have HB := Lib.hid hb
   have k0 : (0 : Int) ≤ (k : Int) := by omega
   have k1 : (k : Int) < (n : Int) := by omega
   clear hb hcs s0 s1 hsn hln ha hc hF hA1 hC1 hT hkl hbu zf hfz hq1 hq2
   go_wp2
   have hZ1 := Blk.new wr #[.int .i64 a, .int .i64 c] 172
   have hA2 := (below_alloc wr (.cells #[.int .i64 a, .int .i64 c] 172)).drew
   obtain ⟨V,hV⟩ : ∃ V,wr.heap.size = V := ⟨_,rfl⟩
   rw [hV] at hZ1
   simp only [hV]
   refine wp_region_held (S := fun w' => Blk w' V #[.int .i64 a, .int .i64 c] 172) mixed ?_
   change wpAnyH _ _ _ _ _ _ _ _ (wr.alloc (.cells #[.int .i64 a, .int .i64 c] 172)).drew
   have hZ2 : Blk (wr.alloc (.cells #[.int .i64 a, .int .i64 c] 172)).drew V _ 172 := hZ1
   obtain ⟨W,hW⟩ : ∃ u,(wr.alloc (.cells #[.int .i64 a, .int .i64 c] 172)).drew = u := ⟨_,rfl⟩
   rw [hW] at hZ2 hA2 ⊢
   have HV := Lib.hid hV
   clear hW hZ1 d0 d1 hV
   refine tkQ 0 (.pointer (some ⟨V,0,none⟩)) rfl hZ2 ?_
   try go_simp
   refine tkH 1 (.int .i64 (a : Int)) rfl hZ2 (fun w' hS => ?_) ?_
   ·have q0 := hS.cell 0;simp at q0;go_simp
   try go_simp
   refine tkQ 3 (.pointer (some ⟨V,1,none⟩)) rfl hZ2 ?_
   try go_simp
   refine tkH 4 (.int .i64 (c : Int)) rfl hZ2 (fun w' hS => ?_) ?_
   ·have q0 := hS.cell 1;simp at q0;go_simp
   try go_simp
   refine alH 2 ?_
   unfold wpOp
   go_simp
   refine .inl ?_
   go_at_call 117
   refine (KA _).mono ?_
   rintro e W1 ⟨rfl,hb1⟩
   have hZ3 := hZ2.below hb1
   have hA3 := hA2.trans (hb1.mono hA2.size)
   refine ⟨hZ3, ?_⟩
   refine alH 5 ?_
   unfold wpOp
   go_simp
   refine .inl ?_
   go_at_call 117
   refine (KC _).mono ?_
   rintro e W2 ⟨rfl,hb2⟩
   have hZ4 := hZ3.below hb2
   have hA4 := hA3.trans (hb2.mono hA3.size)
   refine ⟨hZ4, ?_⟩
   refine tkQ 6 (.string F) rfl hZ4 ?_
   try go_simp
   refine alH 7 ?_
   unfold wpOp
   go_simp
   refine .inl ?_
   go_at_call 82
   refine (KW _ hA4).mono ?_
   rintro e W3 ⟨rfl,hbu3,hb3,hoth⟩
   have hZ5 : Blk W3 V #[.int .i64 a, .int .i64 c] 172 := hoth V _ _ _ (by decide) (by have := HZL.out;have := HV.out;omega) hZ4
   refine ⟨hZ5, ?_⟩
   refine wpAnyH_done (by kernel_rfl) ?_ _
   rw [HFC.out] at hbu3
   have HBU3 := Lib.hid hbu3
   have HBF := Lib.hid ((HB.out.trans (hA4.mono hsz2)).trans (hb3.mono (by omega)))
   clear hZ2 hA2 hb1 hZ3 hA3 hb2 hZ4 hA4 hbu3 hb3 hoth hZ5 KA KC KW hsum
   go_wp2
   go_roundw
   case rel => exact ⟨k + 1,by omega,by go_num, .inr HBU3.out,HBF.out⟩
   case measure => simp [intOf];omega
  ·obtain rfl : n = k := by omega
   rw [List.take_of_length_le (by rw [HN.out];exact Nat.le_refl _),HBS.out] at hbu
   have hzl : H + 1 ≤ wr.heap.size := by rcases hbu with h | h <;> exact Nat.le_of_lt h.lt
   have KS := Tryz.Builder_String_any (H + 1) (H + 1) B wr hbu hzl
   have KC := fun (w' : World) (hT' : TB w') => sum_any B w' hT' (by have := HBL2.out;omega)
   have hbd := crcI_bd B
   rw [show (⟨B.toArray⟩ : ByteArray) = mk B from rfl] at KS
   obtain ⟨C,hC⟩ : ∃ q,crcI B = q := ⟨_,rfl⟩
   rw [hC] at KC hbd HEB2
   obtain ⟨U,hU⟩ : ∃ q,mk B = q := ⟨_,rfl⟩
   rw [hU] at KS KC
   have hTw := HT.out.1.below (by rw [← HH.out];exact HT.out.2) hb
   have HB := Lib.hid hb
   have HTW := Lib.hid hTw
   have HU := Lib.hid hU
   have hH0 : 0 < H := by have := HT.out.2;rw [← HH.out];omega
   obtain ⟨hc0,hc1⟩ := hbd
   clear hbu hb hTw hC hU
   go_wp2_with (first
    | (go_at_call 83;refine KS.mono ?_;rintro e w2 ⟨rfl,hb2⟩;have hT2 := HTW.out.below (by omega) hb2;have K2 := KC w2 hT2;have HB2 := Lib.hid (HB.out.trans (hb2.mono (by omega)));clear hb2 hT2)
    | (go_at_call 118;refine K2.mono ?_;rintro e w3 ⟨rfl,hw3⟩;obtain rfl := hw3.symm))
   go_loopw [8,43] (fun sv i wr => ∃ k : Nat,k ≤ 4 ∧ i = .int .i64 k ∧ sv = .string (mk (B ++ (sumB C).take k)) ∧ Below H w wr) (fun _ i _ => 4 - (intOf i).toNat)
   case atStart => exact ⟨0,by omega,rfl,by rw [List.take_zero,List.append_nil,HU.out],HB2.out⟩
   case round =>
    obtain ⟨k,hk,rfl,rfl,hb⟩ := hrel
    obtain ⟨S1,hS1⟩ : ∃ q,mk (B ++ (sumB C).take k) = q := ⟨_,rfl⟩
    rw [hS1]
    have hk4 : k = 0 ∨ k = 1 ∨ k = 2 ∨ k = 3 ∨ k = 4 := by omega
    have HB := Lib.hid hb
    have hln : B.length ≤ 508 := HBL2.out
    have hszw : H ≤ wr.heap.size := by have := hb.size;rw [HH.out] at this;exact this
    rcases hk4 with rfl | rfl | rfl | rfl | rfl
    ·have hcv := conv_one wr (UInt8.ofNat (C.toNat / 256 ^ 0)) (C % 256) (by rw [← byte_int];omega)
     have hst : B ++ (sumB C).take 1 = (B ++ (sumB C).take 0) ++ [UInt8.ofNat (C.toNat / 256 ^ 0)] := by rw [List.append_assoc];rfl
     have hsum := run_sum (B ++ (sumB C).take 0) [UInt8.ofNat (C.toNat / 256 ^ 0)] (by simp;omega)
     rw [← hst,hS1] at hsum
     obtain ⟨S2,hS2⟩ : ∃ q,mk (B ++ (sumB C).take 1) = q := ⟨_,rfl⟩
     obtain ⟨b1,hb1⟩ : ∃ q,mk [UInt8.ofNat (C.toNat / 256 ^ 0)] = q := ⟨_,rfl⟩
     rw [hb1] at hcv hsum
     rw [hS2] at hsum
     have HS2 := Lib.hid hS2
     clear hS1 hS2 hst hb1 hln hb
     go_wp2
     go_roundw
     case rel => exact ⟨1,by omega,rfl,by rw [HS2.out],HB.out.alloc hszw _⟩
     case measure => simp [intOf]
    ·have hcv := conv_one wr (UInt8.ofNat (C.toNat / 256 ^ 1)) (C / 256 % 256) (by rw [← byte_int];omega)
     have hst : B ++ (sumB C).take 2 = (B ++ (sumB C).take 1) ++ [UInt8.ofNat (C.toNat / 256 ^ 1)] := by rw [List.append_assoc];rfl
     have hsum := run_sum (B ++ (sumB C).take 1) [UInt8.ofNat (C.toNat / 256 ^ 1)] (by simp;omega)
     rw [← hst,hS1] at hsum
     obtain ⟨S2,hS2⟩ : ∃ q,mk (B ++ (sumB C).take 2) = q := ⟨_,rfl⟩
     obtain ⟨b1,hb1⟩ : ∃ q,mk [UInt8.ofNat (C.toNat / 256 ^ 1)] = q := ⟨_,rfl⟩
     rw [hb1] at hcv hsum
     rw [hS2] at hsum
     have HS2 := Lib.hid hS2
     clear hS1 hS2 hst hb1 hln hb
     go_wp2
     go_roundw
     case rel => exact ⟨2,by omega,rfl,by rw [HS2.out],HB.out.alloc hszw _⟩
     case measure => simp [intOf]
    ·have hcv := conv_one wr (UInt8.ofNat (C.toNat / 256 ^ 2)) (C / 65536 % 256) (by rw [← byte_int];omega)
     have hst : B ++ (sumB C).take 3 = (B ++ (sumB C).take 2) ++ [UInt8.ofNat (C.toNat / 256 ^ 2)] := by rw [List.append_assoc];rfl
     have hsum := run_sum (B ++ (sumB C).take 2) [UInt8.ofNat (C.toNat / 256 ^ 2)] (by simp;omega)
     rw [← hst,hS1] at hsum
     obtain ⟨S2,hS2⟩ : ∃ q,mk (B ++ (sumB C).take 3) = q := ⟨_,rfl⟩
     obtain ⟨b1,hb1⟩ : ∃ q,mk [UInt8.ofNat (C.toNat / 256 ^ 2)] = q := ⟨_,rfl⟩
     rw [hb1] at hcv hsum
     rw [hS2] at hsum
     have HS2 := Lib.hid hS2
     clear hS1 hS2 hst hb1 hln hb
     go_wp2
     go_roundw
     case rel => exact ⟨3,by omega,rfl,by rw [HS2.out],HB.out.alloc hszw _⟩
     case measure => simp [intOf]
    ·have hcv := conv_one wr (UInt8.ofNat (C.toNat / 256 ^ 3)) (C / 16777216) (by rw [← byte_int];omega)
     have hst : B ++ (sumB C).take 4 = (B ++ (sumB C).take 3) ++ [UInt8.ofNat (C.toNat / 256 ^ 3)] := by rw [List.append_assoc];rfl
     have hsum := run_sum (B ++ (sumB C).take 3) [UInt8.ofNat (C.toNat / 256 ^ 3)] (by simp;omega)
     rw [← hst,hS1] at hsum
     obtain ⟨S2,hS2⟩ : ∃ q,mk (B ++ (sumB C).take 4) = q := ⟨_,rfl⟩
     obtain ⟨b1,hb1⟩ : ∃ q,mk [UInt8.ofNat (C.toNat / 256 ^ 3)] = q := ⟨_,rfl⟩
     rw [hb1] at hcv hsum
     rw [hS2] at hsum
     have HS2 := Lib.hid hS2
     clear hS1 hS2 hst hb1 hln hb
     go_wp2
     go_roundw
     case rel => exact ⟨4,by omega,rfl,by rw [HS2.out],HB.out.alloc hszw _⟩
     case measure => simp [intOf]
    ·have KD := padded_any (B ++ sumB C) wr (by rw [List.length_append,sumB_length];omega)
     rw [← HEB2.out,HR.out] at KD
     have HS1 := Lib.hid (show mk (B ++ sumB C) = S1 by rw [← hS1];rfl)
     rw [HS1.out] at KD
     clear hS1 hln hb
     go_wp2_with (go_at_call 101;refine KD.mono ?_;rintro e w2 ⟨rfl,hb2⟩)
     go_ret
     refine ⟨rfl, ?_⟩
     rw [HH.out]
     exact HB.out.trans (hb2.mono hszw)
open Go.RowKit Go.Maps Go.WideMaps
structure FileM where
 name : Bs
 entry : Nat
 size : Nat
 ext : List (Nat × Nat)
def rawE (v : Value) : Option (DataW Value × List MemPlace) := some (.held v,[])
theorem rawE_inv {v : Value} {d : DataW Value} {ps : List MemPlace} (h : rawE v = some (d,ps)) : d = .held v := by
 unfold rawE at h
 simp at h
 exact h.1.symm
abbrev AdM := Bs → Option Addr × Nat
def inoV (ad : AdM) (f : FileM) : Value := .agg #[.int .i64 f.entry, .int .i64 f.size, .slice (ad f.name).1 f.ext.length (ad f.name).2]
def inoZ : Value := .agg #[.int .i64 0, .int .i64 0, .slice none 0 0]
theorem keyLaw9 : Keyed Tryz.prog 9 := string_keyed Tryz.underlying9
theorem zero69 (w : World) : (zeroValue 97).run Tryz.prog w = .ok inoZ w := by kernel_rfl
theorem own_tight {H : Type} {P : Program} {k : TypeId} {R : Value → Option (DataW H × List MemPlace)} {w : World} {b n : Nat} {Dm : DataW H} (h : w.ownsMap P k R b n Dm) : w.ownsMap P k R b (Maps.size Dm) Dm := by
 obtain ⟨es,clock,h1,h2,_,rfl⟩ := h
 exact ⟨es,clock,h1,h2,by simp [Maps.size,length_sorted],rfl⟩
def fileOf (F : List FileM) (t : Bs) : Option FileM := F.find? fun f => f.name == t
def FM (w : World) (M : Nat) (ad : AdM) (F : List FileM) : Prop :=
 ∃ Dm : DataW Value,w.ownsMap Tryz.prog 9 rawE M F.length Dm ∧ (F.map (·.name)).Nodup ∧ Maps.size Dm = F.length ∧
  ∀ t : Bs,Maps.has Dm (.string t) = (fileOf F t).isSome ∧ ∀ z,Dm.atKey (.string t) z = ((fileOf F t).map fun f => DataW.held (inoV ad f)).getD z
theorem FM.made (w : World) (ad : AdM) : FM (w.alloc (.map #[] 0)) w.heap.size ad [] := ⟨.map [],World.ownsMap_made _ _ _ _,by simp,rfl,fun t => ⟨rfl,fun z => rfl⟩⟩
theorem FM.kept {w w' : World} {M : Nat} {ad : AdM} {F : List FileM} {row : Option Nat} (h : FM w M ad F) (hg : w.grownBy w' row) (hne : some M ≠ row) : FM w' M ad F := by
 obtain ⟨Dm,h1,h2⟩ := h
 exact ⟨Dm,h1.kept hg hne,h2⟩
theorem FM.lt {w : World} {M : Nat} {ad : AdM} {F : List FileM} (h : FM w M ad F) : M < w.heap.size := by obtain ⟨Dm,h1,_⟩ := h;exact h1.lt
theorem FM.block {w w' : World} {M : Nat} {ad : AdM} {F : List FileM} (h : FM w M ad F) (hb : w'.heap[M]? = w.heap[M]?) : FM w' M ad F := by
 obtain ⟨Dm,⟨es,clock,h1,h3⟩,h2⟩ := h
 exact ⟨Dm,⟨es,clock,hb.trans h1,h3⟩,h2⟩
theorem FM.not_cells {w : World} {M g : Nat} {ad : AdM} {F : List FileM} (h : FM w M ad F) {cs : Array Value} {t : TypeId} {fr : Nat × Nat} (hg : w.heap[g]? = some (.cells cs t fr)) : g ≠ M := by
 obtain ⟨Dm,⟨es,clock,h1,_⟩,_⟩ := h
 rintro rfl
 rw [h1] at hg
 cases hg
theorem FM.look {w : World} {M : Nat} {ad : AdM} {F : List FileM} (h : FM w M ad F) (t : Bs) (ht : t.length ≤ maxLen) :
  (Instr.lookup 105 (.map (some M)) (.string (mk t)) true).run Tryz.prog w = .ok (.tuple #[((fileOf F t).map (inoV ad)).getD inoZ, .bool (fileOf F t).isSome]) w := by
 obtain ⟨Dm,h1,h2,h3,h4⟩ := h
 obtain ⟨v,ps,hrun,hv⟩ := h1.look_ok keyLaw9 Tryz.underlying105 (zero69 w) (zd := .held inoZ) (zp := []) rfl (keyOf_string_mk Tryz.underlying9 (by rw [mk_size];exact ht))
 rw [mk_data] at hrun hv
 rw [(h4 t).2] at hv
 have hv' := rawE_inv hv
 rw [hrun,(h4 t).1]
 cases hf : fileOf F t with
 | none => rw [hf] at hv';simp at hv';rw [hv'];rfl
 | some f =>
  rw [hf] at hv'
  simp only [Option.map_some,Option.getD_some,DataW.held.injEq] at hv'
  rw [← hv'];rfl
theorem FM.len {w : World} {M : Nat} {ad : AdM} {F : List FileM} (h : FM w M ad F) (ty : TypeId) : (Builtin.len_ #[105] ty #[.map (some M)]).run Tryz.prog w = .ok (.int .i64 (F.length : Nat)) w := by
 obtain ⟨Dm,h1,_,h3,_⟩ := h
 rw [h1.len Tryz.underlying105 ty,h3]
def putF (F : List FileM) (f : FileM) : List FileM := if (fileOf F f.name).isSome then F.map fun g => if g.name == f.name then f else g else F ++ [f]
def delF (F : List FileM) (t : Bs) : List FileM := F.filter fun g => !(g.name == t)
theorem fileOf_name {F : List FileM} {t : Bs} {f : FileM} (h : fileOf F t = some f) : f.name = t := by simpa using List.find?_some h
theorem fileOf_mem {F : List FileM} {t : Bs} {f : FileM} (h : fileOf F t = some f) : f ∈ F := List.mem_of_find?_eq_some h
theorem fileOf_none {F : List FileM} {t : Bs} : fileOf F t = none ↔ ∀ f ∈ F,f.name ≠ t := by unfold fileOf;simp [List.find?_eq_none]
theorem putF_names (F : List FileM) (f : FileM) : (putF F f).map (·.name) = if (fileOf F f.name).isSome then F.map (·.name) else F.map (·.name) ++ [f.name] := by
 unfold putF
 split
 ·rw [List.map_map]
  refine List.map_congr_left fun g _ => ?_
  simp only [Function.comp]
  split
  ·rename_i h;exact (by simpa using h : g.name = f.name).symm
  ·rfl
 ·simp
theorem putF_nodup {F : List FileM} {f : FileM} (h : (F.map (·.name)).Nodup) : ((putF F f).map (·.name)).Nodup := by
 rw [putF_names]
 split
 ·exact h
 ·rename_i hn
  rw [List.nodup_append]
  refine ⟨h,by simp,fun a ha b hb e => ?_⟩
  simp at hb
  subst hb
  obtain ⟨g,hg,he⟩ := List.mem_map.1 ha
  have := fileOf_none.1 (by simpa using hn) g hg
  exact this (he.trans e)
theorem putF_length (F : List FileM) (f : FileM) : (putF F f).length = if (fileOf F f.name).isSome then F.length else F.length + 1 := by
 unfold putF;split <;> simp
theorem fileOf_cons (g : FileM) (F : List FileM) (t : Bs) : fileOf (g :: F) t = if g.name = t then some g else fileOf F t := by
 unfold fileOf
 rw [List.find?_cons]
 by_cases h : g.name = t
 ·rw [if_pos h,h];simp
 ·rw [if_neg h,beq_eq_false_iff_ne.2 h]
theorem fileOf_append (F G : List FileM) (t : Bs) : fileOf (F ++ G) t = (fileOf F t).or (fileOf G t) := by unfold fileOf;rw [List.find?_append]
theorem fileOf_map_same (F : List FileM) (f : FileM) : (fileOf F f.name).isSome = true → fileOf (F.map fun g => if g.name == f.name then f else g) f.name = some f := by
 induction F with
 | nil => intro h;cases h
 | cons g F ih =>
  intro h
  rw [List.map_cons,fileOf_cons]
  rw [fileOf_cons] at h
  by_cases hg : g.name = f.name
  ·simp [hg]
  ·rw [if_neg hg] at h
   rw [beq_eq_false_iff_ne.2 hg]
   simp only [Bool.false_eq_true,if_false]
   rw [if_neg hg]
   exact ih h
theorem fileOf_map_other (F : List FileM) (f : FileM) (t : Bs) (h : t ≠ f.name) : fileOf (F.map fun g => if g.name == f.name then f else g) t = fileOf F t := by
 induction F with
 | nil => rfl
 | cons g F ih =>
  rw [List.map_cons,fileOf_cons,fileOf_cons,ih]
  by_cases hg : g.name = f.name
  ·have e : (if g.name == f.name then f else g) = f := if_pos (by simpa using hg)
   rw [e,if_neg (fun e => h e.symm),if_neg (by rw [hg];exact fun e => h e.symm)]
  ·have e : (if g.name == f.name then f else g) = g := if_neg (by simpa using hg)
   rw [e]
theorem fileOf_put_same (F : List FileM) (f : FileM) : fileOf (putF F f) f.name = some f := by
 unfold putF
 split
 ·rename_i h;exact fileOf_map_same F f h
 ·rename_i h
  rw [fileOf_append,show fileOf F f.name = none by simpa using h,fileOf_cons,if_pos rfl];rfl
theorem fileOf_put_other (F : List FileM) (f : FileM) (t : Bs) (h : t ≠ f.name) : fileOf (putF F f) t = fileOf F t := by
 unfold putF
 split
 ·exact fileOf_map_other F f t h
 ·rw [fileOf_append,fileOf_cons,if_neg (fun e => h e.symm)]
  cases fileOf F t <;> rfl
theorem fileOf_del_same (F : List FileM) (t : Bs) : fileOf (delF F t) t = none := by
 rw [fileOf_none]
 intro f hf e
 have := (List.mem_filter.1 hf).2
 simp [e] at this
theorem delF_cons (g : FileM) (F : List FileM) (t : Bs) : delF (g :: F) t = if g.name = t then delF F t else g :: delF F t := by
 unfold delF
 rw [List.filter_cons]
 by_cases h : g.name = t
 ·rw [if_pos h,h];simp
 ·rw [if_neg h,beq_eq_false_iff_ne.2 h];rfl
theorem fileOf_del_other (F : List FileM) (t u : Bs) (h : u ≠ t) : fileOf (delF F t) u = fileOf F u := by
 induction F with
 | nil => rfl
 | cons g F ih =>
  rw [delF_cons,fileOf_cons]
  by_cases hg : g.name = t
  ·rw [if_pos hg,if_neg (by rw [hg];exact fun e => h e.symm)];exact ih
  ·rw [if_neg hg,fileOf_cons,ih]
theorem delF_nodup {F : List FileM} {t : Bs} (h : (F.map (·.name)).Nodup) : ((delF F t).map (·.name)).Nodup := by
 unfold delF
 exact h.sublist ((List.filter_sublist).map _)
theorem delF_none {F : List FileM} {t : Bs} (h : fileOf F t = none) : delF F t = F := by
 unfold delF
 rw [List.filter_eq_self]
 intro f hf
 simpa using fileOf_none.1 h f hf
theorem delF_length {F : List FileM} {t : Bs} (h : (F.map (·.name)).Nodup) : (delF F t).length + (if (fileOf F t).isSome then 1 else 0) = F.length := by
 induction F with
 | nil => rfl
 | cons g F ih =>
  rw [List.map_cons,List.nodup_cons] at h
  have ih := ih h.2
  rw [delF_cons,fileOf_cons,List.length_cons]
  by_cases hg : g.name = t
  ·have hn : fileOf F t = none := fileOf_none.2 fun f hf e => h.1 (List.mem_map.2 ⟨f,hf,by rw [e,hg]⟩)
   rw [if_pos hg,if_pos hg,delF_none hn];rfl
  ·rw [if_neg hg,if_neg hg,List.length_cons];omega
def setAd (ad : AdM) (t : Bs) (p : Option Addr × Nat) : AdM := fun u => if u = t then p else ad u
theorem setAd_same (ad : AdM) (t : Bs) (p : Option Addr × Nat) : setAd ad t p t = p := if_pos rfl
theorem setAd_other (ad : AdM) (t u : Bs) (p : Option Addr × Nat) (h : u ≠ t) : setAd ad t p u = ad u := if_neg h
theorem inoV_other (ad : AdM) (t : Bs) (p : Option Addr × Nat) (f : FileM) (h : f.name ≠ t) : inoV (setAd ad t p) f = inoV ad f := by unfold inoV;rw [setAd_other _ _ _ _ h]
theorem FM.store {w : World} {M : Nat} {ad : AdM} {F : List FileM} (h : FM w M ad F) (f : FileM) (A : Option Addr) (c : Nat) (hn : F.length < maxLen) (ht : f.name.length ≤ maxLen) :
  ∃ w',(Instr.mapUpdate 105 (.map (some M)) (.string (mk f.name)) (.agg #[.int .i64 f.entry, .int .i64 f.size, .slice A f.ext.length c])).run Tryz.prog w = .ok () w' ∧ FM w' M (setAd ad f.name (A,c)) (putF F f) ∧ w.grownBy w' (some M) := by
 obtain ⟨Dm,h1,h2,h3,h4⟩ := h
 have hv : (Value.agg #[.int .i64 f.entry, .int .i64 f.size, .slice A f.ext.length c]) = inoV (setAd ad f.name (A,c)) f := by unfold inoV;rw [setAd_same]
 obtain ⟨w',hrun,hown,hg⟩ := h1.update keyLaw9 Tryz.underlying105 hn (keyOf_string_mk (s := mk f.name) Tryz.underlying9 (by rw [mk_size];exact ht)) (val := .agg #[.int .i64 f.entry, .int .i64 f.size, .slice A f.ext.length c]) (d := .held (inoV (setAd ad f.name (A,c)) f)) (ps := []) (by rw [hv];rfl)
 rw [mk_data] at hown
 have hsz : Maps.size (Dm.put (.string f.name) (.held (inoV (setAd ad f.name (A,c)) f))) = (putF F f).length := by rw [size_put (h1.tidy keyLaw9),(h4 f.name).1,putF_length,h3]
 refine ⟨w',hrun,⟨_,by rw [← hsz];exact own_tight hown,putF_nodup h2,hsz,fun t => ?_⟩,hg⟩
 ·by_cases ht2 : t = f.name
  ·subst ht2
   refine ⟨by rw [has_put_same (k := .string f.name) h1.isMap trivial,fileOf_put_same];rfl,fun z => ?_⟩
   rw [atKey_put_same (k := .string f.name) h1.isMap trivial,fileOf_put_same];rfl
  ·have hne : (Lit.string t) ≠ .string f.name := fun e => ht2 (by injection e)
   refine ⟨by rw [has_put_other hne,(h4 t).1,fileOf_put_other _ _ _ ht2],fun z => ?_⟩
   rw [atKey_put_other hne,(h4 t).2 z,fileOf_put_other _ _ _ ht2]
   cases hf : fileOf F t with
   | none => rfl
   | some g =>
    have := fileOf_name hf
    simp only [Option.map_some,Option.getD_some]
    rw [inoV_other _ _ _ _ (by rw [this];exact ht2)]
theorem FM.drop {w : World} {M : Nat} {ad : AdM} {F : List FileM} (h : FM w M ad F) (t : Bs) (ht : t.length ≤ maxLen) (ty : TypeId) :
  ∃ w',(Builtin.delete_ #[105,9] ty #[.map (some M), .string (mk t)]).run Tryz.prog w = .ok (.tuple #[]) w' ∧ FM w' M ad (delF F t) ∧ w.grownBy w' (some M) := by
 obtain ⟨Dm,h1,h2,h3,h4⟩ := h
 obtain ⟨w',hrun,hown,hg⟩ := h1.drop keyLaw9 Tryz.underlying105 (keyOf_string_mk (s := mk t) Tryz.underlying9 (by rw [mk_size];exact ht)) ty
 rw [mk_data] at hown
 have hsz : Maps.size (Dm.del (.string t)) = (delF F t).length := by
  have a := size_del (k := .string t) (h1.tidy keyLaw9)
  have b := delF_length (t := t) h2
  rw [(h4 t).1] at a
  omega
 refine ⟨w',hrun,⟨_,by rw [← hsz];exact own_tight hown,delF_nodup h2,hsz,fun u => ?_⟩,hg.grown⟩
 ·by_cases hu : u = t
  ·subst hu
   refine ⟨by rw [has_del_same,fileOf_del_same];rfl,fun z => ?_⟩
   rw [atKey_del_same,fileOf_del_same];rfl
  ·have hne : (Lit.string u) ≠ .string t := fun e => hu (by injection e)
   exact ⟨by rw [has_del_other hne,(h4 u).1,fileOf_del_other _ _ _ hu],fun z => by rw [atKey_del_other hne,(h4 u).2 z,fileOf_del_other _ _ _ hu]⟩
open Go.RowKit
theorem turnV_form (R : Option (List Bool)) : ∃ (n : Int) (X : ByteArray) (e : Int),turnV R = .tuple #[.agg #[.int .i64 n, .string X], .int .i64 e] := by
 cases R with
 | none => exact ⟨_,_,_,rfl⟩
 | some T => exact ⟨_,_,_,rfl⟩
theorem below_set {B : Nat} {w w' : World} (h : Below B w w') (b i : Nat) (v : Value) (hb : B ≤ b) : Below B w (w'.setCell ⟨b,i,none⟩ v) := h.setCell (p := ⟨b,i,none⟩) hb v
theorem give_any (T : List Bool) (l : List (Nat × Nat)) (A : Option Addr) (cap : Nat) (w : World) (hn : T.length ≤ 4096) (hl : Lies w A (ecells l)) (hb : ∀ x ∈ l,x.1 ≤ 2199023255552 ∧ x.2 ≤ 2199023255552) (hll : l.length ≤ 1000000) :
  Calls Tryz.prog 54 #[spv T, .slice A l.length cap] w fun e w' => e = .returned (turnV (turnS false T l)) ∧ Below w.heap.size w w' := by
 have K := fun w1 (hl1 : Lies w1 A (ecells l)) => turn_any false T l A cap w1 hn hl1 hb hll
 obtain ⟨n,X,e,hR⟩ := turnV_form (turnS false T l)
 rw [hR] at K ⊢
 unfold spv at K ⊢
 obtain ⟨k,hk⟩ : ∃ k,l.length = k := ⟨_,rfl⟩
 obtain ⟨N,hN⟩ : ∃ k,T.length = k := ⟨_,rfl⟩
 obtain ⟨Y,hY⟩ : ∃ k,mk (packB T) = k := ⟨_,rfl⟩
 rw [hk,hN,hY] at K
 rw [hk,hN,hY]
 have HL := Lib.hid hl
 clear hR hk hN hY hn hb hll hl
 go_enter Tryz.func54,Tryz.ntmps54
 have hb0 : Below w.heap.size w ((w.alloc (.cells #[.int .i64 N, .string Y] 104)).alloc (.cells #[.int .i64 0, .string ⟨#[]⟩] 104)) := ((Below.refl _ w).alloc (Nat.le_refl _) _).alloc (by simp) _
 have HB0 := Lib.hid hb0
 have hl1 := HL.out.below (Nat.le_refl _) hb0
 have HL1 := Lib.hid hl1
 clear hb0 hl1
 have hin : ∀ w1,Below ((w.alloc (.cells #[.int .i64 N, .string Y] 104)).alloc (.cells #[.int .i64 0, .string ⟨#[]⟩] 104)).heap.size ((w.alloc (.cells #[.int .i64 N, .string Y] 104)).alloc (.cells #[.int .i64 0, .string ⟨#[]⟩] 104)) w1 → Blk w1 (w.heap.size + 1) #[.int .i64 0, .string ⟨#[]⟩] 104 := fun w1 hb => by
  have := (Blk.new (w.alloc (.cells #[.int .i64 N, .string Y] 104)) #[.int .i64 0, .string ⟨#[]⟩] 104).below hb
  rwa [World.size_alloc] at this
 have HIN := Lib.hid hin
 clear hin
 go_wp2_with (go_at_call 98;refine (K _ HL1.out).mono ?_;rintro e1 w1 ⟨rfl,hbw⟩;have HW := Lib.hid hbw;have hB1 := HIN.out w1 hbw;clear hbw;have c0 := hB1.cell 0;have c1 := hB1.cell 1;have f0 := hB1.frozen 0;have f1 := hB1.frozen 1;have hl1 := hB1.lt;simp at c0 c1;clear hB1)
 refine bodyPost_ret (v := .tuple #[.agg #[.int .i64 n, .string X], .int .i64 e]) ?_ rfl ?_
 ·rw [results_cell_tmp Tryz.results54]
  go_simp
 ·refine ⟨rfl, ?_⟩
  have hz := (HB0.out.trans (HW.out.mono HB0.out.size))
  exact below_set (below_set hz _ 0 _ (by simp)) _ 1 _ (by simp)
theorem claim_any (T : List Bool) (l : List (Nat × Nat)) (A : Option Addr) (cap : Nat) (w : World) (hn : T.length ≤ 4096) (hl : Lies w A (ecells l)) (hb : ∀ x ∈ l,x.1 ≤ 2199023255552 ∧ x.2 ≤ 2199023255552) (hll : l.length ≤ 1000000) :
  Calls Tryz.prog 97 #[spv T, .slice A l.length cap] w fun e w' => e = .returned (turnV (turnS true T l)) ∧ Below w.heap.size w w' := by
 have K := fun w1 (hl1 : Lies w1 A (ecells l)) => turn_any true T l A cap w1 hn hl1 hb hll
 obtain ⟨n,X,e,hR⟩ := turnV_form (turnS true T l)
 rw [hR] at K ⊢
 unfold spv at K ⊢
 obtain ⟨k,hk⟩ : ∃ k,l.length = k := ⟨_,rfl⟩
 obtain ⟨N,hN⟩ : ∃ k,T.length = k := ⟨_,rfl⟩
 obtain ⟨Y,hY⟩ : ∃ k,mk (packB T) = k := ⟨_,rfl⟩
 rw [hk,hN,hY] at K
 rw [hk,hN,hY]
 have HL := Lib.hid hl
 clear hR hk hN hY hn hb hll hl
 go_enter Tryz.func97,Tryz.ntmps97
 have hb0 : Below w.heap.size w ((w.alloc (.cells #[.int .i64 N, .string Y] 104)).alloc (.cells #[.int .i64 0, .string ⟨#[]⟩] 104)) := ((Below.refl _ w).alloc (Nat.le_refl _) _).alloc (by simp) _
 have HB0 := Lib.hid hb0
 have hl1 := HL.out.below (Nat.le_refl _) hb0
 have HL1 := Lib.hid hl1
 clear hb0 hl1
 have hin : ∀ w1,Below ((w.alloc (.cells #[.int .i64 N, .string Y] 104)).alloc (.cells #[.int .i64 0, .string ⟨#[]⟩] 104)).heap.size ((w.alloc (.cells #[.int .i64 N, .string Y] 104)).alloc (.cells #[.int .i64 0, .string ⟨#[]⟩] 104)) w1 → Blk w1 (w.heap.size + 1) #[.int .i64 0, .string ⟨#[]⟩] 104 := fun w1 hb => by
  have := (Blk.new (w.alloc (.cells #[.int .i64 N, .string Y] 104)) #[.int .i64 0, .string ⟨#[]⟩] 104).below hb
  rwa [World.size_alloc] at this
 have HIN := Lib.hid hin
 clear hin
 go_wp2_with (go_at_call 98;refine (K _ HL1.out).mono ?_;rintro e1 w1 ⟨rfl,hbw⟩;have HW := Lib.hid hbw;have hB1 := HIN.out w1 hbw;clear hbw;have c0 := hB1.cell 0;have c1 := hB1.cell 1;have f0 := hB1.frozen 0;have f1 := hB1.frozen 1;have hl1 := hB1.lt;simp at c0 c1;clear hB1)
 refine bodyPost_ret (v := .tuple #[.agg #[.int .i64 n, .string X], .int .i64 e]) ?_ rfl ?_
 ·rw [results_cell_tmp Tryz.results97]
  go_simp
 ·refine ⟨rfl, ?_⟩
  have hz := (HB0.out.trans (HW.out.mono HB0.out.size))
  exact below_set (below_set hz _ 0 _ (by simp)) _ 1 _ (by simp)

theorem byte_last (T : List Bool) (h : 0 < T.length % 8) : byteN T (T.length / 8) / 2 ^ (T.length % 8) = 0 := by
 have hz : ∀ k,T.length % 8 ≤ k → bitN T (8 * (T.length / 8) + k) = 0 := fun k hk => by
  unfold bitN
  rw [List.getD_eq_getElem?_getD,List.getElem?_eq_none (by omega)]
  rfl
 have hl := bitN_le T
 obtain ⟨r,hr⟩ : ∃ r,T.length % 8 = r := ⟨_,rfl⟩
 obtain ⟨j,hj⟩ : ∃ j,T.length / 8 = j := ⟨_,rfl⟩
 rw [hr,hj] at hz
 rw [hr] at h
 rw [hr,hj]
 have a0 := hl (8 * j);have a1 := hl (8 * j + 1);have a2 := hl (8 * j + 2);have a3 := hl (8 * j + 3)
 have a4 := hl (8 * j + 4);have a5 := hl (8 * j + 5);have a6 := hl (8 * j + 6)
 have hr8 : r = 1 ∨ r = 2 ∨ r = 3 ∨ r = 4 ∨ r = 5 ∨ r = 6 ∨ r = 7 := by omega
 unfold byteN
 rcases hr8 with rfl | rfl | rfl | rfl | rfl | rfl | rfl
 ·rw [hz 1 (by omega),hz 2 (by omega),hz 3 (by omega),hz 4 (by omega),hz 5 (by omega),hz 6 (by omega),hz 7 (by omega)];omega
 ·rw [hz 2 (by omega),hz 3 (by omega),hz 4 (by omega),hz 5 (by omega),hz 6 (by omega),hz 7 (by omega)];omega
 ·rw [hz 3 (by omega),hz 4 (by omega),hz 5 (by omega),hz 6 (by omega),hz 7 (by omega)];omega
 ·rw [hz 4 (by omega),hz 5 (by omega),hz 6 (by omega),hz 7 (by omega)];omega
 ·rw [hz 5 (by omega),hz 6 (by omega),hz 7 (by omega)];omega
 ·rw [hz 6 (by omega),hz 7 (by omega)];omega
 ·rw [hz 7 (by omega)];omega
set_option maxRecDepth 100000 in
theorem sparse_any (T : List Bool) (w : World) (hn : T.length ≤ 4096) : Calls Tryz.prog 106 #[.int .i64 T.length, .string (mk (packB T))] w fun e w' => e = .returned (.tuple #[spv T, .int .i64 0]) ∧ Below w.heap.size w w' := by
 have K := fun w => spnew_any T.length w hn
 have hzl : (mk (packB (List.replicate T.length false))).size = (T.length + 7) / 8 := by rw [mk_size,packB_length,List.length_replicate]
 have hbl := byte_last T
 have hpk := packB_at T
 unfold spv at K ⊢
 rw [List.length_replicate] at K
 obtain ⟨X,hX⟩ : ∃ X,mk (packB T) = X := ⟨_,rfl⟩
 have hxs : X.size = (T.length + 7) / 8 := by rw [← hX,mk_size,packB_length]
 obtain ⟨Z,hZ⟩ : ∃ X,mk (packB (List.replicate T.length false)) = X := ⟨_,rfl⟩
 rw [hZ] at hzl K
 have hbyte : ∀ j,j < X.size → ∃ c : UInt8,c.toNat = byteN T j ∧ ∃ h : j < X.size,X[j]'h = c := fun j hj => by
  refine ⟨UInt8.ofNat (byteN T j),by rw [UInt8.toNat_ofNat',Nat.mod_eq_of_lt (byteN_lt T _)],hj, ?_⟩
  have h1 := packB_at T j (by omega)
  have h2 : X.data.toList[j]? = some (UInt8.ofNat (byteN T j)) := by rw [← hX,mk_data];exact h1
  rw [Array.getElem?_toList,Array.getElem?_eq_getElem (by show j < X.size;omega)] at h2
  exact Option.some.inj h2
 rw [hX]
 obtain ⟨n,hn2⟩ : ∃ n,T.length = n := ⟨_,rfl⟩
 rw [hn2] at hn hzl hbl hxs K
 rw [hn2]
 obtain ⟨r,hr⟩ : ∃ r,n % 8 = r := ⟨_,rfl⟩
 rw [hr] at hbl
 have hr8 : r < 8 := by omega
 have tm : (n : Int).tmod 8 = (r : Int) := by rw [Int.tmod_eq_emod_of_nonneg (by omega)];omega
 have hzx : (Z.size : Int) = (X.size : Int) := by omega
 have hin : ∀ w1,Below (w.alloc (.cells #[.int .i64 0, .string ⟨#[]⟩] 104)).heap.size (w.alloc (.cells #[.int .i64 0, .string ⟨#[]⟩] 104)) w1 → Blk w1 w.heap.size #[.int .i64 0, .string ⟨#[]⟩] 104 := fun w1 hb => (Blk.new w #[.int .i64 0, .string ⟨#[]⟩] 104).below hb
 have HIN := Lib.hid hin
 clear hX hZ hn2 hin hpk
 by_cases hr0 : 0 < r
 ·obtain ⟨c,hcT,hj,hcX⟩ := hbyte (n / 8) (by omega)
  have hsh := hbl hr0
  rw [← hcT] at hsh
  have hxm : ((X.size : Int) - 1) = ((n / 8 : Nat) : Int) := by omega
  obtain ⟨j,hjj⟩ : ∃ j,n / 8 = j := ⟨_,rfl⟩
  have hjn : j ≤ 512 := by omega
  rw [hjj] at hxm
  have hj' : j < X.size := by omega
  have hcX' : X[j]'hj' = c := by subst hjj;exact hcX
  have hshi : ((c.toNat : Int) / 2 ^ r) = 0 := by
   have : ((c.toNat / 2 ^ r : Nat) : Int) = 0 := by rw [hsh];rfl
   simpa using this
  have hj0 : (0 : Int) ≤ (j : Int) := by omega
  have hj1 : (j : Int) < (X.size : Int) := by omega
  have r0 : (0 : Int) < (r : Int) := by omega
  have r1 : (0 : Int) ≤ (r : Int) := by omega
  have r2 : (r : Int) ≤ 8 := by omega
  clear hbl hbyte hsh hcT hr hjj hcX hj hzl hxs
  go_enter Tryz.func106,Tryz.ntmps106
  go_wp2_with (go_at_call 107;refine (K _).mono ?_;rintro e1 w1 ⟨rfl,hbw⟩;have HW := Lib.hid hbw;have hB1 := HIN.out w1 hbw;clear hbw;have c0 := hB1.cell 0;have c1 := hB1.cell 1;have f0 := hB1.frozen 0;have f1 := hB1.frozen 1;have hl1 := hB1.lt;simp at c0 c1;clear hB1)

  refine bodyPost_ret (v := .tuple #[.agg #[.int .i64 n, .string X], .int .i64 0]) ?_ rfl ?_
  ·rw [results_cell_tmp Tryz.results106]
   go_simp
  ·refine ⟨rfl, ?_⟩
   have hz := (below_alloc w (.cells #[.int .i64 0, .string ⟨#[]⟩] 104)).trans (HW.out.mono (by simp))
   exact (below_set (below_set hz _ 0 _ (Nat.le_refl _)) _ 1 _ (Nat.le_refl _)).alloc (by simp;omega) _
 ·obtain rfl : r = 0 := by omega
  rw [Int.ofNat_zero] at tm
  clear hbl hbyte hr hzl hxs
  go_enter Tryz.func106,Tryz.ntmps106
  go_wp2_with (go_at_call 107;refine (K _).mono ?_;rintro e1 w1 ⟨rfl,hbw⟩;have HW := Lib.hid hbw;have hB1 := HIN.out w1 hbw;clear hbw;have c0 := hB1.cell 0;have c1 := hB1.cell 1;have f0 := hB1.frozen 0;have f1 := hB1.frozen 1;have hl1 := hB1.lt;simp at c0 c1;clear hB1)
  refine bodyPost_ret (v := .tuple #[.agg #[.int .i64 n, .string X], .int .i64 0]) ?_ rfl ?_
  ·rw [results_cell_tmp Tryz.results106]
   go_simp
  ·refine ⟨rfl, ?_⟩
   have hz := (below_alloc w (.cells #[.int .i64 0, .string ⟨#[]⟩] 104)).trans (HW.out.mono (by simp))
   exact (below_set (below_set hz _ 0 _ (Nat.le_refl _)) _ 1 _ (Nat.le_refl _)).alloc (by simp;omega) _
open Go.RowKit Go.Shelf
variable {F : Fence} {n : Nat} {P : Program}

def Stops {α : Type} (F : Fence) (n : Nat) (P : Program) (gf : Nat) (first lb : Array Value) (encs : α → Array Value) (Kp : World → World → Prop) (R : List α → α → Prop) (S Sp : List α → Prop) (w : World) : Prop :=
 ∀ (l : Nat) (J Jx : List α → World → Prop) (W : World),Below w.heap.size w W → AbidesFrom W.heap.size J → AbidesFrom W.heap.size Jx →
  (∀ pre x W1,J pre W1 → R pre x → YieldAt F (n - 1) P l (encs x) W1 fun e W' => (e = .returned (.bool true) ∧ J (pre ++ [x]) W' ∧ Kp W1 W') ∨ (e = .returned (.bool false) ∧ Jx (pre ++ [x]) W')) →
  J [] W → CallsIn F n P gf (first ++ #[.func (.yield l) #[] #[]] ++ lb) W fun e W' => (∃ v,e = .returned v) ∧ ((∃ xs,S xs ∧ J xs W') ∨ (∃ pre,Sp pre ∧ Jx pre W'))

def NoCells (W : World) (l : Nat) : Prop := ∃ o,W.heap[l]? = some o ∧ o.isCells = false ∧ o.isWalk = false

theorem wpIn_range_first {α : Type} {g : Operand} {ps : Array Tmp} {assign body : Code} {Q : Exit → Act → World → Prop} {a : Act} {w : World}
  (hro : F.round = none) (h1 : 1 ≤ n) {gf : Nat} {first lb : Array Value} (hg : a.eval g = .func (.func gf) first lb) (hFg : F.fn gf) (eg : ∀ args w,(callFunc gf args).run P w = .ok (.enter gf args) w)
  {encs : α → Array Value} {Kp : World → World → Prop} {R : List α → α → Prop} {S Sp : List α → Prop} {w0 : World} (hseq : Stops F (n - 1) P gf first lb encs Kp R S Sp w0)
  (hKt : ∀ {A B C : World},Kp A B → Kp B C → Kp A C) (hKb : ∀ (W : World) (l : Nat) (o o' : Obj),w.heap.size ≤ l → W.heap[l]? = some o → o.isCells = false → o.isWalk = false → Kp W (W.putObj l o')) (hb0 : Below w0.heap.size w0 w) (hps : ∀ x,(encs x).size = ps.size)
  (I : List α → World → Prop) (Ix : Code → List α → World → Prop) (hI : OwnFrom w.heap.size I) (hIx : ∀ c,OwnFrom w.heap.size (Ix c)) (h0 : I [] w)
  (hround : ∀ (l : Nat) (pre : List α) (x : α) (W : World),I pre W → R pre x → assign.wpIn (F.inRound l) (n - 1 - 1) P (Exit.then (fun a₁ w₁ => KeepsOthers W w₁ ∧ ∀ l' o',w.heap.size ≤ l' → NoCells w₁ l' →
    body.wpIn (F.inRound l) (n - 1 - 1) P (ownPostK (fun _ W' => Kp W W') I Ix (pre ++ [x]) (w₁.putObj l' o')) a₁ (w₁.putObj l' o')) (fun _ _ _ => False)) { tmps := (ps.zip (encs x)).foldl (fun t (p,v) => t.setIfInBounds p v) a.tmps,defers := [] } W)
  (hdone : ∀ (D : Nat) (xs : List α) (W : World),w.heap.size ≤ D → S xs → I xs W → W.heap[D]? = some (.deferred (some [])) → Q .normal { a with defers := { target := .collected D,args := #[] } :: a.defers } W)
  (hstop : ∀ (D : Nat) (c : Code) (pre : List α) (W : World),w.heap.size ≤ D → Sp pre → Ix c pre W → W.heap[D]? = some (.deferred (some [])) → c.wpIn F n P Q { a with defers := { target := .collected D,args := #[] } :: a.defers } W) :
  (Code.rangeFunc g ps assign body).wpIn F n P Q a w := by
 refine wpIn_rangeFunc ?_
 intro fn hfn
 rw [hro]
 obtain ⟨rec,hrec⟩ : ∃ rec : LoopState → Option Code → Loop,rec = fun st pe => { state := st,pending := pe,fn,tmps := a.tmps,params := ps,assign,body,defers := w.heap.size } := ⟨_,rfl⟩
 obtain ⟨W1,hW1⟩ : ∃ W1,(w.alloc (.deferred (some []))).alloc (.loop (rec .ready none)) = W1 := ⟨_,rfl⟩
 have hz1 : W1.heap.size = w.heap.size + 1 + 1 := by rw [← hW1];simp
 have hL1 : W1.heap[w.heap.size + 1]? = some (.loop (rec .ready none)) := by
  rw [← hW1];have := World.alloc_heap_new (w.alloc (.deferred (some []))) (.loop (rec .ready none));rwa [World.size_alloc] at this
 have hK1 : W1.heap[w.heap.size]? = some (.deferred (some [])) := by
  rw [← hW1];exact (Below.heap_alloc _ _ _ (by simp)).trans (World.alloc_heap_new w _)
 have hI1 : I [] W1 := by rw [← hW1];exact hI.alloc _ (hI.alloc _ h0)
 have hb1 : Below w0.heap.size w0 W1 := by
  rw [← hW1];exact hb0.trans ((((Below.refl _ w).alloc (Nat.le_refl _) _).alloc (by simp) _).mono hb0.size)
 refine ⟨w.heap.size + 1,[{ target := .collected w.heap.size,args := #[] }],W1, { target := .fn (.func gf) lb,args := first ++ #[.func (.yield (w.heap.size + 1)) #[] #[]] },W1,gf,first ++ #[.func (.yield (w.heap.size + 1)) #[] #[]] ++ lb,W1, ?_, ?_, ?_, ?_,fun _ => h1, ?_⟩
 ·rw [← hW1,hrec];exact run_enterLoop_outer _ _ _ _ _
 ·simp only [resolve,hg]
  simp [go_sem]
 ·intro f' hf';simp [Target.leads] at hf';subst hf';exact hFg
 ·show (callFunc gf _).run P W1 = _
  exact eg _ _
 have hnw : ∀ {A : World} {row : Option Nat},(∀ r,row = some r → W1.heap.size ≤ r ∧ ∃ o : Obj,A.heap[r]? = some o ∧ o.isWalk = true) → (∀ r,row = some r → w.heap.size ≤ r ∧ ∃ o : Obj,A.heap[r]? = some o ∧ o.isCells = false) :=
  fun hr r e => by obtain ⟨hB',o,ho,hw⟩ := hr r e;exact ⟨by omega,o,ho,Obj.not_cells_of_walk hw⟩
 refine (hseq (w.heap.size + 1)
  (fun pre W => I pre W ∧ W.heap[w.heap.size + 1]? = some (.loop (rec .ready none)) ∧ W.heap[w.heap.size]? = some (.deferred (some [])))
  (fun pre W => ∃ c,Ix c pre W ∧ W.heap[w.heap.size + 1]? = some (.loop (rec .done (some c))) ∧ W.heap[w.heap.size]? = some (.deferred (some [])))
  W1 hb1
  (fun s A A' row hs hg' hr => ⟨hI s A A' row hs.1 hg' (hnw hr),(grownBy_keeps hg' (fun r e => (hr r e).2) hs.2.1 rfl).trans hs.2.1,(grownBy_keeps hg' (fun r e => (hr r e).2) hs.2.2 rfl).trans hs.2.2⟩)
  (fun s A A' row ⟨c,hc,hl,hk⟩ hg' hr => ⟨c,hIx c s A A' row hc hg' (hnw hr),(grownBy_keeps hg' (fun r e => (hr r e).2) hl rfl).trans hl,(grownBy_keeps hg' (fun r e => (hr r e).2) hk rfl).trans hk⟩)
  ?_ ⟨hI1,hL1,hK1⟩).mono ?_
 ·rintro pre x W ⟨hi,hl,hk⟩ hR
  have hy := run_yield (P := P) (args := encs x) hl (by rw [hrec];exact hps x)
  rw [hrec] at hy
  refine ⟨fn,_,assign,body,hy,roundIn_of_wpIn hfn (wpIn_mono (hround (w.heap.size + 1) pre x W hi hR) ?_)⟩
  rintro e a1 w1 hp
  cases e with
  | normal =>
   obtain ⟨hko,hbody⟩ := hp
   have hl1 := hko.same _ _ hl rfl
   have hk1 := hko.same _ _ hk rfl
   have hlt : w.heap.size + 1 < w1.heap.size := (Array.getElem?_eq_some_iff.1 hl1).1
   refine ⟨_,run_beginRound hl1 (by rw [hrec]), ?_⟩
   have hl2 : (w1.putObj (w.heap.size + 1) (.loop { rec .ready none with state := .busy })).heap[w.heap.size + 1]? = some (.loop { rec .ready none with state := .busy }) := World.putObj_heap_same hlt
   have hk2 : (w1.putObj (w.heap.size + 1) (.loop { rec .ready none with state := .busy })).heap[w.heap.size]? = some (.deferred (some [])) := (World.putObj_heap_other (by omega)).trans hk1
   have fin : ∀ (jump : Option Code) (W3 : World),KeepsOthers (w1.putObj (w.heap.size + 1) (.loop { rec .ready none with state := .busy })) W3 →
     (Instr.endRound (w.heap.size + 1) jump).run P W3 = .ok (.bool jump.isNone) (W3.putObj (w.heap.size + 1) (.loop (rec (if jump.isNone then .ready else .done) jump))) ∧
     W3.heap[w.heap.size + 1]? = some (.loop { rec .ready none with state := .busy }) ∧
     (W3.putObj (w.heap.size + 1) (.loop (rec (if jump.isNone then .ready else .done) jump))).heap[w.heap.size + 1]? = some (.loop (rec (if jump.isNone then .ready else .done) jump)) ∧
     (W3.putObj (w.heap.size + 1) (.loop (rec (if jump.isNone then .ready else .done) jump))).heap[w.heap.size]? = some (.deferred (some [])) := fun jump W3 hk3 => by
    have hl3 := hk3.same _ _ hl2 rfl
    have := run_endRound (P := P) jump hl3
    rw [hrec] at this ⊢
    exact ⟨this,by rw [hrec] at hl3;exact hl3,World.putObj_heap_same (Array.getElem?_eq_some_iff.1 hl3).1,(World.putObj_heap_other (by omega)).trans (hk3.same _ _ hk2 rfl)⟩
   refine wpIn_mono (hbody _ _ (by omega) ⟨_,hl1,rfl,rfl⟩) ?_
   have out : ∀ (c : Code) (W3 : World),KeepsOthers (w1.putObj (w.heap.size + 1) (.loop { rec .ready none with state := .busy })) W3 → Ix c (pre ++ [x]) W3 →
     ∃ v w4,(Instr.endRound (w.heap.size + 1) (some c)).run P W3 = .ok v w4 ∧ ((Ending.returned v = .returned (.bool true) ∧ (I (pre ++ [x]) w4 ∧ w4.heap[w.heap.size + 1]? = some (.loop (rec .ready none)) ∧ w4.heap[w.heap.size]? = some (.deferred (some []))) ∧ Kp W w4) ∨
      (Ending.returned v = .returned (.bool false) ∧ ∃ c,Ix c (pre ++ [x]) w4 ∧ w4.heap[w.heap.size + 1]? = some (.loop (rec .done (some c))) ∧ w4.heap[w.heap.size]? = some (.deferred (some [])))) := fun c W3 hk3 hi3 => by
    obtain ⟨hr,hl3,hl4,hk4⟩ := fin (some c) W3 hk3
    exact ⟨_,_,hr, .inr ⟨rfl,c,(hIx c).putObj _ hi3 (by omega) hl3 rfl,hl4,hk4⟩⟩
   rintro e a3 W3 hp
   cases e with
   | normal =>
    obtain ⟨hk3,hkp3,hi3⟩ := hp
    obtain ⟨hr,hl3,hl4,hk4⟩ := fin none W3 hk3
    exact ⟨_,_,hr, .inl ⟨rfl,⟨hI.putObj _ hi3 (by omega) hl3 rfl,hl4,hk4⟩,hKt hkp3 (hKb _ _ _ _ (by omega) hl3 rfl rfl)⟩⟩
   | ret => exact out _ _ hp.1 hp.2
   | exit id => exact out _ _ hp.1 hp.2
   | goto t => exact out _ _ hp.1 hp.2
   | panic ch => exact hp.elim
   | outgrown => exact hp.elim
  | _ => exact hp.elim
 ·rintro e W2 ⟨⟨v,rfl⟩,(⟨xs,hS,hi,hl,hk⟩ | ⟨pre,hSp,c,hi,hl,hk⟩)⟩
  ·exact ⟨none,_,by have := run_endLoop (P := P) hl (by rw [hrec];simp);rw [hrec] at this;exact this,hdone _ xs _ (Nat.le_refl _) hS (hI.putObj _ hi (by omega) hl rfl) ((World.putObj_heap_other (by omega)).trans hk)⟩
  ·exact ⟨some c,_,by have := run_endLoop (P := P) hl (by rw [hrec];simp);rw [hrec] at this;exact this,hstop _ c pre _ (Nat.le_refl _) hSp ((hIx c).putObj _ hi (by omega) hl rfl) ((World.putObj_heap_other (by omega)).trans hk)⟩

def KeepCells (t : TypeId) (D : Nat) (W W' : World) : Prop := W.heap.size ≤ W'.heap.size ∧ ∀ k cs fr,D ≤ k → W.heap[k]? = some (.cells cs t fr) → W'.heap[k]? = some (.cells cs t fr)
theorem KeepCells.refl (t : TypeId) (D : Nat) (W : World) : KeepCells t D W W := ⟨Nat.le_refl _,fun _ _ _ _ h => h⟩
theorem KeepCells.trans {t : TypeId} {D : Nat} {A B C : World} (h : KeepCells t D A B) (k : KeepCells t D B C) : KeepCells t D A C := ⟨Nat.le_trans h.1 k.1,fun i cs fr hi ho => k.2 i cs fr hi (h.2 i cs fr hi ho)⟩
theorem KeepCells.alloc {t : TypeId} {D : Nat} {A B : World} (h : KeepCells t D A B) (o : Obj) : KeepCells t D A (B.alloc o) := ⟨by have := h.1;simp;omega,fun k cs fr hk ho => (Below.heap_alloc B o k (Array.getElem?_eq_some_iff.1 (h.2 k cs fr hk ho)).1).trans (h.2 k cs fr hk ho)⟩
theorem KeepCells.drew {t : TypeId} {D : Nat} {A B : World} (h : KeepCells t D A B) : KeepCells t D A B.drew := h
theorem KeepCells.setCell {t : TypeId} {D : Nat} {A B : World} (h : KeepCells t D A B) {p : Addr} (hp : p.block < D ∨ ∃ cs t' fr,B.heap[p.block]? = some (.cells cs t' fr) ∧ t' ≠ t) (v : Value) : KeepCells t D A (B.setCell p v) :=
 ⟨by simpa using h.1,fun k cs fr hk ho => (Below.heap_setCell B p v k (by
  rintro rfl
  rcases hp with hp | ⟨cs',t',fr',hp,hne⟩
  ·omega
  ·have := hp.symm.trans (h.2 _ cs fr hk ho)
   simp at this
   exact hne this.2.1)).trans (h.2 k cs fr hk ho)⟩
theorem KeepCells.grown {t : TypeId} {D : Nat} {A B C : World} {row : Option Nat} (h : KeepCells t D A B) (hg : B.grownBy C row) (hr : ∀ g,row = some g → ∃ cs t' fr,B.heap[g]? = some (.cells cs t' fr) ∧ t' ≠ t) : KeepCells t D A C :=
 ⟨Nat.le_trans h.1 hg.size,fun k cs fr hk ho => (hg.block k (Array.getElem?_eq_some_iff.1 (h.2 k cs fr hk ho)).1 (fun e => by
  obtain ⟨cs',t',fr',hp,hne⟩ := hr k e.symm
  have := hp.symm.trans (h.2 _ cs fr hk ho)
  simp at this
  exact hne this.2.1)).trans (h.2 k cs fr hk ho)⟩
theorem KeepCells.putObj {t : TypeId} {D : Nat} {A : World} (W : World) (l : Nat) (o o' : Obj) (hA : KeepCells t D A W) (h : W.heap[l]? = some o) (ho : o.isCells = false) : KeepCells t D A (W.putObj l o') :=
 ⟨by simpa [World.putObj] using hA.1,fun k cs fr hk hu => by
  have hu := hA.2 k cs fr hk hu
  have : k ≠ l := by rintro rfl;rw [h] at hu;cases hu;cases ho
  exact (World.putObj_heap_other (by omega)).trans hu⟩
theorem abides_alloc {β : Type} {B : Nat} {J : β → World → Prop} (hJ : AbidesFrom B J) {s : β} {W : World} (h : J s W) (o : Obj) : J s (W.alloc o) :=
 hJ s W _ none h (World.grownBy_alloc W o none) (fun r e => by cases e)
open Go.RowKit Go.Shelf
attribute [local go_sem] Oper.semAt_some
def runs : List Bool → Nat → Nat → List (Nat × Nat)
 | [],i,c => if c = 0 then [] else [(i - c,c)]
 | true :: T,i,c => (if c = 0 then [] else [(i - c,c)]) ++ runs T (i + 1) 0
 | false :: T,i,c => runs T (i + 1) (c + 1)
theorem runs_stop (T : List Bool) (t c : Nat) (h : t = T.length ∨ T[t]? = some true) : runs (T.drop t) t c = (if c = 0 then [] else [(t - c,c)]) ++ runs (T.drop (t + 1)) (t + 1) 0 := by
 rcases h with rfl | h
 ·rw [List.drop_eq_nil_of_le (Nat.le_refl _),List.drop_eq_nil_of_le (by omega),runs,runs]
  simp
 ·obtain ⟨hl,ht⟩ := List.getElem?_eq_some_iff.1 h
  rw [List.drop_eq_getElem_cons hl,ht,runs]
theorem runs_step (T : List Bool) (t c : Nat) (h : T[t]? = some false) : runs (T.drop t) t c = runs (T.drop (t + 1)) (t + 1) (c + 1) := by
 obtain ⟨hl,ht⟩ := List.getElem?_eq_some_iff.1 h
 rw [List.drop_eq_getElem_cons hl,ht,runs]
abbrev encX (x : Nat × Nat) : Array Value := #[.agg #[.int .i64 x.1, .int .i64 x.2]]
theorem abides_below {β : Type} {B : Nat} {J : β → World → Prop} (hJ : AbidesFrom B J) {s : β} {W W' : World} (h : J s W) (hb : Below W.heap.size W W') : J s W' :=
 hJ s W W' none h ⟨hb.os,hb.tape,hb.output,hb.size,fun k hk _ => hb.block k hk⟩ (fun r e => by cases e)
set_option maxRecDepth 100000 in
set_option maxHeartbeats 1000000 in
theorem free_stops (T : List Bool) (w : World) (hn : T.length ≤ 4096) : Stops Fence.wide 5 Tryz.prog 96 #[spv T] #[] encX (KeepCells 104 w.heap.size) (fun pre x => pre ++ [x] <+: runs T 0 0) (fun xs => xs = runs T 0 0) (fun pre => pre <+: runs T 0 0) w := by
 intro l J Jx W hW hJ hJx hY h0
 have HASK := fun i hi w => has_sp T i w hi hn
 unfold spv at HASK ⊢
 obtain ⟨X,hX⟩ : ∃ X,mk (packB T) = X := ⟨_,rfl⟩
 obtain ⟨n,hn2⟩ : ∃ n,T.length = n := ⟨_,rfl⟩
 rw [hX,hn2] at HASK ⊢
 rw [hn2] at hn
 have HSZ := Lib.hid hW.size
 obtain ⟨RR,hRR⟩ : ∃ R,runs T 0 0 = R := ⟨_,rfl⟩
 rw [hRR]
 rw [hRR] at hY
 have HY := Lib.hid hY
 have HJ := Lib.hid hJ
 have HJX := Lib.hid hJx
 have HST := Lib.hid (fun t c h => runs_stop T t c h)
 have HSP := Lib.hid (fun t c h => runs_step T t c h)
 have H0 := Lib.hid h0
 have HN := Lib.hid hn2
 have HR := Lib.hid hRR
 clear hX hn2 hY hJ hJx h0 hRR hW
 refine callsIn_of_wp Tryz.func96 rfl trivial ?_ rfl
 simp only [Tryz.ntmps96,List.size_toArray,List.length_cons,List.length_nil,Nat.reduceAdd,Nat.reduceSub,Array.replicate_succ,Array.replicate_zero,List.push_toArray,List.append_toArray,List.nil_append,List.cons_append]
 gi_wp2
 obtain ⟨Z,hZ⟩ : ∃ Z,W.heap.size = Z := ⟨_,rfl⟩
 have hwz : w.heap.size ≤ Z := hZ ▸ HSZ.out
 simp only [hZ]
 gi_loopw [4] (fun fv wr => ∃ (f : Nat) (pre : List (Nat × Nat)),f ≤ n + 1 ∧ fv = .int .i64 f ∧ pre ++ runs (T.drop f) f 0 = RR ∧ J pre wr ∧ Blk wr Z #[.int .i64 n, .string X] 104) (fun fv _ => n + 1 - (intOf fv).toNat)
 case atStart => exact ⟨0,[],by omega,rfl,HR.out,abides_alloc HJ.out H0.out _,hZ ▸ Blk.new W _ 104⟩
 case round =>
  obtain ⟨f,pre,hf,rfl,hpre,hJs,hB⟩ := hrel
  have c0 := hB.cell 0
  have c1 := hB.cell 1
  have hl := hB.lt
  simp at c0 c1
  have f0 : (0 : Int) ≤ (f : Int) := by omega
  have HP1 := Lib.hid hpre
  have HJS := Lib.hid hJs
  have HB := Lib.hid hB
  clear hpre hJs hB
  by_cases hfn : f < n
  ·have f1 : (f : Int) < (n : Int) := by omega
   gi_wp2
   gi_loopw [5] (fun tv wr => ∃ (t : Nat),f ≤ t ∧ t ≤ n ∧ tv = .int .i64 t ∧ runs (T.drop t) t (t - f) = runs (T.drop f) f 0 ∧ J pre wr ∧ Blk wr Z #[.int .i64 n, .string X] 104) (fun tv _ => n - (intOf tv).toNat)
   case atStart => exact ⟨f,by omega,by omega,rfl,by rw [Nat.sub_self],HJS.out,HB.out⟩
   case round =>
    clear HJS HB c0 c1 hl
    obtain ⟨t,ht,htn,rfl,hrt,hJs,hB⟩ := hrel
    have t0 : (0 : Int) ≤ (t : Int) := by omega
    have hpre := HP1.out
    rw [← hrt] at hpre
    have HRT := Lib.hid hrt
    clear hrt
    by_cases htl : t < n
    ·have t1 : (t : Int) < (n : Int) := by omega
     have c0 := hB.cell 0
     have c1 := hB.cell 1
     have hl := hB.lt
     simp at c0 c1
     obtain ⟨b,hb⟩ : ∃ b,T.getD t false = b := ⟨_,rfl⟩
     have htT : T[t]? = some b := by
      rw [List.getD_eq_getElem?_getD,List.getElem?_eq_getElem (by rw [HN.out];exact htl)] at hb
      rw [List.getElem?_eq_getElem (by rw [HN.out];exact htl)]
      simpa using hb
     have KH := HASK t htl wr
     rw [hb] at KH
     have HTT := Lib.hid htT
     have HP := Lib.hid hpre
     have HJS := Lib.hid hJs
     have HB := Lib.hid hB
     clear hpre hJs hB hb htT
     gi_wp2_with fail
     refine ⟨trivial, ?_⟩
     refine (callsIn_wide.2 KH).mono ?_
     rintro e w1 ⟨rfl,hbw⟩
     have HJ1 := Lib.hid (abides_below HJ.out HJS.out hbw)
     have HB1 := Lib.hid (HB.out.below hbw)
     clear hbw HJS HB c0 c1 hl KH
     cases b with
     | false =>
      gi_wp2
      go_roundw
      case rel => exact ⟨t + 1,by omega,by omega,by simp,by rw [show t + 1 - f = t - f + 1 by omega, ← HSP.out t (t - f) HTT.out];exact HRT.out,HJ1.out,HB1.out⟩
      case measure => simp [intOf];omega
     | true =>
      have HP2 := Lib.hid (show pre ++ ((if t - f = 0 then [] else [(t - (t - f),t - f)]) ++ runs (T.drop (t + 1)) (t + 1) 0) = RR by rw [← HST.out t (t - f) (.inr HTT.out)];exact HP.out)
      clear HP HTT
      by_cases hgt : f < t
      ·obtain ⟨c,hc⟩ : ∃ c,t - f = c := ⟨_,rfl⟩
       have hc0 : c ≠ 0 := by omega
       have hpf : pre ++ [(f,c)] ++ runs (T.drop (t + 1)) (t + 1) 0 = RR := by
        have h := HP2.out
        rw [hc,if_neg hc0,show t - c = f by omega] at h
        rw [List.append_assoc];exact h
       have HPF := Lib.hid hpf
       have hcd : (t : Int) - (f : Int) = (c : Int) := by omega
       have hft : (f : Int) < (t : Int) := by omega
       obtain ⟨fn,tmps,assign,body,hy,hR⟩ := HY.out pre (f,c) _ HJ1.out ⟨_,hpf⟩
       dsimp only [encX] at hy
       have HT1 := Lib.hid (And.intro ht htn)
       clear hpf hc0 hc HP2 ht htn
       gi_wp2
       refine hR.mono ?_
       rintro e W3 (⟨rfl,hJ3,hk3⟩ | ⟨rfl,hJx3⟩)
       ·have hB3 : Hid (Blk W3 Z #[.int .i64 n, .string X] 104) := Lib.hid (hk3.2 Z _ _ hwz HB1.out)
        have HJ3 := Lib.hid hJ3
        clear hk3 hJ3 hy
        gi_wp2
        go_roundw
        case rel => exact ⟨t + 1,_,by have := HT1.out;omega,by simp,HPF.out,HJ3.out,hB3.out⟩
        case measure => have := HT1.out;simp [intOf];omega
       ·gi_wp2
        refine bodyPost_ret (results_none rfl _ _ _) rfl ?_
        exact ⟨⟨_,rfl⟩, .inr ⟨_,⟨_,HPF.out⟩,hJx3⟩⟩
      ·obtain rfl : f = t := by omega
       have HPF := Lib.hid (show pre ++ runs (T.drop (f + 1)) (f + 1) 0 = RR by
        have h := HP2.out
        rw [Nat.sub_self,if_pos rfl] at h
        exact h)
       have HT1 := Lib.hid htn
       clear HP2 ht htn
       gi_wp2
       refine ⟨fun _ h => (by cases h), ?_⟩
       gi_wp2
       go_roundw
       case rel => exact ⟨f + 1,pre,by have := HT1.out;omega,by simp,HPF.out,HJ1.out,HB1.out⟩
       case measure => have := HT1.out;simp [intOf];omega
    ·obtain rfl : t = n := by omega
     have HP2 := Lib.hid (show pre ++ ((if t - f = 0 then [] else [(t - (t - f),t - f)]) ++ runs (T.drop (t + 1)) (t + 1) 0) = RR by rw [← HST.out t (t - f) (.inl HN.out.symm)];exact hpre)
     have HJ1 := Lib.hid hJs
     have HB1 := Lib.hid hB
     have c0 := hB.cell 0
     have c1 := hB.cell 1
     have hl := hB.lt
     simp at c0 c1
     have t1 : ¬ ((t : Int) < (t : Int)) := by omega
     clear hpre hJs hB HP1
     gi_wp2
     refine ⟨trivial, ?_⟩
     clear c0 c1
     by_cases hgt : f < t
     ·obtain ⟨c,hc⟩ : ∃ c,t - f = c := ⟨_,rfl⟩
      have hc0 : c ≠ 0 := by omega
      have hpf : pre ++ [(f,c)] ++ runs (T.drop (t + 1)) (t + 1) 0 = RR := by
       have h := HP2.out
       rw [hc,if_neg hc0,show t - c = f by omega] at h
       rw [List.append_assoc];exact h
      have HPF := Lib.hid hpf
      have hcd : (t : Int) - (f : Int) = (c : Int) := by omega
      have hft : (f : Int) < (t : Int) := by omega
      obtain ⟨fn,tmps,assign,body,hy,hR⟩ := HY.out pre (f,c) _ HJ1.out ⟨_,hpf⟩
      dsimp only [encX] at hy
      have HT1 := Lib.hid (And.intro ht htn)
      clear hpf hc0 hc HP2 ht htn
      gi_wp2
      refine hR.mono ?_
      rintro e W3 (⟨rfl,hJ3,hk3⟩ | ⟨rfl,hJx3⟩)
      ·have hB3 : Hid (Blk W3 Z #[.int .i64 t, .string X] 104) := Lib.hid (hk3.2 Z _ _ hwz HB1.out)
       have HJ3 := Lib.hid hJ3
       clear hk3 hJ3 hy
       gi_wp2
       go_roundw
       case rel => exact ⟨t + 1,_,by have := HT1.out;omega,by simp,HPF.out,HJ3.out,hB3.out⟩
       case measure => have := HT1.out;simp [intOf];omega
      ·gi_wp2
       refine bodyPost_ret (results_none rfl _ _ _) rfl ?_
       exact ⟨⟨_,rfl⟩, .inr ⟨_,⟨_,HPF.out⟩,hJx3⟩⟩
     ·omega
  ·obtain hfn' : n ≤ f := by omega
   have f1 : ¬ ((f : Int) < (n : Int)) := by omega
   have HPF := Lib.hid (show pre = RR by
    have h := HP1.out
    rw [List.drop_eq_nil_of_le (by rw [HN.out];exact hfn'),runs,if_pos rfl,List.append_nil] at h
    exact h)
   clear HP1
   gi_wp2
   go_end0
   rw [← HPF.out];exact ⟨⟨_,rfl⟩, .inl HJS.out⟩
def sumN (l : List (Nat × Nat)) : Nat := (l.map Prod.snd).sum
theorem sumN_snoc (l : List (Nat × Nat)) (x : Nat × Nat) : sumN (l ++ [x]) = sumN l + x.2 := by simp [sumN]
theorem sumN_cons (l : List (Nat × Nat)) (x : Nat × Nat) : sumN (x :: l) = x.2 + sumN l := by simp [sumN]
def trimR : List (Nat × Nat) → Nat → List (Nat × Nat) × Nat
 | [],k => ([],k)
 | x :: l,k => if k = 0 then ([],0) else ((x.1,min x.2 k) :: (trimR l (k - min x.2 k)).1,(trimR l (k - min x.2 k)).2)
theorem trimR_zero (l : List (Nat × Nat)) : trimR l 0 = ([],0) := by cases l <;> simp [trimR]
theorem trimR_pre (pre rest : List (Nat × Nat)) : ∀ k,sumN pre < k → trimR (pre ++ rest) k = (pre ++ (trimR rest (k - sumN pre)).1,(trimR rest (k - sumN pre)).2) := by
 induction pre with
 | nil => intro k _;simp [sumN]
 | cons x pre ih =>
  intro k hk
  rw [sumN_cons] at hk ⊢
  rw [List.cons_append,trimR,if_neg (by omega),Nat.min_eq_left (by omega),ih _ (by omega),show k - x.2 - sumN pre = k - (x.2 + sumN pre) by omega]
  rfl
theorem trimR_stop (pre rest : List (Nat × Nat)) (x : Nat × Nat) (k : Nat) (h : sumN pre < k) (h2 : k ≤ sumN pre + x.2) : trimR (pre ++ x :: rest) k = (pre ++ [(x.1,k - sumN pre)],0) := by
 rw [trimR_pre pre _ k h,trimR,if_neg (by omega),Nat.min_eq_right (by omega),Nat.sub_self,trimR_zero]
theorem trimR_all (l : List (Nat × Nat)) (k : Nat) (h : sumN l < k) : trimR l k = (l,k - sumN l) := by
 have := trimR_pre l [] k h
 rw [List.append_nil] at this
 rw [this]
 simp [trimR]
def Rise : Nat → List (Nat × Nat) → Prop
 | _,[] => True
 | lo,x :: l => lo ≤ x.1 ∧ Rise (x.1 + x.2) l
theorem Rise.mono : ∀ {l : List (Nat × Nat)} {a b : Nat},Rise a l → b ≤ a → Rise b l
 | [],_,_,_,_ => trivial
 | _ :: _,_,_,h,hb => ⟨Nat.le_trans hb h.1,h.2⟩
theorem runs_good (T : List Bool) : ∀ (R : List Bool) (i c : Nat),T.drop i = R → c ≤ i → (∀ j,i - c ≤ j → j < i → T.getD j true = false) →
  Rise (i - c) (runs R i c) ∧ ∀ x ∈ runs R i c,1 ≤ x.2 ∧ i - c ≤ x.1 ∧ x.1 + x.2 ≤ T.length ∧ ∀ j,x.1 ≤ j → j < x.1 + x.2 → T.getD j true = false := by
 intro R
 have hfit : ∀ i c,(c = 0 ∨ i ≤ T.length) → c ≤ i → (∀ j,i - c ≤ j → j < i → T.getD j true = false) →
   Rise (i - c) (if c = 0 then [] else [(i - c,c)]) ∧ ∀ x ∈ (if c = 0 then [] else [(i - c,c)]),1 ≤ x.2 ∧ i - c ≤ x.1 ∧ x.1 + x.2 ≤ T.length ∧ x.1 + x.2 ≤ i ∧ ∀ j,x.1 ≤ j → j < x.1 + x.2 → T.getD j true = false := by
  intro i c hl hc hf
  by_cases h0 : c = 0
  ·rw [if_pos h0];exact ⟨trivial,fun x hx => by simp at hx⟩
  ·rw [if_neg h0]
   refine ⟨⟨Nat.le_refl _,trivial⟩,fun x hx => ?_⟩
   simp only [List.mem_singleton] at hx
   subst hx
   exact ⟨by show 1 ≤ c;omega,Nat.le_refl _,by show i - c + c ≤ _;rcases hl with h | h <;> omega,by show i - c + c ≤ _;omega,fun j h1 h2 => hf j h1 (by simp only at h2;omega)⟩
 induction R with
 | nil =>
  intro i c hd hc hf
  have hlen : c = 0 ∨ i ≤ T.length := by
   by_cases h0 : c = 0
   ·exact .inl h0
   ·refine .inr ?_
    have := hf (i - 1) (by omega) (by omega)
    rcases Nat.lt_or_ge (i - 1) T.length with h | h
    ·omega
    ·rw [List.getD_eq_getElem?_getD,List.getElem?_eq_none h] at this
     cases this
  obtain ⟨h1,h2⟩ := hfit i c hlen hc hf
  rw [runs]
  exact ⟨h1,fun x hx => ⟨(h2 x hx).1,(h2 x hx).2.1,(h2 x hx).2.2.1,(h2 x hx).2.2.2.2⟩⟩
 | cons b R ih =>
  intro i c hd hc hf
  have hil : i < T.length := by
   rcases Nat.lt_or_ge i T.length with h | h
   ·exact h
   ·rw [List.drop_eq_nil_of_le h] at hd;cases hd
  have hdc := List.drop_eq_getElem_cons hil
  rw [hd] at hdc
  obtain ⟨hb,hR⟩ := List.cons.inj hdc
  cases b with
  | true =>
   obtain ⟨h1,h2⟩ := hfit i c (.inr (by omega)) hc hf
   obtain ⟨k1,k2⟩ := ih (i + 1) 0 hR.symm (by omega) (fun j h h' => by omega)
   rw [runs]
   refine ⟨?_,fun x hx => ?_⟩
   ·by_cases h0 : c = 0
    ·rw [if_pos h0,List.nil_append]
     exact k1.mono (by omega)
    ·rw [if_neg h0]
     exact ⟨Nat.le_refl _,k1.mono (by show i - c + c ≤ _;omega)⟩
   ·rcases List.mem_append.1 hx with hx | hx
    ·exact ⟨(h2 x hx).1,(h2 x hx).2.1,(h2 x hx).2.2.1,(h2 x hx).2.2.2.2⟩
    ·have := k2 x hx
     exact ⟨this.1,by have := this.2.1;omega,this.2.2.1,this.2.2.2⟩
  | false =>
   rw [runs]
   have := ih (i + 1) (c + 1) hR.symm (by omega) (fun j h h' => by
    by_cases e : j = i
    ·subst e
     rw [List.getD_eq_getElem?_getD,List.getElem?_eq_getElem hil, ← hb];rfl
    ·exact hf j (by omega) (by omega))
   rw [show i + 1 - (c + 1) = i - c by omega] at this
   exact this
theorem runs_all (T : List Bool) : Rise 0 (runs T 0 0) ∧ ∀ x ∈ runs T 0 0,1 ≤ x.2 ∧ x.1 + x.2 ≤ T.length ∧ ∀ j,x.1 ≤ j → j < x.1 + x.2 → T.getD j true = false := by
 obtain ⟨h1,h2⟩ := runs_good T T 0 0 rfl (Nat.le_refl _) (fun j h h' => by omega)
 exact ⟨h1,fun x hx => ⟨(h2 x hx).1,(h2 x hx).2.2.1,(h2 x hx).2.2.2⟩⟩
theorem trimR_good (p : Nat → Prop) (n : Nat) : ∀ (l : List (Nat × Nat)) (lo k : Nat),Rise lo l → (∀ x ∈ l,1 ≤ x.2 ∧ x.1 + x.2 ≤ n ∧ ∀ j,x.1 ≤ j → j < x.1 + x.2 → p j) →
  Rise lo (trimR l k).1 ∧ ∀ x ∈ (trimR l k).1,1 ≤ x.2 ∧ x.1 + x.2 ≤ n ∧ ∀ j,x.1 ≤ j → j < x.1 + x.2 → p j := by
 intro l
 induction l with
 | nil => intro lo k h1 h2;exact ⟨trivial,fun x hx => by simp [trimR] at hx⟩
 | cons x l ih =>
  intro lo k h1 h2
  rw [trimR]
  by_cases h0 : k = 0
  ·rw [if_pos h0];exact ⟨trivial,fun x hx => by simp at hx⟩
  ·rw [if_neg h0]
   obtain ⟨a1,a2,a3⟩ := h2 x (List.mem_cons_self ..)
   obtain ⟨i1,i2⟩ := ih (x.1 + x.2) (k - min x.2 k) h1.2 (fun y hy => h2 y (List.mem_cons_of_mem _ hy))
   refine ⟨⟨h1.1,i1.mono (by show x.1 + min x.2 k ≤ _;omega)⟩,fun y hy => ?_⟩
   rcases List.mem_cons.1 hy with rfl | hy
   ·exact ⟨by show 1 ≤ min x.2 k;omega,by show x.1 + min x.2 k ≤ n;omega,fun j hj hj2 => a3 j hj (by simp only at hj2;omega)⟩
   ·exact i2 y hy
theorem turn1_free : ∀ (m : Nat) (T : List Bool) (i : Nat),i + m ≤ T.length → (∀ j,i ≤ j → j < i + m → T.getD j true = false) →
  ∃ T',turn1 true T i m = some T' ∧ T'.length = T.length ∧ ∀ j,T'.getD j true = (T.getD j true || decide (i ≤ j ∧ j < i + m)) := by
 intro m
 induction m with
 | zero => intro T i _ _;exact ⟨T,rfl,rfl,fun j => by simp;intro h1 h2;omega⟩
 | succ m ih =>
  intro T i hl hf
  have h0 := hf i (Nat.le_refl _) (by omega)
  have hil : i < T.length := by omega
  have h0' : T.getD i false = false := by
   rw [List.getD_eq_getElem?_getD,List.getElem?_eq_getElem hil] at h0 ⊢;exact h0
  have hset : ∀ j,(T.set i true).getD j true = (T.getD j true || decide (j = i)) := fun j => by
   rw [List.getD_eq_getElem?_getD,List.getD_eq_getElem?_getD,List.getElem?_set]
   by_cases e : i = j
   ·subst e;simp [hil]
   ·rw [if_neg e];simp [Ne.symm e]
  obtain ⟨T',h1,h2,h3⟩ := ih (T.set i true) (i + 1) (by rw [List.length_set];omega) (fun j hj hj2 => by rw [hset,hf j (by omega) (by omega)];simp;omega)
  refine ⟨T', ?_,by rw [h2,List.length_set],fun j => ?_⟩
  ·rw [turn1,h0',if_neg (by simp)]
   exact h1
  ·rw [h3,hset]
   by_cases e : j = i
   ·subst e;simp
   ·cases T.getD j true
    ·rw [decide_eq_false e]
     simp only [Bool.false_or]
     exact decide_eq_decide.2 (by constructor <;> intro h <;> omega)
    ·simp
theorem turnS_free : ∀ (l : List (Nat × Nat)) (T : List Bool) (lo : Nat),Rise lo l → (∀ x ∈ l,1 ≤ x.2 ∧ x.1 + x.2 ≤ T.length ∧ ∀ j,x.1 ≤ j → j < x.1 + x.2 → T.getD j true = false) →
  ∃ T',turnS true T l = some T' ∧ T'.length = T.length ∧ ∀ j,T'.getD j true = (T.getD j true || l.any fun x => decide (x.1 ≤ j ∧ j < x.1 + x.2)) := by
 intro l
 induction l with
 | nil => intro T lo _ _;exact ⟨T,rfl,rfl,fun j => by simp⟩
 | cons x l ih =>
  intro T lo hr hx
  obtain ⟨a1,a2,a3⟩ := hx x (List.mem_cons_self ..)
  obtain ⟨T1,b1,b2,b3⟩ := turn1_free x.2 T x.1 a2 a3
  have hlow : ∀ (l : List (Nat × Nat)) (lo : Nat),Rise lo l → ∀ y ∈ l,lo ≤ y.1 := by
   intro l
   induction l with
   | nil => intro lo _ y hy;simp at hy
   | cons z l ih =>
    intro lo h y hy
    rcases List.mem_cons.1 hy with rfl | hy
    ·exact h.1
    ·have := ih _ h.2 y hy
     have := h.1
     omega
  obtain ⟨T',c1,c2,c3⟩ := ih T1 (x.1 + x.2) hr.2 (fun y hy => by
   obtain ⟨d1,d2,d3⟩ := hx y (List.mem_cons_of_mem _ hy)
   have hlo := hlow l _ hr.2 y hy
   refine ⟨d1,by rw [b2];exact d2,fun j h1 h2 => ?_⟩
   rw [b3,d3 j h1 h2]
   simp
   omega)
  refine ⟨T', ?_,by rw [c2,b2],fun j => ?_⟩
  ·rw [turnS,if_neg (by omega),b1];exact c1
  ·rw [c3,b3,List.any_cons,Bool.or_assoc]
def takeS (T : List Bool) (k most : Nat) : Option (List (Nat × Nat) × List Bool) :=
 if 0 < (trimR (runs T 0 0) k).2 ∨ most < (trimR (runs T 0 0) k).1.length then none else (turnS true T (trimR (runs T 0 0) k).1).map fun T' => ((trimR (runs T 0 0) k).1,T')
theorem take_claims (T : List Bool) (k : Nat) : ∃ T',turnS true T (trimR (runs T 0 0) k).1 = some T' ∧ T'.length = T.length ∧ ∀ j,T'.getD j true = (T.getD j true || (trimR (runs T 0 0) k).1.any fun x => decide (x.1 ≤ j ∧ j < x.1 + x.2)) := by
 obtain ⟨h1,h2⟩ := runs_all T
 obtain ⟨h3,h4⟩ := trimR_good (fun j => T.getD j true = false) T.length _ _ k h1 h2
 exact turnS_free _ T 0 h3 h4
theorem runs_length_sum : ∀ (R : List Bool) (i c : Nat),(runs R i c).length ≤ R.length + c ∧ sumN (runs R i c) ≤ R.length + c := by
 intro R
 induction R with
 | nil => intro i c;rw [runs];split <;> simp [sumN] <;> omega
 | cons b R ih =>
  intro i c
  cases b with
  | true =>
   have := ih (i + 1) 0
   rw [runs]
   split
   ·simp;omega
   ·rw [List.singleton_append,List.length_cons,sumN_cons];simp;omega
  | false =>
   have := ih (i + 1) (c + 1)
   rw [runs]
   simp;omega
section
variable {P : Program} {ops : Array Oper} {Q : Exit → Act → World → Prop} {md : Region.Mode} {st s2 : Nat} {C1 C2 C3 : World → Prop}
def HeldT (st s2 : Nat) (C1 C2 C3 : World → Prop) (L : Array Bool) (w : World) : Prop := C1 w ∧ (L.getD st false = false → C2 w) ∧ (L.getD s2 false = false → C3 w)
def wpAnyT (P : Program) (md : Region.Mode) (ops : Array Oper) (Q : Exit → Act → World → Prop) (st s2 : Nat) (C1 C2 C3 : World → Prop) : Nat → Array Bool → Act → World → Prop
 | 0,L,a,w => Region.ready md ops L = [] ∧ Q .normal a w
 | fuel + 1,L,a,w => (Region.ready md ops L = [] → Q .normal a w) ∧
  ∀ i ∈ Region.ready md ops L,wpOp P ops Q i (fun a' w' => HeldT st s2 C1 C2 C3 (L.setIfInBounds i true) w' ∧ wpAnyT P md ops Q st s2 C1 C2 C3 fuel (L.setIfInBounds i true) a' w') a w
theorem wpAny_of_T : ∀ (fuel : Nat) (L : Array Bool) (a : Act) (w : World),wpAnyT P md ops Q st s2 C1 C2 C3 fuel L a w → wpAny P md ops Q fuel L a w
 | 0,_,_,_,h => h
 | fuel + 1,_,_,_,h => ⟨h.1,fun i hi => wpOp_mono (fun a' w' h' => wpAny_of_T fuel _ a' w' h'.2) (h.2 i hi)⟩
theorem heldT_set {i : Nat} (hne : i ≠ st) (hne2 : i ≠ s2) {L : Array Bool} {w : World} : HeldT st s2 C1 C2 C3 (L.setIfInBounds i true) w ↔ HeldT st s2 C1 C2 C3 L w := by
 unfold HeldT;rw [getD_set_ne false hne,getD_set_ne false hne2]
theorem wpAnyT_first {i : Nat} {oi : Oper} {v : Value} (C : World → Prop) (G : Array Bool → Prop) (hi : ops[i]? = some oi) (hsel : ∀ (j : Nat) (o : Oper) cs b,ops[j]? = some o → o.op ≠ .select cs b)
  (hQ : ∀ c a w,Q (.panic c) (a.put oi.dst v) w → Q (.panic c) a w) (hne : i ≠ st) (hne2 : i ≠ s2) (hC : ∀ L w,G L → HeldT st s2 C1 C2 C3 L w → C w)
  (hG : ∀ (L : Array Bool) (j : Nat),G L → L.getD i true = false → j ∈ Region.ready md ops L → j ≠ i → G (L.setIfInBounds j true)) :
  ∀ (fuel : Nat) (L : Array Bool) (a : Act) (w : World),G L →
   (∀ j oj,ops[j]? = some oj → j ≠ i → L.getD j true = false → (∀ e ∈ oj.after,Region.binds md e = true → e.on ≠ i) → oi.apart ops oj = true) →
   i ∈ Region.ready md ops L → YieldsIf P ops C oi v a → HeldT st s2 C1 C2 C3 L w →
   wpAnyT P md ops Q st s2 C1 C2 C3 fuel (L.setIfInBounds i true) (a.put oi.dst v) w → wpAnyT P md ops Q st s2 C1 C2 C3 (fuel + 1) L a w := by
 intro fuel
 induction fuel with
 | zero =>
  intro L a w hL _ hr hy hS H
  refine ⟨fun h => (by rw [h] at hr;cases hr),fun j hj => ?_⟩
  by_cases hji : j = i
  ·subst hji
   exact hy.wpOp hi (hC _ _ hL hS) ⟨(heldT_set hne hne2).2 hS,H⟩
  ·have := ready_mono hj hji
   rw [H.1] at this
   cases this
 | succ fuel ih =>
  intro L a w hL hfree hr hy hS H
  refine ⟨fun h => (by rw [h] at hr;cases hr),fun j hj => ?_⟩
  by_cases hji : j = i
  ·subst hji
   exact hy.wpOp hi (hC _ _ hL hS) ⟨(heldT_set hne hne2).2 hS,H⟩
  ·have h1 := H.2 j (ready_mono hj hji)
   have h0 := (mem_ready.1 hr).1
   obtain ⟨hjun,oj,hoj,hall⟩ := mem_ready.1 hj
   have hnot : ∀ e ∈ oj.after,Region.binds md e = true → e.on ≠ i := fun e he hb heq => by
    have k1 := hall e he hb
    rw [heq] at k1
    rcases Nat.lt_or_ge i L.size with h' | h'
    ·simp [h'] at h0 k1;rw [h0] at k1;cases k1
    ·simp [Array.getElem?_eq_none h'] at k1
   have h2 := wpOp_putIf hoj (hfree j oj hoj hji hjun hnot) (fun cs b => hsel i oi cs b hi) (fun cs b => hsel j oj cs b hoj) hQ hy h1
   have hfree' : ∀ k ok,ops[k]? = some ok → k ≠ i → (L.setIfInBounds j true).getD k true = false →
     (∀ e ∈ ok.after,Region.binds md e = true → e.on ≠ i) → oi.apart ops ok = true := fun k ok hk hki hun hno => by
    refine hfree k ok hk hki ?_ hno
    by_cases hjk : j = k
    ·subst hjk;exact hjun
    ·rw [getD_set_ne true hjk] at hun;exact hun
   refine wpOp_mono (fun a' w' h3 => ?_) h2
   obtain ⟨hy3,hS3,h4⟩ := h3
   rw [Array.setIfInBounds_comm _ _ (Ne.symm hji)] at hS3 h4
   have hS3' := (heldT_set hne hne2).1 hS3
   exact ⟨hS3',ih (L.setIfInBounds j true) a' w' (hG L j hL h0 hj hji) hfree' (ready_mono hr (Ne.symm hji)) hy3 hS3' h4⟩
theorem wpAnyT_take {i : Nat} {oi : Oper} {v : Value} {fuel : Nat} {L : Array Bool} {a : Act} {w : World} (hi : ops[i]? = some oi) (hne : i ≠ st) (hne2 : i ≠ s2)
  (hs : Region.noSelect ops = true) (hf : Region.free md ops L i = true) (hr : (Region.ready md ops L).contains i = true)
  (hQ : ∀ c a w,Q (.panic c) (a.put oi.dst v) w → Q (.panic c) a w) (hy : YieldsIf P ops C1 oi v a) (hS : HeldT st s2 C1 C2 C3 L w)
  (h : wpAnyT P md ops Q st s2 C1 C2 C3 fuel (L.setIfInBounds i true) (a.put oi.dst v) w) : wpAnyT P md ops Q st s2 C1 C2 C3 (fuel + 1) L a w :=
 wpAnyT_first C1 (fun _ => True) hi (Region.noSelect_spec hs) hQ hne hne2 (fun _ _ _ h => h.1) (fun _ _ _ _ _ _ => trivial) fuel L a w trivial (Region.free_spec hi hf) (by simpa using hr) hy hS h
theorem wpAnyT_take2 {i : Nat} {oi os : Oper} {v : Value} {fuel : Nat} {L : Array Bool} {a : Act} {w : World} (hi : ops[i]? = some oi) (hne : i ≠ st) (hne2 : i ≠ s2)
  (hos : ops[st]? = some os) (hw : os.after.any (fun e => Region.binds md e && e.on == i) = true) (hL : L.getD st false = false)
  (hs : Region.noSelect ops = true) (hf : Region.free md ops L i = true) (hr : (Region.ready md ops L).contains i = true)
  (hQ : ∀ c a w,Q (.panic c) (a.put oi.dst v) w → Q (.panic c) a w) (hy : YieldsIf P ops (fun w => C1 w ∧ C2 w) oi v a) (hS : HeldT st s2 C1 C2 C3 L w)
  (h : wpAnyT P md ops Q st s2 C1 C2 C3 fuel (L.setIfInBounds i true) (a.put oi.dst v) w) : wpAnyT P md ops Q st s2 C1 C2 C3 (fuel + 1) L a w := by
 refine wpAnyT_first (fun w => C1 w ∧ C2 w) (fun L => L.getD st false = false) hi (Region.noSelect_spec hs) hQ hne hne2 (fun _ _ hg h => ⟨h.1,h.2.1 hg⟩) ?_ fuel L a w hL (Region.free_spec hi hf) (by simpa using hr) hy hS h
 intro L j hg hun hj _
 have hjs : j ≠ st := by
  rintro rfl
  obtain ⟨_,o,ho,hall⟩ := mem_ready.1 hj
  rw [hos] at ho
  cases ho
  obtain ⟨k,hk,hb⟩ := Array.any_eq_true.1 hw
  simp only [Bool.and_eq_true,beq_iff_eq] at hb
  have k1 := hall _ (Array.getElem_mem hk) hb.1
  rw [hb.2] at k1
  rcases Nat.lt_or_ge i L.size with h' | h'
  ·simp [h'] at hun k1;rw [hun] at k1;cases k1
  ·simp [Array.getElem?_eq_none h'] at k1
 show (L.setIfInBounds j true).getD st false = false
 rw [getD_set_ne false hjs];exact hg
theorem wpAnyT_take3 {i : Nat} {oi os : Oper} {v : Value} {fuel : Nat} {L : Array Bool} {a : Act} {w : World} (hi : ops[i]? = some oi) (hne : i ≠ st) (hne2 : i ≠ s2)
  (hos : ops[s2]? = some os) (hw : os.after.any (fun e => Region.binds md e && e.on == i) = true) (hL : L.getD s2 false = false)
  (hs : Region.noSelect ops = true) (hf : Region.free md ops L i = true) (hr : (Region.ready md ops L).contains i = true)
  (hQ : ∀ c a w,Q (.panic c) (a.put oi.dst v) w → Q (.panic c) a w) (hy : YieldsIf P ops (fun w => C1 w ∧ C3 w) oi v a) (hS : HeldT st s2 C1 C2 C3 L w)
  (h : wpAnyT P md ops Q st s2 C1 C2 C3 fuel (L.setIfInBounds i true) (a.put oi.dst v) w) : wpAnyT P md ops Q st s2 C1 C2 C3 (fuel + 1) L a w := by
 refine wpAnyT_first (fun w => C1 w ∧ C3 w) (fun L => L.getD s2 false = false) hi (Region.noSelect_spec hs) hQ hne hne2 (fun _ _ hg h => ⟨h.1,h.2.2 hg⟩) ?_ fuel L a w hL (Region.free_spec hi hf) (by simpa using hr) hy hS h
 intro L j hg hun hj _
 have hjs : j ≠ s2 := by
  rintro rfl
  obtain ⟨_,o,ho,hall⟩ := mem_ready.1 hj
  rw [hos] at ho
  cases ho
  obtain ⟨k,hk,hb⟩ := Array.any_eq_true.1 hw
  simp only [Bool.and_eq_true,beq_iff_eq] at hb
  have k1 := hall _ (Array.getElem_mem hk) hb.1
  rw [hb.2] at k1
  rcases Nat.lt_or_ge i L.size with h' | h'
  ·simp [h'] at hun k1;rw [hun] at k1;cases k1
  ·simp [Array.getElem?_eq_none h'] at k1
 show (L.setIfInBounds j true).getD s2 false = false
 rw [getD_set_ne false hjs];exact hg
theorem wpAnyT_all {rs : List Nat} {fuel : Nat} {L : Array Bool} {a : Act} {w : World} (hr : Region.ready md ops L = rs) (hne : rs ≠ [])
  (h : ∀ i ∈ rs,wpOp P ops Q i (fun a' w' => HeldT st s2 C1 C2 C3 (L.setIfInBounds i true) w' ∧ wpAnyT P md ops Q st s2 C1 C2 C3 fuel (L.setIfInBounds i true) a' w') a w) : wpAnyT P md ops Q st s2 C1 C2 C3 (fuel + 1) L a w :=
 ⟨fun h0 => absurd (hr ▸ h0) hne,hr ▸ h⟩
theorem wpAnyT_done {L : Array Bool} {a : Act} {w : World} (hr : Region.ready md ops L = []) (h : Q .normal a w) : ∀ fuel,wpAnyT P md ops Q st s2 C1 C2 C3 fuel L a w
 | 0 => ⟨hr,h⟩
 | _ + 1 => ⟨fun _ => h,by rw [hr];simp⟩
end
section
variable {P : Program} {ops : Array Oper} {Q : Exit → Act → World → Prop} {md : Region.Mode} {l n : Nat}
def noDefer (ops : Array Oper) : Bool := ops.all fun o => match o.op with | .defer _ => false | _ => true
theorem noDefer_spec (h : noDefer ops = true) {i : Nat} {o : Oper} (ho : ops[i]? = some o) : ∀ c,o.op ≠ .defer c := by
 intro c e
 obtain ⟨hi,rfl⟩ := Array.getElem?_eq_some_iff.1 ho
 have := Array.all_eq_true.1 h i hi
 rw [e] at this
 cases this
theorem opIn_of_op (hd : noDefer ops = true) (hQ : ¬ LetsOut Q) {i : Nat} {K : Act → World → Prop} {a : Act} {w : World} (h : wpOp P ops Q i K a w) : wpOpIn (Fence.wide.inRound l) n P ops Q i K a w := by
 unfold wpOp at h
 unfold wpOpIn
 cases ho : ops[i]? with
 | none => simp only [ho] at h;exact h
 | some o =>
  simp only [ho] at h ⊢
  split
  ·rename_i hw
   simp only [hw,if_true] at h
   have h := h.resolve_right (fun x => hQ x.2)
   refine ⟨fun _ _ => trivial, ?_⟩
   rw [Oper.semAt_eq _ _ _ (noDefer_spec hd ho)]
   unfold Oper.wp at h
   generalize (execOp a.eval o).run P w = r at h
   cases r with
   | ok x w' =>
    cases x <;> simp only [Oper.upon,Oper.uponIn] at h ⊢
    case value => exact h
    case skip => exact h
    case defer => exact h
    case enter f args => exact ⟨fun e => (by cases e),CallsIn.inRound l (callsIn_wide.2 (Calls.mono h fun e w'' he => (by cases e <;> exact he)))⟩
    case row row args => exact ⟨fun e => (by cases e),fun c cs _ => (by obtain ⟨v,w',r,s⟩ := h c cs;exact ⟨v,w',r,stepsIn_wide.2 s⟩)⟩
   | halt x w' =>
    cases x <;> simp only [Oper.upon,Oper.uponIn] at h ⊢
    case panic => exact h
  ·rename_i hw
   simp only [hw] at h
   exact ⟨fun _ _ => trivial,h⟩
theorem anyIn_of_any (hd : noDefer ops = true) (hQ : ¬ LetsOut Q) : ∀ (fuel : Nat) (listed : Array Bool) (a : Act) (w : World),wpAny P md ops Q fuel listed a w → wpAnyIn (Fence.wide.inRound l) n P md ops Q fuel listed a w
 | 0,_,_,_,h => h
 | fuel + 1,_,_,_,h => ⟨h.1,fun i hi => opIn_of_op hd hQ (wpOp_mono (fun a' w' h' => anyIn_of_any hd hQ fuel _ a' w' h') (h.2 i hi))⟩
theorem wpIn_region_TR (st s2 : Nat) (C1 C2 C3 : World → Prop) {id : Nat} {a : Act} {w : World} (hm : P.follows .mixedOrders = true) (hd : noDefer ops = true) (hQ : ¬ LetsOut Q)
  (h : wpAnyT P .any ops Q st s2 C1 C2 C3 ops.size (Array.replicate ops.size false) a w.drew) : (Code.region id ops true).wpIn (Fence.wide.inRound l) n P Q a w :=
 wpIn_region_any hm (anyIn_of_any hd hQ _ _ _ _ (wpAny_of_T _ _ _ _ h))
end
open Go.RowKit Go.Shelf
attribute [local go_sem] Oper.semAt_some
theorem block_lt {w : World} {g : Nat} {o : Obj} (h : w.heap[g]? = some o) : g < w.heap.size := (Array.getElem?_eq_some_iff.1 h).1
def TSt (w : World) (n : Int) (X : ByteArray) (v : Value) (k : Int) (m : Nat) (xs : List Value) (W : World) : Prop :=
 Blk W w.heap.size #[.int .i64 n, .string X] 104 ∧ Blk W (w.heap.size + 1) #[.int .i64 0, .string ⟨#[]⟩] 104 ∧ Blk W (w.heap.size + 1 + 1) #[v] 95 ∧ Blk W (w.heap.size + 1 + 1 + 1) #[.int .i64 k] 3 ∧ W.ownsRow w.heap.size 172 2 v m xs ∧ Below w.heap.size w W
theorem TSt.own {w : World} {n : Int} {X : ByteArray} {v : Value} {k : Int} {m : Nat} {xs : List Value} {W W' : World} {row : Option Nat} (h : TSt w n X v k m xs W) (hg : W.grownBy W' row) (hr : ∀ r,row = some r → w.heap.size ≤ r ∧ ∃ o : Obj,W.heap[r]? = some o ∧ o.isCells = false) : TSt w n X v k m xs W' := by
 obtain ⟨h1,h2,h3,h4,h5,h6⟩ := h
 have hr2 := fun r e => (hr r e).2
 refine ⟨(grownBy_keeps_cells hg hr2 h1 rfl).trans h1,(grownBy_keeps_cells hg hr2 h2 rfl).trans h2,(grownBy_keeps_cells hg hr2 h3 rfl).trans h3,(grownBy_keeps_cells hg hr2 h4 rfl).trans h4,h5.kept hg ?_,h6.grown hg h6.size (fun g e => (hr g e).1)⟩
 rcases h5.2 with ⟨rfl,_⟩ | ⟨g,cap,cur,rfl,_,hgb,_⟩
 ·exact .inl rfl
 ·refine .inr fun e' => ?_
  obtain ⟨o,ho,hc⟩ := hr2 g (by simpa [Value.ownBlock] using e'.symm)
  rw [hgb] at ho;cases ho;cases hc
theorem info90 : (Tryz.prog.info? 172).map (fun i => (i.zero,i.size,i.bytes)) = some (some (.agg #[.int .i64 0, .int .i64 0]),2,16) := by kernel_rfl
theorem TSt.new (w : World) (n k : Int) (X : ByteArray) : TSt w n X (.slice none 0 0) k 0 [] ((((w.alloc (.cells #[.int .i64 n, .string X] 104)).alloc (.cells #[.int .i64 0, .string ⟨#[]⟩] 104)).alloc (.cells #[.slice none 0 0] 95)).alloc (.cells #[.int .i64 k] 3)) := by
 refine ⟨?_, ?_, ?_, ?_,World.ownsRow_nil _ _ _ _,((((Below.refl _ _).alloc (Nat.le_refl _) _).alloc (by simp) _).alloc (by simp <;> omega) _).alloc (by simp <;> omega) _⟩
 ·exact (((Blk.new w _ _).alloc _).alloc _).alloc _
 ·have := ((Blk.new (w.alloc (.cells #[.int .i64 n, .string X] 104)) #[.int .i64 0, .string ⟨#[]⟩] 104).alloc (.cells #[.slice none 0 0] 95)).alloc (.cells #[.int .i64 k] 3)
  rwa [World.size_alloc] at this
 ·have := (Blk.new ((w.alloc (.cells #[.int .i64 n, .string X] 104)).alloc (.cells #[.int .i64 0, .string ⟨#[]⟩] 104)) #[.slice none 0 0] 95).alloc (.cells #[.int .i64 k] 3)
  simpa using this
 ·have := Blk.new (((w.alloc (.cells #[.int .i64 n, .string X] 104)).alloc (.cells #[.int .i64 0, .string ⟨#[]⟩] 104)).alloc (.cells #[.slice none 0 0] 95)) #[.int .i64 k] 3
  simpa using this
theorem round_end {w W W2 w1 : World} {N : Int} {XX : ByteArray} {v v' : Value} {k k' : Int} {n m : Nat} {xs ys : List Value} {X : Nat} {cX : Array Value} {u : Value} {T : Obj} (hs : TSt w N XX v k n xs W2) (hk : KeepCells 104 (w.heap.size + 1 + 1 + 1 + 1) W W2)
  (hx : W2.heap[X]? = some (.cells cX 172)) (hX : w.heap.size + 1 + 1 + 1 < X) (hne : v.ownBlock ≠ some X) (hown1 : w1.ownsRow w.heap.size 172 2 v' m ys) (hgr1 : ((W2.setCell ⟨X,1,none⟩ u).drew.alloc T).grownBy w1 v.ownBlock) :
  KeepsOthers W2 ((w1.setCell ⟨w.heap.size + 1 + 1,0,none⟩ v').setCell ⟨w.heap.size + 1 + 1 + 1,0,none⟩ (.int .i64 k')) ∧
  KeepCells 104 (w.heap.size + 1 + 1 + 1 + 1) W ((w1.setCell ⟨w.heap.size + 1 + 1,0,none⟩ v').setCell ⟨w.heap.size + 1 + 1 + 1,0,none⟩ (.int .i64 k')) ∧
  TSt w N XX v' k' m ys ((w1.setCell ⟨w.heap.size + 1 + 1,0,none⟩ v').setCell ⟨w.heap.size + 1 + 1 + 1,0,none⟩ (.int .i64 k')) := by
 obtain ⟨h1,h2,h3,h4,h5,h6⟩ := hs
 obtain ⟨W3,hW3⟩ : ∃ W3,W2.setCell ⟨X,1,none⟩ u = W3 := ⟨_,rfl⟩
 rw [hW3] at hgr1
 have oth : ∀ j,j ≠ X → W3.heap[j]? = W2.heap[j]? := fun j hj => by rw [← hW3];exact Below.heap_setCell _ _ _ _ hj
 have z3 : W3.heap.size = W2.heap.size := by rw [← hW3];simp
 have o5 : W3.ownsRow w.heap.size 172 2 v n xs := by
  rw [← hW3]
  exact h5.kept (w' := W2.setCell ⟨X,1,none⟩ u) (row := some X) ⟨rfl,rfl,rfl,by simp,fun j _ hj => Below.heap_setCell _ _ _ _ (fun e => hj (by rw [e]))⟩ (.inr hne)
 have row : ∀ g,v.ownBlock = some g → w.heap.size ≤ g ∧ ∃ cs fr,(W3.drew.alloc T).heap[g]? = some (.cells cs 172 fr) := fun g hg => by
  rcases o5.2 with ⟨rfl,_⟩ | ⟨g',cap,cur,rfl,hb,hh,_⟩
  ·simp [Value.ownBlock] at hg
  ·obtain rfl : g' = g := by simpa [Value.ownBlock] using hg
   exact ⟨hb,cur,_,(Below.heap_alloc W3.drew T g' (block_lt hh)).trans hh⟩
 have old : ∀ j,j < W3.heap.size → v.ownBlock ≠ some j → w1.heap[j]? = W3.heap[j]? := fun j hj hne' => (hgr1.block j (by simp;omega) (fun e => hne' e.symm)).trans (Below.heap_alloc _ _ _ hj)
 have nb : ∀ (j : Nat) (cs : Array Value) (t : TypeId),W3.heap[j]? = some (.cells cs t) → t ≠ 172 → v.ownBlock ≠ some j := fun j cs t hj ht e => by
  rcases o5.2 with ⟨rfl,_⟩ | ⟨g',cap,cur,rfl,hb,hh,_⟩
  ·simp [Value.ownBlock] at e
  ·obtain rfl : g' = j := by simpa [Value.ownBlock] using e
   rw [hj] at hh;cases hh;exact ht rfl
 have a1 := (oth _ (by omega)).trans h1
 have a2 := (oth _ (by omega)).trans h2
 have a3 : W3.heap[w.heap.size + 1 + 1]? = _ := (oth _ (by omega)).trans h3
 have a4 : W3.heap[w.heap.size + 1 + 1 + 1]? = _ := (oth _ (by omega)).trans h4
 have b1 := (old _ (block_lt a1) (nb _ _ _ a1 (by decide))).trans a1
 have b2 := (old _ (block_lt a2) (nb _ _ _ a2 (by decide))).trans a2
 have b3 := (old _ (block_lt a3) (nb _ _ _ a3 (by decide))).trans a3
 have b4 := (old _ (block_lt a4) (nb _ _ _ a4 (by decide))).trans a4
 have far : ∀ j,j ≠ w.heap.size + 1 + 1 → j ≠ w.heap.size + 1 + 1 + 1 → ((w1.setCell ⟨w.heap.size + 1 + 1,0,none⟩ v').setCell ⟨w.heap.size + 1 + 1 + 1,0,none⟩ (.int .i64 k')).heap[j]? = w1.heap[j]? := fun j h h' =>
  (Below.heap_setCell _ _ _ _ h').trans (Below.heap_setCell _ _ _ _ h)
 have bw1 : Below w.heap.size w w1 := ((((by rw [← hW3];exact h6.setCell (p := ⟨X,1,none⟩) (by simp;omega) _ : Below w.heap.size w W3).drew).alloc (by simp;have := h6.size;omega) T).grown hgr1 (by simp;have := h6.size;omega) (fun g e => (row g e).1))
 refine ⟨?_, ?_, ?_⟩
 ·refine ((((KeepsOthers.setCell W2 ⟨X,1,none⟩ u).trans ?_).trans (KeepsOthers.of_grownBy hgr1 (fun j o e ho => ?_))).trans (KeepsOthers.setCell _ _ _)).trans (KeepsOthers.setCell _ _ _)
  ·rw [hW3];exact (KeepsOthers.drew W3).trans (KeepsOthers.alloc _ _)
  ·obtain ⟨_,cs,fr,hc⟩ := row j e
   rw [hc] at ho;cases ho;rfl
 ·refine (((((by rw [← hW3];exact hk.setCell (p := ⟨X,1,none⟩) (.inr ⟨_,_,_,hx,by decide⟩) u : KeepCells 104 _ W W3).drew).alloc T).grown hgr1 (fun g e => ?_)).setCell (p := ⟨w.heap.size + 1 + 1,0,none⟩) (.inl (by simp)) _).setCell (p := ⟨w.heap.size + 1 + 1 + 1,0,none⟩) (.inl (by simp)) _
  obtain ⟨_,cs,fr,hc⟩ := row g e
  exact ⟨cs,172,fr,hc,by decide⟩
 ·refine ⟨(far _ (by omega) (by omega)).trans b1,(far _ (by omega) (by omega)).trans b2, ?_, ?_, ?_,(bw1.setCell (p := ⟨_,_,none⟩) (by simp;omega) _).setCell (p := ⟨_,_,none⟩) (by simp;omega) _⟩
  ·refine (Below.heap_setCell _ _ _ _ (by simp)).trans ?_
   exact Boxed.set v' b3
  ·exact Boxed.set (.int .i64 k') (v := .int .i64 k) ((Below.heap_setCell _ _ _ _ (by simp)).trans b4)
  ·have e1 : Boxed w1 (w.heap.size + 1 + 1) 95 v := b3
   have e2 : Boxed w1 (w.heap.size + 1 + 1 + 1) 3 (.int .i64 k) := b4
   have r1 := hown1.kept (grownBy_setCell' w1 (w.heap.size + 1 + 1) v') (.inr (e1.not_row (by decide) hown1).symm)
   exact r1.kept (grownBy_setCell' _ (w.heap.size + 1 + 1 + 1) _) (.inr (Boxed.not_row (t := 3) (u := .int .i64 k) (B := w.heap.size + 1 + 1 + 1) ((Below.heap_setCell _ _ _ _ (by simp)).trans b4) (by decide) r1).symm)
set_option maxRecDepth 100000 in
set_option maxHeartbeats 4000000 in
theorem take_any (T : List Bool) (k most : Nat) (w : World) (hn : T.length ≤ 4096) (hk : k ≤ 2199023255552) (hk0 : 0 < k) (hm : most ≤ 2199023255552) : Calls Tryz.prog 52 #[spv T, .int .i64 k, .int .i64 most] w fun e w' =>
  (∀ l T',takeS T k most = some (l,T') → ∃ A c,e = .returned (.tuple #[.slice A l.length c,spv T', .int .i64 0]) ∧ w'.ownsRow w.heap.size 172 2 (.slice A l.length c) l.length (ecells l)) ∧
  (takeS T k most = none → e = .returned (.tuple #[.slice none 0 0, .agg #[.int .i64 0, .string ⟨#[]⟩], .int .i64 8])) ∧ Below w.heap.size w w' := by
 have HST := Lib.hid (fun w => free_stops T w hn)
 have HRG := Lib.hid (runs_all T)
 have HRL := Lib.hid (runs_length_sum T 0 0)
 have HTC := Lib.hid (take_claims T k)
 have HCL := Lib.hid (fun (l : List (Nat × Nat)) (A : Option Addr) (cap : Nat) (w : World) (hl : Lies w A (ecells l)) hb hll => claim_any T l A cap w hn hl hb hll)
 unfold spv at HST HCL ⊢
 obtain ⟨n,hn2⟩ : ∃ n,T.length = n := ⟨_,rfl⟩
 obtain ⟨X,hX⟩ : ∃ X,mk (packB T) = X := ⟨_,rfl⟩
 obtain ⟨RR,hRR⟩ : ∃ R,runs T 0 0 = R := ⟨_,rfl⟩
 rw [hX,hn2] at HST HCL
 rw [hn2,hX]
 rw [hn2,hRR] at HRG
 rw [hRR] at HST HRL HTC
 rw [hn2] at HRL HTC hn
 have HTS := Lib.hid (show takeS T k most = if 0 < (trimR RR k).2 ∨ most < (trimR RR k).1.length then none else (turnS true T (trimR RR k).1).map fun T' => ((trimR RR k).1,T') by unfold takeS;rw [hRR])
 clear hX hn2 hRR
 obtain ⟨TS,hTS⟩ : ∃ t,takeS T k most = t := ⟨_,rfl⟩
 rw [hTS] at HTS ⊢
 clear hTS
 have k0 : (0 : Int) ≤ (k : Int) := by omega
 have k1 : (0 : Int) < (k : Int) := by omega
 have m0 : (0 : Int) ≤ (most : Int) := by omega
 refine (callsIn_wide (n := 6)).1 ?_
 refine callsIn_of_wp_marks Tryz.func52 rfl trivial ?_ rfl
 simp only [Tryz.ntmps52,List.size_toArray,List.length_cons,List.length_nil,Nat.reduceAdd,Nat.reduceSub,Array.replicate_succ,Array.replicate_zero,List.push_toArray,List.append_toArray,List.nil_append,List.cons_append]
 refine wpIn_wide.2 ?_
 go_wp2
 have hT0 := TSt.new w n k X
 obtain ⟨W0,hW0⟩ : ∃ u,(((w.alloc (.cells #[.int .i64 n, .string X] 104)).alloc (.cells #[.int .i64 0, .string ⟨#[]⟩] 104)).alloc (.cells #[.slice none 0 0] 95)).alloc (.cells #[.int .i64 k] 3) = u := ⟨_,rfl⟩
 rw [hW0] at hT0 ⊢
 obtain ⟨H,hH⟩ : ∃ H,w.heap.size = H := ⟨_,rfl⟩
 have HH := Lib.hid hH
 simp only [hH]
 have hb0 := hT0.2.2.2.2.2
 have hsz0 := hT0.2.2.2.1.lt
 rw [hH] at hb0 hsz0
 clear hW0
 refine (wpIn_wide (n := 6)).1 ?_
 refine wpIn_range_first rfl (by decide) (gf := 96) (first := #[.agg #[.int .i64 n, .string X]]) (lb := #[]) rfl trivial (enters_of Tryz.func96 (by kernel_rfl) rfl) (encs := encX) (HST.out W0)
  KeepCells.trans (fun W l o o' _ h ho _ => KeepCells.putObj W l o o' (KeepCells.refl _ _ _) h ho) (Below.refl _ _) (fun _ => rfl)
  (fun pre W => sumN pre < k ∧ pre <+: RR ∧ ∃ v,TSt w n X v ((k - sumN pre : Nat) : Int) pre.length (ecells pre) W)
  (fun c pre W => c = .exit 0 ∧ ∃ v pre0 x0,pre = pre0 ++ [x0] ∧ sumN pre0 < k ∧ k ≤ sumN pre0 + x0.2 ∧ TSt w n X v 0 pre.length (ecells (pre0 ++ [(x0.1,k - sumN pre0)])) W)
  ?hI ?hIx ⟨by simpa [sumN] using hk0,List.nil_prefix,_,hT0⟩ ?hround ?hdone ?hstop
 case hI =>
  exact fun s W W' row ⟨h1,h2,v,h⟩ hg hr => ⟨h1,h2,v,h.own hg (fun r e => ⟨by have := (hr r e).1;rw [hH];omega,(hr r e).2⟩)⟩
 case hIx =>
  exact fun c s W W' row ⟨h0,v,p0,x0,h1,h2,h3,h⟩ hg hr => ⟨h0,v,p0,x0,h1,h2,h3,h.own hg (fun r e => ⟨by have := (hr r e).1;rw [hH];omega,(hr r e).2⟩)⟩
 case hround =>
  rintro l pre x W ⟨hlt,hpf,v,hs⟩ hR
  have hxin := HRG.out.2 x (hR.subset (by simp))
  obtain ⟨hx1,hx2,_⟩ := hxin
  obtain ⟨L,hL⟩ : ∃ L,k - sumN pre = L := ⟨_,rfl⟩
  rw [hL] at hs
  obtain ⟨m,hmm⟩ : ∃ m,min x.2 L = m := ⟨_,rfl⟩
  have hL0 : 0 < L := by omega
  have hm1 : 1 ≤ m := by omega
  have hmin : min (x.2 : Int) (L : Int) = (m : Int) := by omega
  have hsub : (L : Int) - (m : Int) = ((L - m : Nat) : Int) := by omega
  obtain ⟨a,b⟩ := x
  simp only at hx1 hx2 hmm hmin
  have hpl : pre.length ≤ 5000 := by
   have h1 := hpf.length_le
   have h2 := HRL.out.1
   omega
  have HINF := Lib.hid (And.intro hlt (And.intro hR (And.intro hL (And.intro hmm (And.intro hL0 (And.intro hm1 (And.intro hx1 hx2)))))))
  have L0 : (0 : Int) ≤ (L : Int) := by omega
  have L1 : (L : Int) ≤ 2199023255552 := by omega
  have m0 : (0 : Int) ≤ (m : Int) := by omega
  have mL : (m : Int) ≤ (L : Int) := by omega
  have b0 : (0 : Int) ≤ (b : Int) := by omega
  have b1 : (b : Int) ≤ 4096 := by omega
  have a1 : (a : Int) ≤ 4096 := by omega
  clear hlt hpf hR hL hmm hL0 hm1 hx1 hx2 HST HRL HTC HCL HTS HRG hT0
  gi_wp2
  refine ⟨KeepsOthers.alloc _ _, ?_⟩
  rintro l' o' hl' ⟨o,ho,hc,hw⟩
  have hl2 : w.heap.size ≤ l' := by
   rw [hH]
   omega
  have hx : ((W.alloc (.cells #[.int .i64 a, .int .i64 b] 172)).putObj l' o').heap[W.heap.size]? = some (.cells #[.int .i64 a, .int .i64 b] 172) := by
   have hne : l' ≠ W.heap.size := by rintro rfl;rw [heap_alloc_new] at ho;cases ho;cases hc
   exact (World.putObj_heap_other (by omega)).trans (heap_alloc_new _ _)
  have hs2 := (hs.own (World.grownBy_alloc W (.cells #[.int .i64 a, .int .i64 b] 172) none) (fun r e => by cases e)).own (grownBy_putObj' _ l' o') (fun r e => by cases e;exact ⟨hl2,o,ho,hc⟩)
  have hk2 : KeepCells 104 (H + 1 + 1 + 1 + 1) W ((W.alloc (.cells #[.int .i64 a, .int .i64 b] 172)).putObj l' o') := KeepCells.putObj _ _ _ _ ((KeepCells.refl _ _ _).alloc _) ho hc
  have hXl : w.heap.size + 1 + 1 + 1 < W.heap.size := hs.2.2.2.1.lt
  have hne2 : v.ownBlock ≠ some W.heap.size := fun e => by
   obtain ⟨c,fz,h⟩ := row_kind hs.2.2.2.2.1 _ e
   have := (Array.getElem?_eq_some_iff.1 h).1
   omega
  obtain ⟨W2,hW2⟩ : ∃ W2,(W.alloc (.cells #[.int .i64 a, .int .i64 b] 172)).putObj l' o' = W2 := ⟨_,rfl⟩
  obtain ⟨Y,hY⟩ : ∃ Y,W.heap.size = Y := ⟨_,rfl⟩
  rw [hW2] at hx hs2 hk2 ⊢
  rw [hY] at hx hXl hne2
  simp only [hY]
  have HS2 := Lib.hid hs2
  have HK2 := Lib.hid hk2
  have HX := Lib.hid hx
  have HNE := Lib.hid hne2
  obtain ⟨A,cp,rfl⟩ := row_form hs2.2.2.2.2.1
  have HSO := Lib.hid hs
  rw [hH] at hXl
  have c0 := Blk.cell (show Blk W2 Y _ _ from hx) 0
  have c1 := Blk.cell (show Blk W2 Y _ _ from hx) 1
  have f1 := Blk.frozen (show Blk W2 Y _ _ from hx) 1
  have d3 := hs2.2.2.1.cell 0
  have e3 := hs2.2.2.1.frozen 0
  have d4 := hs2.2.2.2.1.cell 0
  have e4 := hs2.2.2.2.1.frozen 0
  have z3 := hs2.2.2.1.lt
  have z4 := hs2.2.2.2.1.lt
  have zy := Blk.lt (show Blk W2 Y _ _ from hx)
  rw [hH] at d3 e3 d4 e4 z3 z4
  simp at c0 c1 d3 d4
  clear hs hs2 hk2 hx hne2 ho hc hw hl' hW2 hl2
  have mixed := mixedT
  gi_wp2_with fail
  have hY0 : (W2.setCell ⟨Y,1,none⟩ (.int .i64 (m : Int))).drew.cell? ⟨Y,0,none⟩ = some (.int .i64 (a : Int)) := by
   have := Blk.cell (Blk.set (show Blk W2 Y _ _ from HX.out) 1 (.int .i64 (m : Int))) 0
   simpa using this
  have hY1 : (W2.setCell ⟨Y,1,none⟩ (.int .i64 (m : Int))).drew.cell? ⟨Y,1,none⟩ = some (.int .i64 (m : Int)) := by
   have := Blk.cell (Blk.set (show Blk W2 Y _ _ from HX.out) 1 (.int .i64 (m : Int))) 1
   simpa using this
  have hfar : ∀ (j i : Nat),j ≠ Y → (W2.setCell ⟨Y,1,none⟩ (.int .i64 (m : Int))).drew.cell? ⟨j,i,none⟩ = W2.cell? ⟨j,i,none⟩ := fun j i hj => World.cell?_of_block (Below.heap_setCell _ _ _ _ hj)
  have hH3 := (hfar (H + 1 + 1) 0 (by omega)).trans d3
  have hH4 := (hfar (H + 1 + 1 + 1) 0 (by omega)).trans d4
  have hown : (W2.setCell ⟨Y,1,none⟩ (.int .i64 (m : Int))).drew.ownsRow w.heap.size 172 2 (.slice A pre.length cp) pre.length (ecells pre) :=
   HS2.out.2.2.2.2.1.kept (w' := (W2.setCell ⟨Y,1,none⟩ (.int .i64 (m : Int))).drew) (row := some Y) ⟨rfl,rfl,rfl,by simp,fun j _ hj => Below.heap_setCell _ _ _ _ (fun e => hj (by rw [e]))⟩ (.inr HNE.out)
  have hsz5 : w.heap.size ≤ (W2.setCell ⟨Y,1,none⟩ (.int .i64 (m : Int))).drew.heap.size := by rw [hH];simp;omega
  have hlY : Y < (W2.setCell ⟨Y,1,none⟩ (.int .i64 (m : Int))).drew.heap.size := by simpa using zy
  have hl3 : H + 1 + 1 < (W2.setCell ⟨Y,1,none⟩ (.int .i64 (m : Int))).drew.heap.size := by simpa using z3
  have hl4 : H + 1 + 1 + 1 < (W2.setCell ⟨Y,1,none⟩ (.int .i64 (m : Int))).drew.heap.size := by simpa using z4
  have hfr3 : (W2.setCell ⟨Y,1,none⟩ (.int .i64 (m : Int))).drew.heap[H + 1 + 1]? = some (.cells #[.slice A pre.length cp] 95 (0,0)) := (Below.heap_setCell _ _ _ _ (by simp;omega)).trans (by have := HS2.out.2.2.1;rw [hH] at this;exact this)
  have hfr4 : (W2.setCell ⟨Y,1,none⟩ (.int .i64 (m : Int))).drew.heap[H + 1 + 1 + 1]? = some (.cells #[.int .i64 (L : Int)] 3 (0,0)) := (Below.heap_setCell _ _ _ _ (by simp;omega)).trans (by have := HS2.out.2.2.2.1;rw [hH] at this;exact this)
  have hfrY := Blk.set (show Blk W2 Y _ _ from HX.out) 1 (.int .i64 (m : Int))
  have hfrY : Blk (W2.setCell ⟨Y,1,none⟩ (.int .i64 (m : Int))).drew Y #[.int .i64 a, .int .i64 m] 172 := by simp at hfrY;exact hfrY
  obtain ⟨d,hd⟩ : ∃ d,L - m = d := ⟨_,rfl⟩
  have HDD := Lib.hid hd
  have wd : IntKind.i64.wrap (d : Int) = (d : Int) := by rw [Go.IntWalk.i64_left,Go.IntWalk.wrap64_in _ (by omega)]
  rw [hd] at hsub
  clear hd
  refine wpIn_region_TR 8 9 (fun w' => w'.cell? ⟨Y,0,none⟩ = some (.int .i64 (a : Int)) ∧ w'.cell? ⟨Y,1,none⟩ = some (.int .i64 (m : Int))) (fun w' => w'.cell? ⟨H + 1 + 1,0,none⟩ = some (.slice A pre.length cp)) (fun w' => w'.cell? ⟨H + 1 + 1 + 1,0,none⟩ = some (.int .i64 (L : Int))) mixed (by kernel_rfl) (fun ⟨_,_,h⟩ => h) ?_
  change wpAnyT _ _ _ _ _ _ _ _ _ _ _ _ (W2.setCell ⟨Y,1,none⟩ (.int .i64 (m : Int))).drew
  obtain ⟨W5,hW5⟩ : ∃ u,(W2.setCell ⟨Y,1,none⟩ (.int .i64 (m : Int))).drew = u := ⟨_,rfl⟩
  have HW5 := Lib.hid hW5
  rw [hW5] at hY0 hY1 hH3 hH4 hown hsz5 hlY hl3 hl4 hfr3 hfr4 hfrY ⊢
  clear hfar hW5 c0 c1 f1 d3 e3 d4 e4 z3 z4 zy
  have HE0 : ∀ L' : Array Bool,HeldT 8 9 (fun w' => w'.cell? ⟨Y,0,none⟩ = some (.int .i64 (a : Int)) ∧ w'.cell? ⟨Y,1,none⟩ = some (.int .i64 (m : Int))) (fun w' => w'.cell? ⟨H + 1 + 1,0,none⟩ = some (.slice A pre.length cp)) (fun w' => w'.cell? ⟨H + 1 + 1 + 1,0,none⟩ = some (.int .i64 (L : Int))) L' W5 := fun L' => ⟨⟨hY0,hY1⟩,fun _ => hH3,fun _ => hH4⟩
  refine wpAnyT_take2 (i := 0) (v := .slice A pre.length cp) rfl (by decide) (by decide) rfl (by kernel_rfl) (by kernel_rfl) (by kernel_rfl) (by kernel_rfl) (by kernel_rfl) (fun c a w h => h) (.inl ⟨(by kernel_rfl),fun w' hS => ?_⟩) (HE0 _) ?_
  ·have hS0 := hS.2;go_simp
  try go_simp
  refine wpAnyT_take (i := 1) (v := .agg #[.int .i64 a, .int .i64 m]) rfl (by decide) (by decide) (by kernel_rfl) (by kernel_rfl) (by kernel_rfl) (fun c a w h => h) (.inl ⟨(by kernel_rfl),fun w' hS => ?_⟩) (HE0 _) ?_
  ·have hS0 := hS.1;have hS1 := hS.2;go_simp
  try go_simp
  refine wpAnyT_take (i := 5) (v := .pointer (some ⟨Y,1,none⟩)) rfl (by decide) (by decide) (by kernel_rfl) (by kernel_rfl) (by kernel_rfl) (fun c a w h => h) (.inl ⟨(by kernel_rfl),fun w' hS => ?_⟩) (HE0 _) ?_
  ·clear hS;go_simp
  try go_simp
  refine wpAnyT_take (i := 6) (v := .int .i64 m) rfl (by decide) (by decide) (by kernel_rfl) (by kernel_rfl) (by kernel_rfl) (fun c a w h => h) (.inl ⟨(by kernel_rfl),fun w' hS => ?_⟩) (HE0 _) ?_
  ·have hS0 := hS.1;have hS1 := hS.2;go_simp
  try go_simp
  refine wpAnyT_take3 (i := 4) (v := .int .i64 L) rfl (by decide) (by decide) rfl (by kernel_rfl) (by kernel_rfl) (by kernel_rfl) (by kernel_rfl) (by kernel_rfl) (fun c a w h => h) (.inl ⟨(by kernel_rfl),fun w' hS => ?_⟩) (HE0 _) ?_
  ·have hS0 := hS.2;go_simp
  try go_simp
  refine wpAnyT_take (i := 7) (v := .int .i64 (d : Int)) rfl (by decide) (by decide) (by kernel_rfl) (by kernel_rfl) (by kernel_rfl) (fun c a w h => h) (.inl ⟨(by kernel_rfl),fun w' hS => ?_⟩) (HE0 _) ?_
  ·clear hS;go_simp
  try go_simp
  refine wpAnyT_all (rs := [2]) (by kernel_rfl) (by simp) ?_
  intro ix hix
  simp only [List.mem_cons,List.not_mem_nil,or_false] at hix
  subst hix
  unfold wpOp
  go_simp
  have hN := World.news_of_block (cs := #[.int .i64 a, .int .i64 m]) (heap_alloc_new W5 (.cells #[.int .i64 a, .int .i64 m] 172))
  have hown2 := World.ownsRow.alloc hown (.cells #[.int .i64 a, .int .i64 m] 172)
  have hB3 : Blk (W5.alloc (.cells #[.int .i64 a, .int .i64 m] 172)) (H + 1 + 1) #[.slice A pre.length cp] 95 := Blk.alloc hfr3 _
  have hB4 : Blk (W5.alloc (.cells #[.int .i64 a, .int .i64 m] 172)) (H + 1 + 1 + 1) #[.int .i64 L] 3 := Blk.alloc hfr4 _
  have hBY := Blk.alloc hfrY (.cells #[.int .i64 a, .int .i64 m] 172)
  have hsz6 : w.heap.size ≤ (W5.alloc (.cells #[.int .i64 a, .int .i64 m] 172)).heap.size := by simp;omega
  obtain ⟨Z,hZ⟩ : ∃ Z,W5.heap.size = Z := ⟨_,rfl⟩
  obtain ⟨W6,hW6⟩ : ∃ u,W5.alloc (.cells #[.int .i64 a, .int .i64 m] 172) = u := ⟨_,rfl⟩
  have HW6 := Lib.hid hW6
  rw [hZ] at hN
  rw [hW6] at hN hown2 hB3 hB4 hBY hsz6
  try rw [hZ]
  rw [hW6]
  clear hW6
  have x3 := hB3.cell 0
  have x4 := hB4.cell 0
  have y0 := hBY.cell 0
  have y1 := hBY.cell 1
  simp at x3 x4 y0 y1
  have HE1 : ∀ L' : Array Bool,HeldT 8 9 (fun w' => w'.cell? ⟨Y,0,none⟩ = some (.int .i64 (a : Int)) ∧ w'.cell? ⟨Y,1,none⟩ = some (.int .i64 (m : Int))) (fun w' => w'.cell? ⟨H + 1 + 1,0,none⟩ = some (.slice A pre.length cp)) (fun w' => w'.cell? ⟨H + 1 + 1 + 1,0,none⟩ = some (.int .i64 (L : Int))) L' W6 := fun L' => ⟨⟨y0,y1⟩,fun _ => x3,fun _ => x4⟩
  first | refine .inl ⟨HE1 _, ?_⟩ | refine ⟨HE1 _, ?_⟩
  refine wpAnyT_all (rs := [3]) (by kernel_rfl) (by simp) ?_
  intro ix hix
  simp only [List.mem_cons,List.not_mem_nil,or_false] at hix
  subst hix
  obtain ⟨i90,hi0,hi1,hi2,hi3⟩ := info_parts info90
  refine wpOp_of rfl rfl (wp_append_lies (P := Tryz.prog) W6 (.tmp 32) (.tmp 34) 95 rfl w.heap.size 172 i90 _ 2 16 Tryz.underlying95 hi0 hi1 hi2 hi3 (by rfl) (by decide) (.slice A pre.length cp) pre.length (ecells pre) (by rfl) hown2 ⟨Z,0,none⟩ 1 1 [.int .i64 a, .int .i64 m] (by rfl) (by rfl) hN (by simp [Value.oneCell']) (by omega) (by unfold maxLen;omega) (by omega) hsz6 W6.heap.size rfl ?_)
  intro g3 c3 W7 hown3 hg3 hat3 _
  have hne3 := own_ne_blk hown2 hB3 (by decide)
  have hne4 := own_ne_blk hown2 hB4 (by decide)
  have hneY : (Value.slice A pre.length cp).ownBlock ≠ some Y := HNE.out
  have hB3' := hB3.grown hg3 hne3
  have hB4' := hB4.grown hg3 hne4
  have hBY' := hBY.grown hg3 hneY
  have x3' := hB3'.cell 0
  have x4' := hB4'.cell 0
  have y0' := hBY'.cell 0
  have y1' := hBY'.cell 1
  have f3 := hB3'.frozen 0
  have f4 := hB4'.frozen 0
  simp at x3' x4' y0' y1'

  have HE2 : ∀ L' : Array Bool,HeldT 8 9 (fun w' => w'.cell? ⟨Y,0,none⟩ = some (.int .i64 (a : Int)) ∧ w'.cell? ⟨Y,1,none⟩ = some (.int .i64 (m : Int))) (fun w' => w'.cell? ⟨H + 1 + 1,0,none⟩ = some (.slice A pre.length cp)) (fun w' => w'.cell? ⟨H + 1 + 1 + 1,0,none⟩ = some (.int .i64 (L : Int))) L' W7 := fun L' => ⟨⟨y0',y1'⟩,fun _ => x3',fun _ => x4'⟩
  refine ⟨HE2 _, ?_⟩
  try go_simp
  refine wpAnyT_all (rs := [8]) (by kernel_rfl) (by simp) ?_
  intro ix hix
  simp only [List.mem_cons,List.not_mem_nil,or_false] at hix
  subst hix
  unfold wpOp
  go_simp
  have hs8 : ∀ (j i : Nat),j ≠ H + 1 + 1 → (W7.setCell ⟨H + 1 + 1,0,none⟩ (.slice (some ⟨g3,0,none⟩) (pre.length + 1) c3)).cell? ⟨j,i,none⟩ = W7.cell? ⟨j,i,none⟩ := fun j i hj => World.cell?_of_block (Below.heap_setCell _ _ _ _ hj)
  have y0'' := (hs8 Y 0 (by omega)).trans y0'
  have y1'' := (hs8 Y 1 (by omega)).trans y1'
  have x4'' := (hs8 (H + 1 + 1 + 1) 0 (by omega)).trans x4'
  have f4' : (W7.setCell ⟨H + 1 + 1,0,none⟩ (.slice (some ⟨g3,0,none⟩) (pre.length + 1) c3)).frozen? ⟨H + 1 + 1 + 1,0,none⟩ = false := Blk.frozen (show Blk (W7.setCell ⟨H + 1 + 1,0,none⟩ (.slice (some ⟨g3,0,none⟩) (pre.length + 1) c3)) (H + 1 + 1 + 1) _ _ from (Below.heap_setCell _ _ _ _ (by simp)).trans hB4') 0
  have HE3 : ∀ L' : Array Bool,L'.getD 8 false = true → HeldT 8 9 (fun w' => w'.cell? ⟨Y,0,none⟩ = some (.int .i64 (a : Int)) ∧ w'.cell? ⟨Y,1,none⟩ = some (.int .i64 (m : Int))) (fun w' => w'.cell? ⟨H + 1 + 1,0,none⟩ = some (.slice A pre.length cp)) (fun w' => w'.cell? ⟨H + 1 + 1 + 1,0,none⟩ = some (.int .i64 (L : Int))) L' (W7.setCell ⟨H + 1 + 1,0,none⟩ (.slice (some ⟨g3,0,none⟩) (pre.length + 1) c3)) := fun L' h8 => ⟨⟨y0'',y1''⟩,(fun e => by rw [h8] at e;cases e),fun _ => x4''⟩
  first | refine .inl ⟨HE3 _ (by kernel_rfl), ?_⟩ | refine ⟨HE3 _ (by kernel_rfl), ?_⟩
  refine wpAnyT_all (rs := [9]) (by kernel_rfl) (by simp) ?_
  intro ix hix
  simp only [List.mem_cons,List.not_mem_nil,or_false] at hix
  subst hix
  unfold wpOp
  go_simp
  have y0x : ((W7.setCell ⟨H + 1 + 1,0,none⟩ (.slice (some ⟨g3,0,none⟩) (pre.length + 1) c3)).setCell ⟨H + 1 + 1 + 1,0,none⟩ (.int .i64 (d : Int))).cell? ⟨Y,0,none⟩ = some (.int .i64 (a : Int)) := (World.cell?_of_block (Below.heap_setCell _ _ _ _ (by simp only;omega))).trans y0''
  have y1x : ((W7.setCell ⟨H + 1 + 1,0,none⟩ (.slice (some ⟨g3,0,none⟩) (pre.length + 1) c3)).setCell ⟨H + 1 + 1 + 1,0,none⟩ (.int .i64 (d : Int))).cell? ⟨Y,1,none⟩ = some (.int .i64 (m : Int)) := (World.cell?_of_block (Below.heap_setCell _ _ _ _ (by simp only;omega))).trans y1''

  have HE4 : ∀ L' : Array Bool,L'.getD 8 false = true → L'.getD 9 false = true → HeldT 8 9 (fun w' => w'.cell? ⟨Y,0,none⟩ = some (.int .i64 (a : Int)) ∧ w'.cell? ⟨Y,1,none⟩ = some (.int .i64 (m : Int))) (fun w' => w'.cell? ⟨H + 1 + 1,0,none⟩ = some (.slice A pre.length cp)) (fun w' => w'.cell? ⟨H + 1 + 1 + 1,0,none⟩ = some (.int .i64 (L : Int))) L' ((W7.setCell ⟨H + 1 + 1,0,none⟩ (.slice (some ⟨g3,0,none⟩) (pre.length + 1) c3)).setCell ⟨H + 1 + 1 + 1,0,none⟩ (.int .i64 (d : Int))) := fun L' h8 h9 => ⟨⟨y0x,y1x⟩,(fun e => by rw [h8] at e;cases e),(fun e => by rw [h9] at e;cases e)⟩
  first | refine .inl ⟨HE4 _ (by kernel_rfl) (by kernel_rfl), ?_⟩ | refine ⟨HE4 _ (by kernel_rfl) (by kernel_rfl), ?_⟩
  refine wpAnyT_done (by kernel_rfl) ?_ _
  have hfin := round_end (w := w) (W := W) (W2 := W2) (w1 := W7) (N := n) (XX := X) (v := .slice A pre.length cp) (v' := .slice (some ⟨g3,0,none⟩) (pre.length + 1) c3) (k := L) (k' := d) (X := Y) (u := .int .i64 (m : Int)) (T := .cells #[.int .i64 a, .int .i64 m] 172) HS2.out (by rw [hH];exact HK2.out) HX.out (by rw [hH];exact hXl) HNE.out hown3 (by rw [HW5.out,HW6.out];exact hg3)
  rw [hH] at hfin
  have HFIN := Lib.hid hfin
  have q4 := hfin.2.2.2.2.2.1.cell 0
  have q5 := hfin.2.2.2.2.2.1.lt
  rw [hH] at q4 q5
  simp only [List.getElem?_toArray,List.getElem?_cons_zero] at q4

  have hec : ecells pre ++ [.int .i64 (a : Int), .int .i64 (m : Int)] = ecells (pre ++ [(a,m)]) := by simp [ecells]
  rw [hec] at HFIN
  obtain ⟨W9,hW9⟩ : ∃ u,(W7.setCell ⟨H + 1 + 1,0,none⟩ (.slice (some ⟨g3,0,none⟩) (pre.length + 1) c3)).setCell ⟨H + 1 + 1 + 1,0,none⟩ (.int .i64 (d : Int)) = u := ⟨_,rfl⟩
  rw [hW9] at HFIN q4 q5 ⊢
  have HKC := Lib.hid (show KeepCells 104 W0.heap.size W W9 from ⟨HFIN.out.2.1.1,fun j cs fr hj ho => HFIN.out.2.1.2 j cs fr (by omega) ho⟩)
  clear hW9 hec hfin HE0 HE1 HE2 HE3 HE4 y0x y1x f4' x4'' y1'' y0'' hs8 x3' x4' y0' y1' f3 f4 hB3' hB4' hBY' hne3 hne4 hneY hat3 hg3 hown3 x3 x4 y0 y1 hsz6 hBY hB4 hB3 hown2 hN wd hfrY hfr4 hfr3 hl4 hl3 hlY hsz5 hown hH4 hH3 hY1 hY0 hi0 hi1 hi2 hi3 hZ
  by_cases hd0 : d = 0
  ·subst hd0
   have HQ := Lib.hid (show ∃ v pre0 x0,pre ++ [(a,b)] = pre0 ++ [x0] ∧ sumN pre0 < k ∧ k ≤ sumN pre0 + x0.2 ∧ TSt w n X v 0 (pre ++ [(a,b)]).length (ecells (pre0 ++ [(x0.1,k - sumN pre0)])) W9 by
    obtain ⟨j1,j2,j3,j4,j5,j6,j7,j8⟩ := HINF.out
    have jd := HDD.out
    refine ⟨.slice (some ⟨g3,0,none⟩) (pre.length + 1) c3,pre,(a,b),rfl,j1,by show k ≤ sumN pre + b;omega, ?_⟩
    have := HFIN.out.2.2
    rw [show m = k - sumN pre by omega] at this
    rw [List.length_append]
    exact this)
   have HKO := Lib.hid HFIN.out.1
   clear HFIN HKC
   gi_wp2
   obtain ⟨v1,p0,x0,i1,i2,i3,i4⟩ := HQ.out
   exact ⟨HKO.out,rfl,v1,p0,x0.1,x0.2,i1,i2,i3,i4⟩
  ·have hd1 : ((d : Int) == 0) = false := beq_eq_false_iff_ne.2 (by omega)
   have hd2 : ¬ ((d : Int) = 0) := by omega
   have HQ := Lib.hid (show sumN (pre ++ [(a,b)]) < k ∧ pre ++ [(a,b)] <+: RR ∧ ∃ v,TSt w n X v ((k - sumN (pre ++ [(a,b)]) : Nat) : Int) (pre ++ [(a,b)]).length (ecells (pre ++ [(a,b)])) W9 by
    obtain ⟨j1,j2,j3,j4,j5,j6,j7,j8⟩ := HINF.out
    have jd := HDD.out
    rw [sumN_snoc]
    refine ⟨by show sumN pre + b < k;omega,j2, .slice (some ⟨g3,0,none⟩) (pre.length + 1) c3, ?_⟩
    have := HFIN.out.2.2
    rw [show m = b by omega,show d = k - (sumN pre + b) by omega] at this
    simp only
    rw [List.length_append]
    exact this)
   have HKO := Lib.hid HFIN.out.1
   clear HFIN
   gi_wp2
   exact ⟨HKO.out,HKC.out,HQ.out⟩
 case hdone =>
  rintro D xs W hD rfl ⟨hlt,hpf,v,hs⟩ hK
  obtain ⟨A,cp,rfl⟩ := row_form hs.2.2.2.2.1
  obtain ⟨L,hL⟩ : ∃ L,k - sumN xs = L := ⟨_,rfl⟩
  rw [hL] at hs
  have L0 : (0 : Int) < (L : Int) := by omega
  have HNONE := Lib.hid (show TS = none by rw [HTS.out,trimR_all _ _ hlt];simp only;rw [if_pos (.inl (by omega))])
  have HS := Lib.hid hs
  have d4 := hs.2.2.2.1.cell 0
  have d1 := hs.2.1.cell 0
  have d2 := hs.2.1.cell 1
  have e1 := hs.2.1.frozen 0
  have e2 := hs.2.1.frozen 1
  have z1 := hs.2.1.lt
  have z4 := hs.2.2.2.1.lt
  have HK := Lib.hid hK
  rw [hH] at d4 d1 d2 e1 e2 z1 z4
  simp at d4 d1 d2
  clear hs hK HST HRL HTC HCL HTS HRG hT0 hlt hpf
  go_wp2
  have hset : ∀ j,j ≠ H + 1 → ((W.setCell ⟨H + 1,0,none⟩ (.int .i64 0)).setCell ⟨H + 1,1,none⟩ (.string ⟨#[]⟩)).heap[j]? = W.heap[j]? := fun j hj => (Below.heap_setCell _ _ _ _ (by simpa using hj)).trans (Below.heap_setCell _ _ _ _ (by simpa using hj))
  have hK1 := (hset D (by omega)).trans HK.out
  refine ⟨by simp, .inl ⟨_,_,rfl,run_takeDeferred hK1, ?_⟩⟩
  have hR1 := ((by have := HS.out.2.1;rw [hH] at this;exact this : Blk W (H + 1) _ 104).set 0 (.int .i64 0)).set 1 (.string ⟨#[]⟩)
  have hR2 : Blk (((W.setCell ⟨H + 1,0,none⟩ (.int .i64 0)).setCell ⟨H + 1,1,none⟩ (.string ⟨#[]⟩)).putObj D (.deferred none)) (H + 1) _ 104 := (World.putObj_heap_other (by omega)).trans hR1
  have q0 := hR2.cell 0
  have q1 := hR2.cell 1
  simp at q0 q1
  refine ⟨.tuple #[.slice none 0 0, .agg #[.int .i64 0, .string ⟨#[]⟩], .int .i64 8], ?_,fun l T' h => (by rw [HNONE.out] at h;cases h),fun _ => rfl, ?_⟩
  ·simp [results,Tryz.f52,go_sem,q0,q1]
  ·have hb := HS.out.2.2.2.2.2
   have hb2 := below_set (below_set hb (H + 1) 0 (.int .i64 0) (by omega)) (H + 1) 1 (.string ⟨#[]⟩) (by omega)
   exact hb2.grown (grownBy_putObj' _ _ _) hb2.size (fun g e => by cases e;omega)
 case hstop =>
  rintro D c pre W hD hpre ⟨rfl,v,p0,x0,rfl,hlt,hle,hs⟩ hK
  obtain ⟨A,cp,rfl⟩ := row_form hs.2.2.2.2.1
  obtain ⟨rest,hrest⟩ := hpre
  have htr : trimR RR k = (p0 ++ [(x0.1,k - sumN p0)],0) := by
   rw [← hrest,List.append_assoc]
   exact trimR_stop p0 rest x0 k hlt hle
  obtain ⟨T',hT1,hT2,_⟩ := HTC.out
  have hts := HTS.out
  rw [htr] at hT1 hts
  simp only at hT1 hts
  have hlen : (p0 ++ [x0]).length = (p0 ++ [(x0.1,k - sumN p0)]).length := by simp
  have hll : (p0 ++ [(x0.1,k - sumN p0)]).length ≤ 5000 := by
   have h1 := congrArg List.length hrest
   have h2 := HRL.out.1
   rw [List.length_append] at h1
   omega
  have hbb : ∀ x ∈ p0 ++ [(x0.1,k - sumN p0)],x.1 ≤ 2199023255552 ∧ x.2 ≤ 2199023255552 := fun x hx => by
   rcases List.mem_append.1 hx with hx | hx
   ·have := HRG.out.2 x (by rw [← hrest];simp [hx])
    omega
   ·simp only [List.mem_singleton] at hx
    have := HRG.out.2 x0 (by rw [← hrest];simp)
    subst hx
    exact ⟨by show x0.1 ≤ _;omega,by show k - sumN p0 ≤ _;omega⟩
  rw [hlen] at hs
  obtain ⟨l,hl⟩ : ∃ l,p0 ++ [(x0.1,k - sumN p0)] = l := ⟨_,rfl⟩
  rw [hl] at hs
  rw [hl] at hT1 hts hll hbb
  rw [hT1,Option.map_some] at hts
  have HCK := Lib.hid (fun (W : World) (hW : Lies W A (ecells l)) => HCL.out l A cp W hW hbb (by omega))
  rw [hT1] at HCK
  rw [show turnV (some T') = .tuple #[spv T', .int .i64 0] from rfl] at HCK
  unfold spv at HCK
  rw [hT2] at HCK
  obtain ⟨X2,hX2⟩ : ∃ X2,mk (packB T') = X2 := ⟨_,rfl⟩
  obtain ⟨q,hq⟩ : ∃ q,l.length = q := ⟨_,rfl⟩
  have HX2 := Lib.hid hX2
  have HQ := Lib.hid hq
  have HT2 := Lib.hid hT2
  have HTSL := Lib.hid hts
  rw [hX2,hq] at HCK
  rw [hq] at hs hll hts
  have HS := Lib.hid hs
  have d3 := hs.2.2.1.cell 0
  have d4 := hs.2.2.2.1.cell 0
  have d1 := hs.2.1.cell 0
  have d2 := hs.2.1.cell 1
  have e1 := hs.2.1.frozen 0
  have e2 := hs.2.1.frozen 1
  have z1 := hs.2.1.lt
  have z3 := hs.2.2.1.lt
  have z4 := hs.2.2.2.1.lt
  have s0 := hs.1.cell 0
  have s1 := hs.1.cell 1
  have HK := Lib.hid hK
  have hKl := (Array.getElem?_eq_some_iff.1 hK).1
  rw [hH] at d3 d4 d1 d2 e1 e2 z1 z3 z4 s0 s1
  simp at d3 d4 d1 d2 s0 s1
  clear hs hK HST HRL HTC HCL HTS HRG hT0 hlt hle hrest htr hT1 hT2 hlen hl hbb hX2 hq
  refine wpIn_wide.2 ?_
  by_cases hmq : most < q
  ·have hm1 : (most : Int) < (q : Int) := by omega
   have HNONE := Lib.hid (show TS = none by rw [hts,if_pos (.inr hmq)])
   clear hts HCK
   go_wp2
   have hset : ∀ j,j ≠ H + 1 → ((W.setCell ⟨H + 1,0,none⟩ (.int .i64 0)).setCell ⟨H + 1,1,none⟩ (.string ⟨#[]⟩)).heap[j]? = W.heap[j]? := fun j hj => (Below.heap_setCell _ _ _ _ (by simpa using hj)).trans (Below.heap_setCell _ _ _ _ (by simpa using hj))
   have hK1 := (hset D (by omega)).trans HK.out
   refine ⟨by simp, .inl ⟨_,_,rfl,run_takeDeferred hK1, ?_⟩⟩
   have hR1 := ((by have := HS.out.2.1;rw [hH] at this;exact this : Blk W (H + 1) _ 104).set 0 (.int .i64 0)).set 1 (.string ⟨#[]⟩)
   have hR2 : Blk (((W.setCell ⟨H + 1,0,none⟩ (.int .i64 0)).setCell ⟨H + 1,1,none⟩ (.string ⟨#[]⟩)).putObj D (.deferred none)) (H + 1) _ 104 := (World.putObj_heap_other (by omega)).trans hR1
   have q0 := hR2.cell 0
   have q1 := hR2.cell 1
   simp at q0 q1
   refine ⟨.tuple #[.slice none 0 0, .agg #[.int .i64 0, .string ⟨#[]⟩], .int .i64 8], ?_,fun l T' h => (by rw [HNONE.out] at h;cases h),fun _ => rfl, ?_⟩
   ·simp [results,Tryz.f52,go_sem,q0,q1]
   ·have hb := HS.out.2.2.2.2.2
    have hb2 := below_set (below_set hb (H + 1) 0 (.int .i64 0) (by omega)) (H + 1) 1 (.string ⟨#[]⟩) (by omega)
    exact hb2.grown (grownBy_putObj' _ _ _) hb2.size (fun g e => by cases e;omega)
  ·have hm1 : ¬ ((most : Int) < (q : Int)) := by omega
   have HSOME := Lib.hid (show TS = some (l,T') by rw [hts,if_neg (by omega)])
   clear hts
   have HLI := Lib.hid (Lies.of_row HS.out.2.2.2.2.1)
   go_upto_region 14 with (go_at_call 97;refine (HCK.out _ HLI.out).mono ?_;rintro e w2 ⟨rfl,hb2⟩;have HB2 := Lib.hid hb2;have hw2 := hb2.size;clear hb2)
   have hb2 := HB2.out
   have d3 := (hb2.cell (p := ⟨H + 1 + 1,0,none⟩) z3).trans d3
   have d1 := (hb2.cell (p := ⟨H + 1,0,none⟩) z1).trans d1
   have d2 := (hb2.cell (p := ⟨H + 1,1,none⟩) z1).trans d2
   have hRB := ((by have := HS.out.2.1;rw [hH] at this;exact this : Blk W (H + 1) _ 104)).below hb2
   have e1 := hRB.frozen 0
   have e2 := hRB.frozen 1
   have HRB := Lib.hid hRB
   clear hRB hb2
   have z1' : H + 1 < w2.heap.size := by omega
   have z3' : H + 1 + 1 < w2.heap.size := by omega
   go_region
   all_goals go_wp2
   have hset : ∀ j,j ≠ H + 1 → j < w2.heap.size → (((w2.setCell ⟨H + 1,0,none⟩ (.int .i64 n)).setCell ⟨H + 1,1,none⟩ (.string X2)).alloc (.cells #[.int .i64 n, .string X2] 104)).drew.heap[j]? = w2.heap[j]? := fun j hj hlt => (Below.heap_alloc _ _ _ (by simpa using hlt)).trans ((Below.heap_setCell _ _ _ _ (by simpa using hj)).trans (Below.heap_setCell _ _ _ _ (by simpa using hj)))
   have hK1 := (hset D (by omega) (by omega)).trans ((HB2.out.block D hKl).trans HK.out)
   have hR1 := (((HRB.out.set 0 (.int .i64 n)).set 1 (.string X2)).alloc (.cells #[.int .i64 n, .string X2] 104)).drew
   have hO1 := (own_set (own_set (own_below HS.out.2.2.2.2.1 HB2.out) HRB.out (by decide) 0 (.int .i64 n)) (HRB.out.set 0 (.int .i64 n)) (by decide) 1 (.string X2)).alloc (.cells #[.int .i64 n, .string X2] 104)
   have hb1 := ((below_set (below_set (HS.out.2.2.2.2.2.trans (HB2.out.mono (by rw [hH];omega))) (H + 1) 0 (.int .i64 n) (by omega)) (H + 1) 1 (.string X2) (by omega)).alloc (by simp;omega) (.cells #[.int .i64 n, .string X2] 104)).drew
   obtain ⟨W8,hW8⟩ : ∃ u,(((w2.setCell ⟨H + 1,0,none⟩ (.int .i64 n)).setCell ⟨H + 1,1,none⟩ (.string X2)).alloc (.cells #[.int .i64 n, .string X2] 104)) = u := ⟨_,rfl⟩
   rw [hW8] at hK1 hR1 hO1 hb1 ⊢
   refine ⟨by simp, .inl ⟨_,_,rfl,run_takeDeferred hK1, ?_⟩⟩
   have hR2 : Blk (W8.drew.putObj D (.deferred none)) (H + 1) _ 104 := (World.putObj_heap_other (by omega)).trans hR1
   have hO2 : (W8.drew.putObj D (.deferred none)).ownsRow w.heap.size 172 2 (.slice A q cp) q (ecells l) := by
    refine World.ownsRow.kept (w := W8.drew) hO1 (grownBy_putObj' _ _ _) (.inr fun e => ?_)
    obtain ⟨c,fz,h⟩ := row_kind hO1 _ e
    have : W8.heap[D]? = some (.deferred (some [])) := hK1
    rw [this] at h
    cases h
   have q0 := hR2.cell 0
   have q1 := hR2.cell 1
   simp at q0 q1
   refine ⟨.tuple #[.slice A q cp, .agg #[.int .i64 n, .string X2], .int .i64 0], ?_,fun l1 T1 h => ?_,fun h => (by rw [HSOME.out] at h;cases h), ?_⟩
   ·simp [results,Tryz.f52,go_sem,q0,q1]
   ·rw [HSOME.out] at h
    cases h
    refine ⟨A,cp, ?_,by rw [HQ.out];exact hO2⟩
    rw [HQ.out,HT2.out,HX2.out]
   ·exact hb1.grown (grownBy_putObj' _ _ _) hb1.size (fun g e => by cases e;omega)
theorem take_zeroS (T : List Bool) (most : Nat) : takeS T 0 most = some ([],T) := by
 unfold takeS
 rw [trimR_zero,if_neg (by simp)]
 rfl
set_option maxRecDepth 100000 in
theorem take_zero (T : List Bool) (most : Nat) (w : World) (hn : T.length ≤ 4096) (hm : most ≤ 2199023255552) : Calls Tryz.prog 52 #[spv T, .int .i64 0, .int .i64 most] w fun e w' =>
  e = .returned (.tuple #[.slice none 0 0,spv T, .int .i64 0]) ∧ Below w.heap.size w w' := by
 have K := fun w => claim_any T [] none 0 w hn (fun h => by simp [ecells] at h) (fun x hx => by simp at hx) (by simp)
 rw [show turnV (turnS true T []) = .tuple #[spv T, .int .i64 0] from rfl] at K
 unfold spv at K ⊢
 obtain ⟨n,hn2⟩ : ∃ n,T.length = n := ⟨_,rfl⟩
 obtain ⟨X,hX⟩ : ∃ X,mk (packB T) = X := ⟨_,rfl⟩
 rw [hn2,hX] at K ⊢
 rw [List.length_nil] at K
 have m0 : ¬ ((most : Int) < 0) := by omega
 clear hn2 hX hn
 go_enter Tryz.func52,Tryz.ntmps52
 go_upto_region 5 with fail
 have hT0 := TSt.new w n 0 X
 obtain ⟨W0,hW0⟩ : ∃ u,(((w.alloc (.cells #[.int .i64 n, .string X] 104)).alloc (.cells #[.int .i64 0, .string ⟨#[]⟩] 104)).alloc (.cells #[.slice none 0 0] 95)).alloc (.cells #[.int .i64 0] 3) = u := ⟨_,rfl⟩
 rw [hW0] at hT0 ⊢
 obtain ⟨H,hH⟩ : ∃ H,w.heap.size = H := ⟨_,rfl⟩
 have HH := Lib.hid hH
 simp only [hH]
 have hs := hT0
 have d3 := hs.2.2.1.cell 0
 have d4 := hs.2.2.2.1.cell 0
 have d1 := hs.2.1.cell 0
 have d2 := hs.2.1.cell 1
 have e1 := hs.2.1.frozen 0
 have e2 := hs.2.1.frozen 1
 have z1 := hs.2.1.lt
 have z3 := hs.2.2.1.lt
 have z4 := hs.2.2.2.1.lt
 have s0 := hs.1.cell 0
 have s1 := hs.1.cell 1
 rw [hH] at d3 d4 d1 d2 e1 e2 z1 z3 z4 s0 s1
 simp at d3 d4 d1 d2 s0 s1
 have HS := Lib.hid hs
 clear hs hT0 hW0 hH
 go_upto_region 14 with (go_at_call 97;refine (K _).mono ?_;rintro e w2 ⟨rfl,hb2⟩;have HB2 := Lib.hid hb2;have hw2 := hb2.size;clear hb2)
 have hb2 := HB2.out
 have d3 := (hb2.cell (p := ⟨H + 1 + 1,0,none⟩) z3).trans d3
 have d1 := (hb2.cell (p := ⟨H + 1,0,none⟩) z1).trans d1
 have d2 := (hb2.cell (p := ⟨H + 1,1,none⟩) z1).trans d2
 have hRB := ((by have := HS.out.2.1;rw [HH.out] at this;exact this : Blk W0 (H + 1) _ 104)).below hb2
 have e1 := hRB.frozen 0
 have e2 := hRB.frozen 1
 have HRB := Lib.hid hRB
 clear hRB hb2
 have z1' : H + 1 < w2.heap.size := by omega
 have z3' : H + 1 + 1 < w2.heap.size := by omega
 go_region
 all_goals go_wp2
 have hR1 := (((HRB.out.set 0 (.int .i64 n)).set 1 (.string X)).alloc (.cells #[.int .i64 n, .string X] 104)).drew
 have hsb := HS.out.2.2.2.2.2
 rw [HH.out] at hsb
 have hb1 := ((below_set (below_set (hsb.trans (HB2.out.mono (by omega))) (H + 1) 0 (.int .i64 n) (by omega)) (H + 1) 1 (.string X) (by omega)).alloc (by simp;omega) (.cells #[.int .i64 n, .string X] 104)).drew
 obtain ⟨W8,hW8⟩ : ∃ u,(((w2.setCell ⟨H + 1,0,none⟩ (.int .i64 n)).setCell ⟨H + 1,1,none⟩ (.string X)).alloc (.cells #[.int .i64 n, .string X] 104)).drew = u := ⟨_,rfl⟩
 rw [hW8] at hR1 hb1 ⊢
 have q0 := hR1.cell 0
 have q1 := hR1.cell 1
 simp at q0 q1
 refine bodyPost_ret (v := .tuple #[.slice none 0 0, .agg #[.int .i64 n, .string X], .int .i64 0]) ?_ rfl ?_
 ·simp [results,Tryz.f52,go_sem,q0,q1]
 ·rw [HH.out];exact ⟨rfl,hb1⟩
end Go.Proofs.YtmjdmijloanfnaaGreatDoor
