/- What each row of this seat shares: the world that a witness starts in (the door's own run, and the pinned table), the number that internal/bytealg keeps. -/
import Derived.Test.YtcmcdddnckcpcaaGreatDoorRows
import Derived.ProofKit
import Derived.LaidMore
import Derived.OpenShut
import Derived.ShutString
import Derived.Deep.DeepHandedRow
import Derived.Shelf.Vars
import Derived.MakeChecks
import Derived.Lib.LaidTab
import Derived.Test.YtcmcdddnckcpcaaGreatDoorCr
namespace Go.Proofs.YtcmcdddnckcpcaaGreatDoor
open Go.ChangeShapes Go.WideShapes Go.ChangeAt Go.RowKit
theorem own : ownKnob Tryz.prog.godebug = none := by kernel_rfl
theorem laidOut : laidOutB Tryz.prog = true := by kernel_rfl
/-- The pinned table lies where it lies. -/
theorem tb_of {W : World} {laid : List (String × DataW Unit)} (hlist : laid = Rows.fileNamesRow.laid) (hmet : laidMetH Tryz.prog laid W) : TB W := by
  subst hlist
  rw [Go.MakeChecks.laidMetH_plain _ _ _ (by kernel_rfl)] at hmet
  rw [show Rows.fileNamesRow.laid = [("stemma/crc.table", (Lib.tabData .u32 tblL : DataW Unit))] by kernel_rfl] at hmet
  have htab : Lib.TabIs Tryz.prog W "stemma/crc.table" .u32 tblL :=
    Lib.tabIs_of_head (g := 0) (t := 186) (e := 153) (n := 16) (by kernel_rfl) (by kernel_rfl) (by kernel_rfl) (by kernel_rfl) (by kernel_rfl) (by kernel_rfl) hmet
  intro k hk
  exact htab.cell (by kernel_rfl) k hk
theorem tb_pos {W : World} (h : TB W) : 0 < W.heap.size := by
  have := h 0 (by decide)
  rcases Nat.eq_zero_or_pos W.heap.size with h0 | h0
  · rw [World.cell?, Array.getElem?_eq_none (by simp [h0])] at this; cases this
  · exact h0
noncomputable def laidW (os : Os) : World := World.doorLaid Tryz.prog 400 os
theorem laid_met (os : Os) (args : Array Value) : laidMet Tryz.prog Rows.fileNamesRow.laid ((laidW os).forCall (fun _ _ => 0) ⟨#[], args, []⟩).memory :=
  laidMet_of_run' 8 (by kernel_rfl) (by kernel_rfl)
end Go.Proofs.YtcmcdddnckcpcaaGreatDoor
