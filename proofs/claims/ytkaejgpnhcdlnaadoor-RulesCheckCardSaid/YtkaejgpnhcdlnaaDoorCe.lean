/- What RulesCheck's list of variables says to the walks: the table of powers, the two sentinels; the world that its witness starts in. -/
import Derived.Test.YtkaejgpnhcdlnaaDoorVcVw
import Derived.Test.YtkaejgpnhcdlnaaDoorBase
import Derived.Stop.LaidErr
import Derived.MakeChecks
namespace Go.Proofs.YtkaejgpnhcdlnaaDoor
open Go.ChangeShapes Go.WideShapes Go.ChangeAt Go.RowKit
noncomputable def laidC (os : Os) : World :=
  { World.doorLaid Tryd.prog 400 os with heap := (World.doorLaid Tryd.prog 400 os).heap.modify 1 fun
      | .cells _ t frozen => .cells firstCells t frozen
      | o => o }
theorem laidC_met (os : Os) (args : Array Value) : laidMet Tryd.prog Rows.rulesCheckRow.laid ((laidC os).forCall (fun _ _ => 0) ⟨#[], args, []⟩).memory :=
  laidMet_of_run' 8 (by kernel_rfl) (by kernel_rfl)
theorem star : "*" ++ "errors.errorString" = "*errors.errorString" := by decide
theorem row129 (u : TypeId) (h : Tryd.prog.typeName? 3 u = some "*errors.errorString") : u = 129 :=
  typeName_ptr_named (nm := "errors.errorString") (by rw [star]; kernel_rfl) (by kernel_rfl) (by decide) u (by rw [star]; exact h)
theorem pow_data : (Rows.laid_internal_strconv_uint64pow10 : DataW Unit) = Lib.tabData .u64 Lib.pow10Tab := by kernel_rfl
theorem envw_of {W : World} {laid : List (String × DataW Unit)} (hlist : laid = Rows.rulesCheckRow.laid) (hmet : laidMetH Tryd.prog laid W) (hsh : W.ShapedOpen Tryd.prog) : Vc.Envw W := by
  subst hlist
  rw [Go.MakeChecks.laidMetH_plain _ _ _ (by kernel_rfl)] at hmet
  obtain ⟨m, hm⟩ := maxLen_some hsh
  have h0 : 0 < W.heap.size := by
    rcases Nat.eq_zero_or_pos W.heap.size with h | h
    · rw [World.cell?, Array.getElem?_eq_none (by simp [h])] at hm; cases hm
    · exact h
  have hT := hmet.tail.tail
  have htab : Lib.TabIs Tryd.prog W "internal/strconv.uint64pow10" .u64 Lib.pow10Tab :=
    Lib.tabIs_of_head (g := 5) (t := 133) (e := 116) (n := 20) (by kernel_rfl) (by kernel_rfl) (by kernel_rfl) (by kernel_rfl) (by kernel_rfl) (by kernel_rfl) (pow_data ▸ hT)
  have hR := hT.tail.tail
  obtain ⟨a1, s1, hv1, _⟩ := laid_sentinel (g := 4) (ti := 56) (tp := 129) (te := 131) (ts := 9) hR (by kernel_rfl) (by kernel_rfl) Tryd.underlying56 row129 Tryd.underlying129 Tryd.underlying131 rfl rfl Tryd.underlying9 (by kernel_rfl) (by kernel_rfl)
  obtain ⟨a2, s2, hv2, _⟩ := laid_sentinel (g := 3) (ti := 56) (tp := 129) (te := 131) (ts := 9) hR.tail (by kernel_rfl) (by kernel_rfl) Tryd.underlying56 row129 Tryd.underlying129 Tryd.underlying131 rfl rfl Tryd.underlying9 (by kernel_rfl) (by kernel_rfl)
  exact ⟨⟨m, hm⟩, h0, htab, ⟨_, _, hv2⟩, ⟨_, _, hv1⟩⟩
end Go.Proofs.YtkaejgpnhcdlnaaDoor
