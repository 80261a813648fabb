/- What the row's list of variables says to the walks: the table of powers, the two sentinels; the world that a witness starts in. -/
import Derived.Test.YtejokbfejkkpmaaDoorVw
import Derived.Test.YtejokbfejkkpmaaDoorBa
import Derived.Stop.LaidErr
import Derived.MakeChecks
import Derived.Shelf.Vars
namespace Go.Proofs.YtejokbfejkkpmaaDoor
open Go.ChangeShapes Go.WideShapes Go.ChangeAt Go.RowKit
noncomputable def laidV (os : Os) : World := World.doorLaid Tryd.prog 400 os
theorem laidV_met (os : Os) (args : Array Value) : laidMet Tryd.prog Rows.vocabParseRow.laid ((laidV os).forCall (fun _ _ => 0) ⟨#[], args, []⟩).memory :=
  laidMet_of_run' 8 (by kernel_rfl) (by kernel_rfl)
theorem maxLen_some {W : World} (h : W.ShapedOpen Tryd.prog) : ∃ m, W.cell? ⟨0, 0, none⟩ = some (.int .i64 m) :=
  cell_of_shapedOpen_int (g := 0) (t := 3) (zero := #[.int .i64 0]) h (of_decide_eq_true (by kernel_rfl)) (by kernel_rfl) rfl (by kernel_rfl) (by kernel_rfl) Tryd.underlying3
theorem star : "*" ++ "errors.errorString" = "*errors.errorString" := by decide
theorem row188 (u : TypeId) (h : Tryd.prog.typeName? 3 u = some "*errors.errorString") : u = 188 :=
  typeName_ptr_named (nm := "errors.errorString") (by rw [star]; kernel_rfl) (by kernel_rfl) (by decide) u (by rw [star]; exact h)
theorem pow_data : (Rows.laid_internal_strconv_uint64pow10 : DataW Unit) = Lib.tabData .u64 Lib.pow10Tab := by kernel_rfl
theorem envw_of {W : World} {laid : List (String × DataW Unit)} (hlist : laid = Rows.vocabParseRow.laid) (hmet : laidMetH Tryd.prog laid W) (hsh : W.ShapedOpen Tryd.prog) : Envw W := by
  subst hlist
  rw [Go.MakeChecks.laidMetH_plain _ _ _ (by kernel_rfl)] at hmet
  obtain ⟨m, hm⟩ := maxLen_some hsh
  have h0 : 0 < W.heap.size := by
    rcases Nat.eq_zero_or_pos W.heap.size with h | h
    · rw [World.cell?, Array.getElem?_eq_none (by simp [h])] at hm; cases hm
    · exact h
  have hT := hmet.tail.tail
  have htab : Lib.TabIs Tryd.prog W "internal/strconv.uint64pow10" .u64 Lib.pow10Tab :=
    Lib.tabIs_of_head (g := 3) (t := 177) (e := 159) (n := 20) (by kernel_rfl) (by kernel_rfl) (by kernel_rfl) (by kernel_rfl) (by kernel_rfl) (by kernel_rfl) (pow_data ▸ hT)
  have hR := hT.tail
  obtain ⟨a1, s1, hv1, _⟩ := laid_sentinel (g := 2) (ti := 95) (tp := 188) (te := 190) (ts := 9) hR (by kernel_rfl) (by kernel_rfl) Tryd.underlying95 row188 Tryd.underlying188 Tryd.underlying190 rfl rfl Tryd.underlying9 (by kernel_rfl) (by kernel_rfl)
  obtain ⟨a2, s2, hv2, _⟩ := laid_sentinel (g := 1) (ti := 95) (tp := 188) (te := 190) (ts := 9) hR.tail (by kernel_rfl) (by kernel_rfl) Tryd.underlying95 row188 Tryd.underlying188 Tryd.underlying190 rfl rfl Tryd.underlying9 (by kernel_rfl) (by kernel_rfl)
  exact ⟨⟨m, hm⟩, h0, htab, ⟨_, _, hv2⟩, ⟨_, _, hv1⟩⟩
end Go.Proofs.YtejokbfejkkpmaaDoor
