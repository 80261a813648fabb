import Derived.Test.YtkaejgpnhcdlnaaIter
import Derived.Test.YtkaejgpnhcdlnaaRows
import Derived.Test.YtkaejgpnhcdlnaaKit
namespace Go.Proofs.Ytkaejgpnhcdlnaa
open Go.RowKit Go.Shelf
attribute [local go_sem] Oper.semAt_some
abbrev encE (x : Int × Int) : Array Value := #[.agg #[.int .i64 x.1, .int .i64 x.2]]
/-- The slice value A, n reads as the extents es, in memory below block B. -/
def Ext (w : World) (B : Nat) (A : Option Addr) (es : List (Int × Int)) : Prop :=
  (A = none ∧ es = []) ∨ ∃ b off, A = some ⟨b, off, none⟩ ∧ b < B ∧ ∀ j, j < es.length → w.cell? ⟨b, off + j * 2, none⟩ = some (.int .i64 (es[j]?.getD (0, 0)).1) ∧ w.cell? ⟨b, off + j * 2 + 1, none⟩ = some (.int .i64 (es[j]?.getD (0, 0)).2)
theorem Ext.below {w w' : World} {B : Nat} {A : Option Addr} {es : List (Int × Int)} (h : Ext w B A es) (hb : Below B w w') : Ext w' B A es :=
  h.imp id fun ⟨b, off, e, hB, hc⟩ => ⟨b, off, e, hB, fun j hj => ⟨(hb.cell (p := ⟨b, _, none⟩) hB).trans (hc j hj).1, (hb.cell (p := ⟨b, _, none⟩) hB).trans (hc j hj).2⟩⟩

set_option maxRecDepth 100000 in
set_option maxHeartbeats 1000000 in
theorem values_stops (w : World) (n0 Bs cap : Nat) (A : Option Addr) (es : List (Int × Int)) (hlen : es.length ≤ 1000) (hn0 : n0 ≤ w.heap.size) (hBs : Bs < w.heap.size) (hbox : w.cell? ⟨Bs, 0, none⟩ = some (.slice A es.length cap)) (hE : Ext w n0 A es) :
    Stops Fence.wide 5 Try.prog 13 #[] #[.pointer (some ⟨Bs, 0, none⟩)] encE (Below n0) (fun pre x => es[pre.length]? = some x) (fun xs => xs = es) (fun _ => True) w := by
  intro l J Jx W hW hJ hJx hY h0
  have hb := (hW.cell (p := ⟨Bs, 0, none⟩) hBs).trans hbox
  have hE' := hE.below (hW.mono hn0)
  have hz := hW.size
  clear hbox hE
  refine callsIn_of_wp Try.func13 rfl trivial ?_ rfl
  simp only [Try.ntmps13, List.size_toArray, List.length_cons, List.length_nil, Nat.reduceAdd, Nat.reduceSub, Array.replicate_succ, Array.replicate_zero, List.push_toArray, List.append_toArray, List.nil_append, List.cons_append]
  gi_wp2
  gi_loopw [7] (fun i wr => ∃ k : Nat, k ≤ es.length ∧ i = .int .i64 k ∧ J (es.take k) wr ∧ Below n0 W wr) (fun i _ => es.length - (intOf i).toNat)
  case atStart => exact ⟨0, Nat.zero_le _, rfl, h0, Below.refl _ _⟩
  case round =>
    obtain ⟨k, hk, rfl, hJs, hnx⟩ := hrel
    by_cases hlt : k < es.length
    · rcases hE'.below hnx with ⟨_, he⟩ | ⟨b, off, rfl, hb0, hc⟩
      · rw [he] at hlt; simp at hlt
      obtain ⟨c1, c2⟩ := hc k hlt
      obtain ⟨fn, tmps, assign, body, hy, hR⟩ := hY (es.take k) es[k] _ (abides_alloc hJ hJs (.cells #[.int .i64 es[k].1, .int .i64 es[k].2] 26)) (by rw [List.length_take, Nat.min_eq_left hk]; exact List.getElem?_eq_getElem hlt)
      dsimp only [encE] at hy
      gi_wp2
      refine hR.mono ?_
      have hsn : es.take k ++ [es[k]] = es.take (k + 1) := (List.take_succ_eq_append_getElem hlt).symm
      rintro e W3 (⟨rfl, hJ3, hk3⟩ | ⟨rfl, hJx3⟩)
      · rw [hsn] at hJ3
        have hb3 : Below n0 W W3 := hnx.trans (((Below.refl n0 wr).alloc (by have := hnx.size; omega) _).trans hk3)
        clear hsn
        gi_wp2
        go_roundw
        case rel => exact ⟨k + 1, by omega, by simp, hJ3, hb3⟩
        case measure => simp [intOf]; omega
      · gi_wp2
        refine bodyPost_ret (results_none rfl _ _ _) rfl ?_
        exact ⟨⟨_, rfl⟩, .inr ⟨_, trivial, hJx3⟩⟩
    · obtain rfl : k = es.length := by omega
      rw [List.take_length] at hJs
      gi_wp2
      go_end0
      exact ⟨⟨_, rfl⟩, .inl ⟨_, rfl, hJs⟩⟩
end Go.Proofs.Ytkaejgpnhcdlnaa
