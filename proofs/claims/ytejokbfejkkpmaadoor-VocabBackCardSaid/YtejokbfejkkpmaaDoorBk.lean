/- slices.Backward over pairs: its iterator's contract; the ranks of a list. -/
import Derived.Test.YtejokbfejkkpmaaDoorRk
import Derived.RangeFuncNested
import Derived.RangeFuncCalls
import Derived.RangeFuncLeaves
import Derived.RangeFuncBox
import Derived.Shelf.Abstract
import Derived.OwnWalkIn
import Derived.TacticsInMore
import Derived.LoopNIn
import Derived.LoopIn
import Derived.Maps.OwnIn
namespace Go.Proofs.YtejokbfejkkpmaaDoor
open Go.RowKit Go.Shelf
attribute [local go_sem] Oper.semAt_some
/-- What is yielded: a place, a pair. -/
abbrev Yl := { x : Nat × Pr // x.1 ≤ 1000 ∧ x.2.1.length ≤ maxLen ∧ x.2.2.length ≤ maxLen }
abbrev encB (x : Yl) : Array Value := #[.int .i64 x.1.1, .agg #[.string (mk x.1.2.1), .string (mk x.1.2.2)]]
/-- All of them, from the last. -/
def bw : Nat → List Pr → List (Nat × Pr)
  | _, [] => []
  | k, a :: l => bw (k + 1) l ++ [(k, a)]
def updR (f : Pr → Option Nat) (x : Nat × Pr) (p : Pr) : Option Nat := if p = x.2 then some x.1 else f p
def foldR (l : List (Nat × Pr)) : Pr → Option Nat := l.foldl updR (fun _ => none)
theorem foldR_snoc (l : List (Nat × Pr)) (x : Nat × Pr) : foldR (l ++ [x]) = updR (foldR l) x := by simp [foldR]
theorem foldR_bw (l : List Pr) : ∀ k, foldR (bw k l) = rkL k l := by
  induction l with
  | nil => intro k; rfl
  | cons a l ih => intro k; funext p; rw [bw, foldR_snoc, ih]; rfl
theorem bw_length (l : List Pr) : ∀ k, (bw k l).length = l.length := by
  induction l with
  | nil => intro k; rfl
  | cons a l ih => intro k; simp [bw, ih]
theorem PairArg.belowK {w w' : World} {A : Option Addr} {n B : Nat} {ps : List Pr} (h : PairArg w A n ps) (hB : w.heap.size ≤ B) (hb : Below B w w') : PairArg w' A n ps := by
  refine ⟨h.1, h.2.1, fun hn => ?_, h.2.2.2⟩
  obtain ⟨b, off, e, hl, hc⟩ := h.2.2.1 hn
  exact ⟨b, off, e, Nat.lt_of_lt_of_le hl hb.size, fun j hj => ⟨(hb.cell (p := ⟨b, _, none⟩) (by simp only; omega)).trans (hc j hj).1, (hb.cell (p := ⟨b, _, none⟩) (by simp only; omega)).trans (hc j hj).2⟩⟩
theorem backward_any (A : Option Addr) (n cap : Nat) (w : World) : Calls Tryd.prog 44 #[.slice A n cap] w fun e w' => e = .returned (.func (.func 58) #[] #[.pointer (some ⟨w.heap.size, 0, none⟩)]) ∧ w.alloc (.cells #[.slice A n cap] 24) = w' := by
  go_enter Tryd.func44, Tryd.ntmps44
  go_wp2
  go_ret
  exact ⟨rfl, rfl⟩
theorem abides_alloc {β : Type} {B : Nat} {J : β → World → Prop} (hJ : AbidesFrom B J) {s : β} {W : World} (h : J s W) (o : Obj) : J s (W.alloc o) :=
  hJ s W _ none h (World.grownBy_alloc W o none) (fun r e => by cases e)
set_option maxRecDepth 100000 in
set_option maxHeartbeats 1000000 in
theorem backward_stops (w w0 : World) (n0 Bs cap n : Nat) (A : Option Addr) (l : List Pr) (hBs : Bs < w.heap.size) (hbox : w.cell? ⟨Bs, 0, none⟩ = some (.slice A n cap)) (hE : PairArg w0 A n l) (hw0 : w0.heap.size = n0) (hbw : Below n0 w0 w) (hn : n ≤ 1000) :
    SeqStopsK Fence.wide 5 Tryd.prog 58 #[.pointer (some ⟨Bs, 0, none⟩)] encB (fun W1 W2 => Below n0 W1 W2 ∧ W2.cell? ⟨Bs, 0, none⟩ = W1.cell? ⟨Bs, 0, none⟩) (fun xs => xs.map Subtype.val = bw 0 l) (fun _ => True) n w := by
  intro y J Jx W hW hJ hJx hY h0
  have hb := (hW.cell (p := ⟨Bs, 0, none⟩) hBs).trans hbox
  have hln := hE.1
  have hz0 := hbw.size
  have hbw' := hbw.trans (hW.mono (by omega))
  have hz := hW.size
  clear hbox
  refine callsIn_of_wp Tryd.func58 rfl trivial ?_ rfl
  simp only [Tryd.ntmps58, List.size_toArray, List.length_cons, List.length_nil, Nat.reduceAdd, Nat.reduceSub, Array.replicate_succ, Array.replicate_zero, List.push_toArray, List.append_toArray, List.nil_append, List.cons_append]
  gi_wp2
  gi_loopw [3] (fun i wr => ∃ (k : Nat) (pre : List Yl), pre.map Subtype.val = bw k (l.drop k) ∧ k ≤ n ∧ i = .int .i64 ((k : Int) - 1) ∧ J pre wr ∧ Below n0 W wr ∧ wr.cell? ⟨Bs, 0, none⟩ = some (.slice A n cap)) (fun i _ => (intOf i + 1).toNat)
  case atStart => exact ⟨n, [], by rw [List.drop_eq_nil_of_le (by omega)]; rfl, Nat.le_refl _, rfl, h0, Below.refl _ _, hb⟩
  case round =>
    obtain ⟨k, pre, hpre, hk, rfl, hJs, hnx, hbx⟩ := hrel
    rcases Nat.eq_zero_or_pos k with rfl | kp
    · rw [List.drop_zero] at hpre
      have HP := Lib.hid hpre
      clear hpre
      gi_wp2
      go_end0
      exact ⟨⟨_, rfl⟩, .inl ⟨_, HP.out, hJs⟩⟩
    · obtain ⟨k, rfl⟩ : ∃ k', k = k' + 1 := ⟨k - 1, by omega⟩
      have hkl : k < l.length := by omega
      obtain ⟨g, off, rfl, hgl, hc⟩ := hE.2.2.1 (by omega)
      have hbb := hbw'.trans hnx
      have c1 := (hbb.cell (p := ⟨g, off + k * 2, none⟩) (by simp only; omega)).trans (hc k hkl).1
      have c2 := (hbb.cell (p := ⟨g, off + k * 2 + 1, none⟩) (by simp only; omega)).trans (hc k hkl).2
      have hsz := hE.2.2.2 _ (List.getElem_mem hkl)
      have hdr : l.drop k = l[k] :: l.drop (k + 1) := List.drop_eq_getElem_cons hkl
      have hpl : pre.length < n := by
        have h1 := congrArg List.length hpre
        rw [List.length_map, bw_length, List.length_drop] at h1
        omega
      obtain ⟨x, hx⟩ : ∃ x : Yl, x.1 = (k, l[k]) := ⟨⟨(k, l[k]), by simp only; omega, by unfold maxLen; exact hsz.1, by unfold maxLen; exact hsz.2⟩, rfl⟩
      obtain ⟨fn, tmps, assign, body, hy, hR⟩ := hY pre x _ hJs hpl
      dsimp only [encB] at hy
      rw [hx] at hy
      have hpre2 : Hid ((pre ++ [x]).map Subtype.val = bw k (l.drop k)) := Lib.hid (by rw [List.map_append, hpre, hdr]; simp [bw, hx])
      have k0 : (0 : Int) ≤ (k : Int) := by omega
      have k1 : (k : Int) < (n : Int) := by omega
      have e1 : ((k + 1 : Nat) : Int) - 1 = (k : Int) := by omega
      rw [e1]
      simp only at hy
      obtain ⟨U, hU⟩ : ∃ U, mk l[k].1 = U := ⟨_, rfl⟩
      obtain ⟨V, hV⟩ : ∃ U, mk l[k].2 = U := ⟨_, rfl⟩
      rw [hU] at c1 hy
      rw [hV] at c2 hy
      clear hpre hdr hx hc hU hV hE hbw hbw' hpl hsz e1 hbb
      gi_wp2
      refine hR.mono ?_
      rintro e W3 (⟨rfl, hJ3, hk3, hk4⟩ | ⟨rfl, hJx3⟩)
      · have hb3 : Below n0 W W3 := hnx.trans hk3
        have hb4 := hk4.trans hbx
        clear hk4
        gi_wp2
        go_roundw
        case rel => exact ⟨k, _, hpre2.out, by omega, rfl, hJ3, hb3, hb4⟩
        case measure => (simp [intOf] <;> omega)
      · gi_wp2
        refine bodyPost_ret (results_none rfl _ _ _) rfl ?_
        exact ⟨⟨_, rfl⟩, .inr ⟨_, trivial, hJx3⟩⟩
end Go.Proofs.YtejokbfejkkpmaaDoor
