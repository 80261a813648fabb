/- slices.Sort, Compact and DeleteFunc over a row of texts of the call's own. -/
import Derived.Test.YtlkfnhcnfjdgbaaDoorShelg
import Derived.Test.YtlkfnhcnfjdgbaaDoorKp
import Derived.Test.YtlkfnhcnfjdgbaaDoorCw
import Derived.Sort.OwnSorted
namespace Go.Proofs.YtlkfnhcnfjdgbaaDoor
open Go.RowKit Go.Maps Go.WideMaps Go.Sort
theorem info9 : (Tryd.prog.info? 9).map (fun i => (i.zero, i.size, i.bytes)) = some (some (.string ⟨#[]⟩), 1, 16) := by kernel_rfl
/-- The cells of texts. -/
def tcells (ss : List Bs) : List Value := ss.map fun b => .string (mk b)
theorem tcells_enc (ss : List Bs) : tcells ss = ss.map encStr := rfl
theorem row_some {w : World} {B g n cap e : Nat} {xs : List Value} (h : w.ownsRow B e 1 (.slice (some ⟨g, 0, none⟩) n cap) n xs) :
    ∃ cur, B ≤ g ∧ w.heap[g]? = some (.cells cur e (0, 0)) ∧ n ≤ cap ∧ cap ≤ maxLen ∧ cur.size = cap * 1 ∧ cur.toList.take n = xs := by
  rcases h.2 with ⟨hv, _⟩ | ⟨g', cap', cur, hv, h1, h2, h3, h4, h5, h6⟩
  · simp at hv
  · simp only [Value.slice.injEq, Option.some.injEq, Addr.mk.injEq, and_true, true_and] at hv
    obtain ⟨rfl, rfl⟩ := hv
    exact ⟨cur, h1, h2, h3, h4, h5, by simpa using h6⟩
theorem sort_own (g cap B : Nat) (ss : List Bs) (w : World) (hs : ss.length ≤ 1000000) (h : w.ownsRow B 9 1 (.slice (some ⟨g, 0, none⟩) ss.length cap) ss.length (tcells ss)) :
    Calls Tryd.prog 40 #[.slice (some ⟨g, 0, none⟩) ss.length cap] w fun e w' => e = .returned (.tuple #[]) ∧ w'.ownsRow B 9 1 (.slice (some ⟨g, 0, none⟩) ss.length cap) ss.length (tcells (sortB ss)) ∧ w.grownBy w' (some g) := by
  obtain ⟨cur, hB, hg, hn, hc, hz, ht⟩ := row_some h
  refine (Tryd.slices_Sort_string g 0 cap ss w (holds_of_block hg ht) (Array.getElem?_eq_some_iff.1 hg).1 (by omega)).mono ?_
  rintro e w' ⟨rfl, n, os, rfl⟩
  exact ⟨rfl, ownsRow_sorted (sortB_len ss) hB hg hn hc hz, grownBy_sorted _⟩
/-- A row is written anew, and a front of it taken. -/
theorem row_put {w : World} {B g cap q : Nat} {cur : Array Value} {ts zs : List Bs} (hB : B ≤ g) (hg : w.heap[g]? = some (.cells cur 9 (0, 0))) (hn : ts.length + zs.length ≤ cap) (hc : cap ≤ maxLen) (hz : cur.size = cap * 1) :
    (putRow encStr (Sort.ahead w q) g 0 (ts ++ zs).toArray).ownsRow B 9 1 (.slice (some ⟨g, 0, none⟩) ts.length cap) ts.length (tcells ts) ∧ w.grownBy (putRow encStr (Sort.ahead w q) g 0 (ts ++ zs).toArray) (some g) := by
  have e : putRow encStr (Sort.ahead w q) g 0 (ts ++ zs).toArray = grow (putRow encStr (Sort.ahead w q) g 0 (ts ++ zs).toArray) #[] := (grow_empty _).symm
  rw [e]
  refine ⟨⟨by simp [tcells], .inr ⟨g, cap, _, rfl, hB, heap_sorted _ hg, by omega, hc, by simp [putCells, hz], ?_⟩⟩, grownBy_sorted _⟩
  have h2 := take_putCells cur (ts ++ zs) (by simp; omega)
  have h3 := congrArg (List.take ts.length) h2
  rw [List.take_take] at h3
  rw [Nat.mul_one]
  rw [tcells_enc]
  simpa [Nat.min_eq_left] using h3
theorem compact_own (g cap B : Nat) (zs : List Bs) (w : World) (hs : zs.length ≤ 1000000) (h : w.ownsRow B 9 1 (.slice (some ⟨g, 0, none⟩) zs.length cap) zs.length (tcells zs)) :
    Calls Tryd.prog 42 #[.slice (some ⟨g, 0, none⟩) zs.length cap] w fun e w' => e = .returned (.slice (some ⟨g, 0, none⟩) (Lib.compact zs).length cap) ∧ w'.ownsRow B 9 1 (.slice (some ⟨g, 0, none⟩) (Lib.compact zs).length cap) (Lib.compact zs).length (tcells (Lib.compact zs)) ∧ w.grownBy w' (some g) := by
  obtain ⟨cur, hB, hg, hn, hc, hz, ht⟩ := row_some h
  refine (Tryd.slices_Compact_string g 0 cap zs w (holds_of_block hg ht) (by omega) hn).mono ?_
  rintro e w' ⟨rfl, q, rfl⟩
  have hl : (Lib.compact zs).length ≤ zs.length := by
    unfold Lib.compact Lib.compactUpTo
    rw [List.length_map]
    exact Nat.le_trans (List.length_filter_le _ _) (by simp)
  exact ⟨rfl, row_put hB hg (by rw [List.length_replicate]; omega) hc hz⟩
theorem known1 (t : Bs) (w : World) : Calls Tryd.prog 43 #[.string (mk t)] w fun e w' => e = .returned (.bool (t == [])) ∧ w' = w := by
  have hl : ((mk t).toList == []) = (t == []) := by rw [ByteArray.toList_eq, mk_data]
  obtain ⟨b, hb⟩ : ∃ b, (t == []) = b := ⟨_, rfl⟩
  obtain ⟨z, hz⟩ : ∃ z, mk t = z := ⟨_, rfl⟩
  rw [hb, hz] at hl
  rw [hb, hz]
  clear hb hz
  go_enter Tryd.func43, Tryd.ntmps43
  go_wp2
  go_ret
  exact ⟨rfl, rfl⟩
theorem delete_own (g cap B : Nat) (zs : List Bs) (w : World) (hs : zs.length ≤ 1000000) (h : w.ownsRow B 9 1 (.slice (some ⟨g, 0, none⟩) zs.length cap) zs.length (tcells zs)) :
    Calls Tryd.prog 41 #[.slice (some ⟨g, 0, none⟩) zs.length cap, .func (.func 43) #[] #[]] w fun e w' => e = .returned (.slice (some ⟨g, 0, none⟩) (zs.filter fun x => !(x == [])).length cap) ∧
      w'.ownsRow B 9 1 (.slice (some ⟨g, 0, none⟩) (zs.filter fun x => !(x == [])).length cap) (zs.filter fun x => !(x == [])).length (tcells (zs.filter fun x => !(x == []))) ∧ w.grownBy w' (some g) := by
  obtain ⟨cur, hB, hg, hn, hc, hz, ht⟩ := row_some h
  have eg : ∀ args w, (callFunc 43 args).run Tryd.prog w = .ok (.enter 43 args) w := enters_of Tryd.func43 (by kernel_rfl) rfl
  have hgv : ∀ (x : Bs) (W : World), Go.Proofs.FnGives Tryd.prog 43 #[] #[encStr x] (.bool (x == [])) W := fun x W => (known1 x W).mono fun e w' ⟨h1, h2⟩ => ⟨h1, 0, h2⟩
  have K := Tryd.slices_DeleteFunc encStr (fun _ => rfl) (fun x => x == []) 43 #[] eg [] Tryd.zeroValue9 g 0 cap zs.toArray w (fun W x _ => hgv x W) (fun n os dk x _ => hgv x _) (holds_of_block hg ht) (by simp; omega) (by simpa using hn)
  simp only [List.size_toArray] at K
  refine K.mono ?_
  rintro e w' ⟨rfl, q, rfl⟩
  have hl := List.length_filter_le (fun x => !(x == [])) zs
  exact ⟨rfl, row_put hB hg (by rw [List.length_replicate]; omega) hc hz⟩
theorem delete_none (a : Option Addr) (cap : Nat) (w : World) : Calls Tryd.prog 41 #[.slice a 0 cap, .func (.func 43) #[] #[]] w fun e w' => e = .returned (.slice a 0 cap) ∧ w' = w := by
  have K := fun w => Tryd.slices_IndexFunc_empty (α := Bs) a cap (.func (.func 43) #[] #[]) w
  go_enter Tryd.func41, Tryd.ntmps41
  go_wp2_with (go_at_call 45; refine (K _).mono ?_; rintro e w' ⟨rfl, rfl⟩)
  go_wp2
  go_ret
  exact ⟨rfl, rfl⟩
end Go.Proofs.YtlkfnhcnfjdgbaaDoor
