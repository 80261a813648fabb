/- slices.DeleteFunc over a row of texts of the call's own: what is empty goes. -/
import Derived.Test.YtejokbfejkkpmaaDoorRt
import Derived.Test.YtejokbfejkkpmaaDoorShelh
import Derived.Sort.OwnSorted
import Derived.Deep.LoopGhost
namespace Go.Proofs.YtejokbfejkkpmaaDoor
open Go.RowKit Go.Maps Go.WideMaps Go.Sort
theorem tcells_enc (ss : List Bs) : tcells ss = ss.map encStr := rfl
theorem zeroValue9r (w : World) : (zeroValue 9).run Tryd.prog w = .ok (encStr []) w := by kernel_rfl
theorem row_some {w : World} {B g n cap e : Nat} {xs : List Value} (h : w.ownsRow B e 1 (.slice (some ⟨g, 0, none⟩) n cap) n xs) :
    ∃ cur, B ≤ g ∧ w.heap[g]? = some (.cells cur e (0, 0)) ∧ n ≤ cap ∧ cap ≤ maxLen ∧ cur.size = cap * 1 ∧ cur.toList.take n = xs := by
  rcases h.2 with ⟨hv, _⟩ | ⟨g', cap', cur, hv, h1, h2, h3, h4, h5, h6⟩
  · simp at hv
  · simp only [Value.slice.injEq, Option.some.injEq, Addr.mk.injEq, and_true, true_and] at hv
    obtain ⟨rfl, rfl⟩ := hv
    exact ⟨cur, h1, h2, h3, h4, h5, by simpa using h6⟩
/-- A row is written anew, and a front of it taken. -/
theorem row_put {w : World} {B g cap q : Nat} {cur : Array Value} {ts zs : List Bs} (hB : B ≤ g) (hg : w.heap[g]? = some (.cells cur 9 (0, 0))) (hn : ts.length + zs.length ≤ cap) (hc : cap ≤ maxLen) (hz : cur.size = cap * 1) :
    (putRow encStr (Sort.ahead w q) g 0 (ts ++ zs).toArray).ownsRow B 9 1 (.slice (some ⟨g, 0, none⟩) ts.length cap) ts.length (tcells ts) ∧ w.grownBy (putRow encStr (Sort.ahead w q) g 0 (ts ++ zs).toArray) (some g) := by
  have e : putRow encStr (Sort.ahead w q) g 0 (ts ++ zs).toArray = grow (putRow encStr (Sort.ahead w q) g 0 (ts ++ zs).toArray) #[] := (grow_empty _).symm
  rw [e]
  refine ⟨⟨by simp [tcells], .inr ⟨g, cap, _, rfl, hB, heap_sorted _ hg, by omega, hc, by simp [putCells, hz], ?_⟩⟩, grownBy_sorted _⟩
  have h2 := take_putCells cur (ts ++ zs) (by simp; omega)
  have h3 := congrArg (List.take ts.length) h2
  rw [List.take_take] at h3
  rw [Nat.mul_one]
  rw [tcells_enc]
  simpa [Nat.min_eq_left] using h3
theorem known1 (t : Bs) (w : World) : Calls Tryd.prog 48 #[.string (mk t)] w fun e w' => e = .returned (.bool (t == [])) ∧ w' = w := by
  have hl : ((mk t).toList == []) = (t == []) := by rw [ByteArray.toList_eq, mk_data]
  obtain ⟨b, hb⟩ : ∃ b, (t == []) = b := ⟨_, rfl⟩
  obtain ⟨z, hz⟩ : ∃ z, mk t = z := ⟨_, rfl⟩
  rw [hb, hz] at hl
  rw [hb, hz]
  clear hb hz
  go_enter Tryd.func48, Tryd.ntmps48
  go_wp2
  go_ret
  exact ⟨rfl, rfl⟩
theorem delete_own (g cap B : Nat) (zs : List Bs) (w : World) (hs : zs.length ≤ 1000000) (h : w.ownsRow B 9 1 (.slice (some ⟨g, 0, none⟩) zs.length cap) zs.length (tcells zs)) :
    Calls Tryd.prog 47 #[.slice (some ⟨g, 0, none⟩) zs.length cap, .func (.func 48) #[] #[]] w fun e w' => e = .returned (.slice (some ⟨g, 0, none⟩) (zs.filter fun x => !(x == [])).length cap) ∧
      w'.ownsRow B 9 1 (.slice (some ⟨g, 0, none⟩) (zs.filter fun x => !(x == [])).length cap) (zs.filter fun x => !(x == [])).length (tcells (zs.filter fun x => !(x == []))) ∧ w.grownBy w' (some g) := by
  obtain ⟨cur, hB, hg, hn, hc, hz, ht⟩ := row_some h
  have eg : ∀ args w, (callFunc 48 args).run Tryd.prog w = .ok (.enter 48 args) w := enters_of Tryd.func48 (by kernel_rfl) rfl
  have hgv : ∀ (x : Bs) (W : World), Go.Proofs.FnGives Tryd.prog 48 #[] #[encStr x] (.bool (x == [])) W := fun x W => (known1 x W).mono fun e w' ⟨h1, h2⟩ => ⟨h1, 0, h2⟩
  have K := Tryd.slices_DeleteFunc encStr (fun _ => rfl) (fun x => x == []) 48 #[] eg [] zeroValue9r g 0 cap zs.toArray w (fun W x _ => hgv x W) (fun n os dk x _ => hgv x _) (holds_of_block hg ht) (by simp; omega) (by simpa using hn)
  simp only [List.size_toArray] at K
  refine K.mono ?_
  rintro e w' ⟨rfl, q, rfl⟩
  have hl := List.length_filter_le (fun x => !(x == [])) zs
  exact ⟨rfl, row_put hB hg (by rw [List.length_replicate]; omega) hc hz⟩
theorem index_none (a : Option Addr) (cap : Nat) (fv : Value) (w : World) : Calls Tryd.prog 62 #[.slice a 0 cap, fv] w fun e w' => e = .returned (.int .i64 (-1)) ∧ w' = w := by
  go_enter Tryd.func62, Tryd.ntmps62
  go_wp2
  go_loopg [5, 8] 0 (fun _ _ s8 wr => s8 = .int .i64 0 ∧ wr = w)
  case atStart => exact ⟨rfl, rfl⟩
  case round =>
    obtain ⟨rfl, rfl⟩ := hrel
    go_wp2
    go_ret
    exact ⟨rfl, rfl⟩
theorem delete_none (a : Option Addr) (cap : Nat) (w : World) : Calls Tryd.prog 47 #[.slice a 0 cap, .func (.func 48) #[] #[]] w fun e w' => e = .returned (.slice a 0 cap) ∧ w' = w := by
  have K := fun w => index_none a cap (.func (.func 48) #[] #[]) w
  go_enter Tryd.func47, Tryd.ntmps47
  go_wp2_with (go_at_call 62; refine (K _).mono ?_; rintro e w' ⟨rfl, rfl⟩)
  go_wp2
  go_ret
  exact ⟨rfl, rfl⟩
end Go.Proofs.YtejokbfejkkpmaaDoor
