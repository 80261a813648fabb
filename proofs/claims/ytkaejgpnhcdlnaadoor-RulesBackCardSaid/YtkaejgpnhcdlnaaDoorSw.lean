/- rules.Show, walked: the text of the rules. -/
import Derived.Test.YtkaejgpnhcdlnaaDoorBd
import Derived.Test.YtkaejgpnhcdlnaaDoorPb
import Derived.Test.YtkaejgpnhcdlnaaDoorLl
namespace Go.Proofs.YtkaejgpnhcdlnaaDoor
open Go.RowKit
theorem mk_line (r : Rl) : mk r.1 ++ ⟨#[32]⟩ ++ mk r.2 ++ ⟨#[10]⟩ = mk (lineOf r) := by
  have e1 : (⟨#[32]⟩ : ByteArray) = mk [32] := rfl
  have e2 : (⟨#[10]⟩ : ByteArray) = mk [10] := rfl
  rw [e1, e2, mk_append, mk_append, mk_append]
  simp [lineOf]
theorem strCells_mk (l : Bs) : Lib.strCells (mk l) = Lib.byteCells l := by
  unfold Lib.strCells Lib.byteCells
  rw [mk_data]
theorem byteCells_append (a b : Bs) : Lib.byteCells (a ++ b) = Lib.byteCells a ++ Lib.byteCells b := by simp [Lib.byteCells]
theorem show_take (rs : List Rl) (k : Nat) (h : k < rs.length) : showS (rs.take (k + 1)) = showS (rs.take k) ++ lineOf rs[k] := by
  unfold showS
  rw [List.take_succ_eq_append_getElem h, List.flatMap_append]
  simp
theorem show_take_le (rs : List Rl) (k : Nat) : (showS (rs.take k)).length ≤ (showS rs).length := by
  have e : showS rs = showS (rs.take k) ++ showS (rs.drop k) := by unfold showS; rw [← List.flatMap_append, List.take_append_drop]
  rw [e, List.length_append]; omega
set_option maxRecDepth 100000 in
set_option maxHeartbeats 1600000 in
theorem show_any (base : Nat) (v : Value) (rs : List Rl) (w : World) (hrow : w.ownsRow base 35 2 v rs.length (cells rs)) (hlen : (showS rs).length ≤ 140737488355328) (hn : rs.length ≤ 1000000) :
    Calls Tryd.prog 14 #[v] w fun e w' => e = .returned (.string (mk (showS rs))) ∧ Below w.heap.size w w' := by
  obtain ⟨A, cap, rfl⟩ := owns_form hrow
  obtain ⟨L, hL⟩ : ∃ L, rs.length = L := ⟨_, rfl⟩
  rw [hL] at hrow hn ⊢
  have hcell : ∀ k, (h : k < L) → ∃ g, A = some ⟨g, 0, none⟩ ∧ g < w.heap.size ∧ w.cell? ⟨g, k * 2, none⟩ = some (.string (mk (rs[k]'(by omega)).1)) ∧ w.cell? ⟨g, k * 2 + 1, none⟩ = some (.string (mk (rs[k]'(by omega)).2)) := fun k h => by
    obtain ⟨n, rfl⟩ : ∃ n, L = n + 1 := ⟨L - 1, by omega⟩
    obtain ⟨g, cap', hg⟩ := ownsRow_succ hrow
    injection hg with hg1 _ hg2
    subst hg1
    subst hg2
    have hc := cells_at rs k (by omega)
    refine ⟨g, rfl, (hrow.lt g rfl).2, ?_, ?_⟩
    · rw [hrow.cellAt (k * 2) (by omega)]; exact hc.1
    · rw [hrow.cellAt (k * 2 + 1) (by omega)]; exact hc.2
  have HC := Lib.hid hcell
  clear hcell hrow
  go_enter Tryd.func14, Tryd.ntmps14
  go_wp2
  go_loopw [5, 8] (fun _ i wr => ∃ k : Nat, k ≤ L ∧ i = .int .i64 k ∧ Lib.IsBuilder 54 5 w.heap.size w.heap.size (Lib.byteCells (showS (rs.take k))) wr ∧ Below w.heap.size w wr) (fun _ i _ => L - (intOf i).toNat)
  case atStart => exact ⟨0, Nat.zero_le _, rfl, Lib.fresh_isBuilder 54 5 w, (Below.refl _ w).alloc (Nat.le_refl _) _⟩
  case round =>
    obtain ⟨k, hk, rfl, hbd, hB⟩ := hrel
    have hsz := hB.size
    by_cases hlt : k < L
    · obtain ⟨g, rfl, hgl, hc0, hc1⟩ := HC.out k hlt
      have d0 := (hB.cell (p := ⟨g, k * 2, none⟩) hgl).trans hc0
      have d1 := (hB.cell (p := ⟨g, k * 2 + 1, none⟩) hgl).trans hc1
      have hkl : k < rs.length := by omega
      have hst := show_take rs k hkl
      have htl := show_take_le rs (k + 1)
      rw [hst, List.length_append] at htl
      obtain ⟨r, hr⟩ : ∃ r, rs[k] = r := ⟨_, rfl⟩
      rw [hr] at d0 d1 hst htl
      have hml := mk_line r
      have hll : (lineOf r).length = r.1.length + r.2.length + 2 := by simp [lineOf]; omega
      have s1 : (mk r.1).size = r.1.length := mk_size _
      have s2 : (mk r.2).size = r.2.length := mk_size _
      have HS := Lib.hid hst
      have HM := Lib.hid hml
      obtain ⟨T, hT⟩ : ∃ T, showS (rs.take k) = T := ⟨_, rfl⟩
      rw [hT] at hbd htl
      have HT := Lib.hid hT
      obtain ⟨n, hn'⟩ : ∃ n, mk r.1 = n := ⟨_, rfl⟩
      obtain ⟨p, hp'⟩ : ∃ p, mk r.2 = p := ⟨_, rfl⟩
      rw [hn'] at d0 s1 HM
      rw [hp'] at d1 s2 HM
      clear hc0 hc1 hr hst hml hT hn' hp'
      have hbd' : Lib.IsBuilder 54 5 w.heap.size w.heap.size (Lib.byteCells T) (wr.alloc (.cells #[.string n, .string p] 35)) := by
        have hkeep : ∀ q, Lib.BuilderAt 54 5 w.heap.size w.heap.size q (Lib.byteCells T) wr → Lib.BuilderAt 54 5 w.heap.size w.heap.size q (Lib.byteCells T) (wr.alloc (.cells #[.string n, .string p] 35)) := by
          rintro q ⟨a1, v, a2, a3, a4⟩
          exact ⟨a1, v, (Below.heap_alloc _ _ _ (Array.getElem?_eq_some_iff.1 a2).1).trans a2, a3.alloc _, a4⟩
        exact hbd.imp (hkeep _) (hkeep _)
      go_wp2_with fail
      rw [HM.out]
      refine (write_any w.heap.size w.heap.size (Lib.byteCells T) (mk (lineOf r)) _ hbd' (by rw [Lib.byteCells_length, mk_size]; omega) (by simp; omega)).mono ?_
      rintro e w2 ⟨⟨v, rfl⟩, hbd2, hb2⟩
      rw [strCells_mk, ← byteCells_append, ← HT.out, ← HS.out] at hbd2
      have hB2 : Below w.heap.size w w2 := (hB.alloc hsz _).trans hb2
      clear HC HS HT HM hbd hbd' hb2 hB d0 d1
      go_wp2
      go_roundw
      case rel => exact ⟨k + 1, by omega, by go_num, hbd2, hB2⟩
      case measure => simp [intOf]; omega
    · obtain rfl : k = L := by omega
      have e : rs.take k = rs := List.take_of_length_le (by omega)
      rw [e] at hbd
      have K := Tryd.Builder_String_any _ _ _ _ hbd hsz
      clear e hbd HC
      go_wp2_with fail
      refine K.mono ?_
      rintro e w1 ⟨rfl, hb1⟩
      go_wp2
      go_ret
      exact ⟨rfl, hB.trans hb1⟩
theorem own_below {w w' : World} {b size : Nat} {e : TypeId} {v : Value} {n : Nat} {xs : List Value} (h : w.ownsRow b e size v n xs) (hb : Below w.heap.size w w') : w'.ownsRow b e size v n xs := by
  refine ⟨h.1, h.2.imp id ?_⟩
  rintro ⟨g, cap, cur, h1, h2, h3, h4⟩
  exact ⟨g, cap, cur, h1, h2, (hb.block g (Array.getElem?_eq_some_iff.1 h3).1).trans h3, h4⟩
theorem own_addr {w : World} {b size : Nat} {e : TypeId} {A : Option Addr} {n cap : Nat} {xs : List Value} (h : w.ownsRow b e size (.slice A n cap) n xs) (hn : 0 < n) : ∃ g, A = some ⟨g, 0, none⟩ := by
  rcases h.2 with ⟨_, h0⟩ | ⟨g, c, cur, hv, _⟩
  · omega
  · injection hv with hA _ _
    exact ⟨g, hA⟩
theorem steps_len (ls : List Bs) : ∀ acc, acc.length ≤ 4096 → (stepsG ls acc).1.length ≤ 4096 := by
  induction ls with
  | nil => intro acc h; exact h
  | cons t ls ih =>
    intro acc h
    rw [stepsG]
    split
    · simp
    · split
      · simp
      · split
        · simp
        · exact ih _ (by simp; omega)
theorem parse_len (s : Bs) : (parseS s).1.length ≤ 4096 := by
  unfold parseS
  split
  · simp
  · exact steps_len _ _ (by simp)
end Go.Proofs.YtkaejgpnhcdlnaaDoor
