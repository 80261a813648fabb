/- The document's Rank, walked. -/
import Derived.Test.YtejokbfejkkpmaaDoorBk
import Derived.Test.YtejokbfejkkpmaaDoorSv
import Derived.Laws.StructEq
import Derived.BigQuiet
namespace Go.Proofs.YtejokbfejkkpmaaDoor
open Go.RowKit Go.Maps Go.WideMaps
theorem pair_eq67 (a b c d : ByteArray) (w : World) : (binOp .eql 67 (.agg #[.string a, .string b]) (.agg #[.string c, .string d])).run Tryd.prog w = .ok (.bool (a.toList == c.toList && b.toList == d.toList)) w := by
  rw [run_eql_struct, run_equalIn_struct w _ _ _ _ (by kernel_rfl) (by kernel_rfl)]
  have hf : (Tryd.prog.fieldsOf 67).toList = (match Tryd.prog.underlying 67 with | some (.struct fs) => fs.toList | _ => []) := by kernel_rfl
  rw [hf, Tryd.underlying67]
  simp only [Op.eqFields]
  go_simp
  by_cases h1 : a.toList = c.toList
  · by_cases h2 : b.toList = d.toList
    · simp [h1, h2]
    · simp [h1, h2]
  · simp [h1]
theorem eq_guard67 (w : World) (op : BinOp) (x y : Operand) (xs ys : Array Value) : (eqGuard op 67 x y (.agg xs) (.agg ys)).run Tryd.prog w = .ok () w := run_eqGuard_agg w op 67 x y xs ys (by kernel_rfl)
theorem rkL_found (l : List Pr) : ∀ (n k : Nat) (p : Pr), l[k]? = some p → (∀ j, j < k → l[j]? ≠ some p) → rkL n l p = some (n + k) := by
  induction l with
  | nil => intro n k p h; simp at h
  | cons a l ih =>
    intro n k p h hno
    cases k with
    | zero => simp at h; subst h; simp [rkL]
    | succ k =>
      have h0 := hno 0 (by omega)
      simp at h0
      rw [rkL, if_neg (fun e => h0 e.symm), ih (n + 1) k p (by simpa using h) (fun j hj => by have := hno (j + 1) (by omega); simpa using this)]
      congr 1; omega
theorem rkL_none (l : List Pr) : ∀ (n : Nat) (p : Pr), (∀ j, j < l.length → l[j]? ≠ some p) → rkL n l p = none := by
  induction l with
  | nil => intro n p _; rfl
  | cons a l ih =>
    intro n p hno
    have h0 := hno 0 (by simp)
    simp at h0
    rw [rkL, if_neg (fun e => h0 e.symm), ih (n + 1) p (fun j hj => by have := hno (j + 1) (by simp; omega); simpa using this)]
def New2 (W : World) (b : Nat) (v u : Value) (e : TypeId) : Prop := W.heap[b]? = some (.cells #[v, u] e (0, 0))
theorem tl_ne' {a b : Tx} (h : a ≠ b) : ((mk a).toList == (mk b).toList) = false := by rw [ByteArray.toList_eq, ByteArray.toList_eq, mk_data, mk_data, beq_eq_false_iff_ne]; exact h
theorem ret_i {k : IntKind} {a b : Int} (h : a = b) : Ending.returned (.int k a) = .returned (.int k b) := by rw [h]
def rankI (l : List Pr) (p : Pr) : Int := match rkL 0 l p with | some r => (r : Int) | none => -1
set_option maxRecDepth 100000 in
set_option maxHeartbeats 4000000 in
theorem rank_any (A : Option Addr) (n cap : Nat) (l : List Pr) (a b : Bs) (w : World) (hp : PairArg w A n l) (hn : n ≤ 1000) :
    Calls Tryd.prog 31 #[.slice A n cap, .agg #[.string (mk a), .string (mk b)]] w fun e w' => e = .returned (.int .i64 (rankI l (a, b))) ∧ Below w.heap.size w w' := by
  obtain ⟨hpn, _, hcell, _⟩ := hp
  have HC := Lib.hid hcell
  have HN := Lib.hid hpn
  obtain ⟨U, hU⟩ : ∃ U, mk a = U := ⟨_, rfl⟩
  obtain ⟨V, hV⟩ : ∃ U, mk b = U := ⟨_, rfl⟩
  rw [hU, hV]
  have HU := Lib.hid hU
  have HV := Lib.hid hV
  have hg := eq_guard67
  clear hcell hpn hU hV
  go_enter Tryd.func31, Tryd.ntmps31
  go_wp2
  go_loopw [5] (fun i wr => ∃ k : Nat, k ≤ n ∧ i = .int .i64 k ∧ (∀ j, j < k → l[j]? ≠ some (a, b)) ∧ New2 wr w.heap.size (.string U) (.string V) 67 ∧ Below w.heap.size w wr) (fun i _ => n - (intOf i).toNat)
  case atStart => exact ⟨0, Nat.zero_le _, rfl, fun j hj => absurd hj (by omega), heap_alloc_new w _, (Below.refl _ w).alloc (Nat.le_refl _) _⟩
  case round =>
    obtain ⟨k, hk, rfl, hno, hbk, hbl⟩ := hrel
    have k0 : (0 : Int) ≤ (k : Int) := by omega
    rcases Nat.lt_or_ge k n with hlt | hge
    · obtain ⟨g, off, rfl, hgl, hcs⟩ := HC.out (by omega)
      have hkl : k < l.length := by have := HN.out; omega
      obtain ⟨g0, g1⟩ := hcs k hkl
      have d0 := (hbl.cell (p := ⟨g, off + k * 2, none⟩) hgl).trans g0
      have d1 := (hbl.cell (p := ⟨g, off + k * 2 + 1, none⟩) hgl).trans g1
      have z0 := cell_of_row wr _ 0 _ _ _ hbk
      have z1 := cell_of_row wr _ 1 _ _ _ hbk
      simp at z0 z1
      have k1 : (k : Int) < (n : Int) := by omega
      have hkk : (k : Int) ≤ 1000 := by omega
      obtain ⟨X, hX⟩ : ∃ X, mk l[k].1 = X := ⟨_, rfl⟩
      obtain ⟨Y, hY⟩ : ∃ X, mk l[k].2 = X := ⟨_, rfl⟩
      rw [hX] at d0
      rw [hY] at d1
      have HNO := Lib.hid hno
      have HB := Lib.hid hbk
      by_cases he : l[k] = (a, b)
      · have hpe : ∀ w, (binOp .eql 67 (.agg #[.string X, .string Y]) (.agg #[.string U, .string V])).run Tryd.prog w = .ok (.bool true) w := fun w => by
          rw [pair_eq67, ← hX, ← hY, ← HU.out, ← HV.out, he]; simp
        have hr : Hid (rankI l (a, b) = (k : Int)) := Lib.hid (by
          unfold rankI
          rw [rkL_found l 0 k (a, b) (by rw [← he]; simp [hkl]) hno, Nat.zero_add])
        clear g0 g1 hcs hno hbk hX hY he
        go_wp2_with fail
        go_quiet (fail)
        go_wp2
        go_ret
        exact ⟨ret_i hr.out.symm, hbl.trans ⟨rfl, rfl, rfl, Nat.le_refl _, fun _ _ => rfl⟩⟩
      · have hpe : ∀ w, (binOp .eql 67 (.agg #[.string X, .string Y]) (.agg #[.string U, .string V])).run Tryd.prog w = .ok (.bool false) w := fun w => by
          rw [pair_eq67, ← hX, ← hY, ← HU.out, ← HV.out]
          by_cases h1 : l[k].1 = a
          · have h2 : l[k].2 ≠ b := fun h2 => he (Prod.ext h1 h2)
            rw [tl_ne' h2]; simp
          · rw [tl_ne' h1]; simp
        have hno2 : Hid (∀ j, j < k + 1 → l[j]? ≠ some (a, b)) := Lib.hid fun j hj => by
          rcases Nat.lt_or_ge j k with h | h
          · exact hno j h
          · have : j = k := by omega
            subst this
            simp [hkl, he]
        clear g0 g1 hcs hno hbk hX hY he
        go_wp2_with fail
        go_quiet (fail)
        go_wp2_with fail
        go_roundw
        case rel => exact ⟨k + 1, by omega, by go_num, hno2.out, HB.out, hbl.trans ⟨rfl, rfl, rfl, Nat.le_refl _, fun _ _ => rfl⟩⟩
        case measure => simp [intOf]; omega
    · obtain rfl : k = n := by omega
      have hr : Hid (rankI l (a, b) = -1) := Lib.hid (by
        unfold rankI
        rw [rkL_none l 0 (a, b) (fun j hj => hno j (by have := HN.out; omega))])
      clear hno
      go_wp2
      go_ret
      exact ⟨ret_i hr.out.symm, hbl⟩
end Go.Proofs.YtejokbfejkkpmaaDoor
