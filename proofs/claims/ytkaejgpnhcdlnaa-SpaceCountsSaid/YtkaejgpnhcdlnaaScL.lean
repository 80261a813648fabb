import Derived.Test.YtkaejgpnhcdlnaaScH
import Derived.Test.YtkaejgpnhcdlnaaScG
namespace Go.Proofs.Ytkaejgpnhcdlnaa
open Go.RowKit
/-- The extents that the law makes of the first k numbers. -/
def exts (zs : List Int) (k : Nat) : List (Int × Int) := (List.range k).map fun (j : Nat) => ((j : Int), (zs : List Int)[(j : Nat)]?.getD 0)
theorem exts_succ (zs : List Int) (k : Nat) : exts zs (k + 1) = exts zs k ++ [((k : Int), zs[k]?.getD 0)] := by simp [exts, List.range_succ]
theorem exts_length (zs : List Int) (k : Nat) : (exts zs k).length = k := by simp [exts]
theorem exts_at (zs : List Int) (k j : Nat) (h : j < k) : (exts zs k)[j]? = some ((j : Int), (zs : List Int)[(j : Nat)]?.getD 0) := by simp [exts, h]
def flat (es : List (Int × Int)) : List Value := es.flatMap fun x => [.int .i64 x.1, .int .i64 x.2]
theorem flat_snoc (es : List (Int × Int)) (x : Int × Int) : flat (es ++ [x]) = flat es ++ [.int .i64 x.1, .int .i64 x.2] := by simp [flat]
theorem flat_length (es : List (Int × Int)) : (flat es).length = es.length * 2 := by
  induction es with
  | nil => rfl
  | cons x es ih => simp only [flat, List.flatMap_cons, List.length_append, List.length_cons, List.length_nil] at ih ⊢; omega
theorem flat_at (es : List (Int × Int)) : ∀ (j : Nat), j < es.length → (flat es)[j * 2]? = some (.int .i64 (es[j]?.getD (0, 0)).1) ∧ (flat es)[j * 2 + 1]? = some (.int .i64 (es[j]?.getD (0, 0)).2) := by
  induction es with
  | nil => intro j h; simp at h
  | cons x es ih =>
    intro j h
    cases j with
    | zero => simp [flat]
    | succ j =>
      have := ih j (by simpa using h)
      rw [show (j + 1) * 2 = j * 2 + 2 from by omega]
      simpa [flat] using this
theorem cnt_hit (es : List (Int × Int)) (a x : Int) (h : 0 < x) : cnt (es ++ [(a, x)]) = min (cnt es + min x 1099511627776) 1099511627776 := by
  rw [cnt_snoc]; unfold stepN; omega
theorem cnt_miss (es : List (Int × Int)) (a x : Int) (h : x ≤ 0) : cnt (es ++ [(a, x)]) = cnt es := by
  have := cnt_bd es
  rw [cnt_snoc]; unfold stepN; omega
theorem ext_of_own {w : World} {base : Nat} {A : Option Addr} {n cap : Nat} {es : List (Int × Int)} (hn : es.length = n) (h : w.ownsRow base 26 2 (.slice A n cap) n (flat es)) : Ext w w.heap.size A es := by
  rcases h.2 with ⟨hv, h0⟩ | ⟨g, c, cur, hv, _, _⟩
  · injection hv with hA _ _
    subst hA
    exact .inl ⟨rfl, List.eq_nil_of_length_eq_zero (by omega)⟩
  · injection hv with hA _ hc
    subst hA
    subst hc
    refine .inr ⟨g, 0, rfl, (h.lt g rfl).2, fun j hj => ?_⟩
    have := flat_at es j hj
    exact ⟨by rw [Nat.zero_add, h.cellAt _ (by omega)]; exact this.1, by rw [Nat.zero_add, h.cellAt _ (by omega)]; exact this.2⟩

theorem owns_form {w : World} {base size : Nat} {e : TypeId} {v : Value} {n : Nat} {xs : List Value} (h : w.ownsRow base e size v n xs) : ∃ A cap, v = .slice A n cap := by
  rcases h.2 with ⟨rfl, h0⟩ | ⟨g, cap, _, rfl, _⟩
  · subst h0; exact ⟨_, _, rfl⟩
  · exact ⟨_, _, rfl⟩
set_option maxRecDepth 100000 in
set_option maxHeartbeats 1000000 in
theorem law_any (A : Option Addr) (len cap : Nat) (zs : List Int) (w : World) (hm : len ≤ 9223372036854775807) (hA : 0 < len → ∃ b off, A = some ⟨b, off, none⟩ ∧ b < w.heap.size ∧ ∀ j, j < len → w.cell? ⟨b, off + j, none⟩ = some (.int .i64 (zs[j]?.getD 0)))
    (hw : ∀ j : Nat, -9223372036854775808 ≤ zs[j]?.getD 0 ∧ zs[j]?.getD 0 ≤ 9223372036854775807) :
    Calls Try.prog 3 #[.slice A len cap] w fun e w' => e = .returned (.bool true) ∧ Below w.heap.size w w' := by
  obtain ⟨i0, hi, hz0, hz1, hz2⟩ := info_parts info26
  go_enter Try.func3, Try.ntmps3
  go_wp2_with fail
  refine (speaks_any _).mono ?_
  rintro e w1 ⟨rfl, hb1⟩
  go_wp2
  go_loopw [3, 4, 5] (fun v n i wr => ∃ k : Nat, k ≤ len ∧ k ≤ 100 ∧ i = .int .i64 k ∧ n = .int .i64 (cnt (exts zs k)) ∧ wr.ownsRow w.heap.size 26 2 v k (flat (exts zs k)) ∧ Below w.heap.size w wr)
    (fun _ _ i _ => len - (intOf i).toNat)
  case atStart => exact ⟨0, Nat.zero_le _, by omega, rfl, rfl, World.ownsRow_nil _ _ _ _, hb1⟩
  case round =>
    obtain ⟨k, hk, hk2, rfl, rfl, hown, hB⟩ := hrel
    obtain ⟨c1, c2⟩ := cnt_bd (exts zs k)
    by_cases hlt : k < len
    · by_cases hlt2 : k < 100
      · obtain ⟨b, off, rfl, hbl, hcs⟩ := hA (by omega)
        have hc := (hB.cell (p := ⟨b, off + k, none⟩) hbl).trans (hcs k hlt)
        clear hA
        have hx := hw k
        have hsz := hB.size
        clear hcs hw
        go_wp2_with (at_builtin; refine wpList_append_own _ rfl (.tmp 18) (.tmp 25) 24 rfl w.heap.size 26 i0 _ 2 16 Try.underlying24 hi hz0 hz1 hz2 rfl (by decide) _ _ _ rfl (hown.alloc _) ⟨wr.heap.size, 0, none⟩ 1 1 [.int .i64 k, .int .i64 (zs[k]?.getD 0)] rfl rfl ?c1 ?c2 ?c3 ?c4 ?c5 ?_)
        case c1 => exact cell_two_new _ _ _ _
        case c2 => simp [Value.oneCell']
        case c3 => simp only [maxLen]; omega
        case c4 => omega
        case c5 => simp; omega
        intro v' w2 hown' hgr _
        have e1 := exts_succ zs k
        have hB2 : Below w.heap.size w w2 := (hB.alloc hB.size _).grown hgr (by simp; omega) (fun g e => (hown.lt g e).1)
        have hc2 := (hB2.cell (p := ⟨b, off + k, none⟩) hbl).trans ((hB.cell (p := ⟨b, off + k, none⟩) hbl).symm.trans hc)
        have H1 := cnt_hit (exts zs k) k (zs[k]?.getD 0)
        have H2 := cnt_miss (exts zs k) k (zs[k]?.getD 0)
        rw [← e1] at H1 H2
        have hown2 : w2.ownsRow w.heap.size 26 2 v' (k + 1) (flat (exts zs (k + 1))) := by rw [e1, flat_snoc]; exact hown'
        have H1' := Lib.hid H1
        have H2' := Lib.hid H2
        clear H1 H2 e1 hown' hown hgr hc hB
        go_wp2
        · go_roundw
          case rel => exact ⟨k + 1, by omega, by omega, by go_num, congrArg (Value.int .i64) (by rw [H1'.out (by assumption)]; (repeat' split) <;> omega), hown2, hB2⟩
          case measure => simp [intOf]; omega
        · go_roundw
          case rel => exact ⟨k + 1, by omega, by omega, by go_num, congrArg (Value.int .i64) (by rw [H2'.out (by assumption)]), hown2, hB2⟩
          case measure => simp [intOf]; omega
      · obtain rfl : k = 100 := by omega
        obtain ⟨A', cap', rfl⟩ := owns_form hown
        have hE := ext_of_own (exts_length zs 100) hown
        have hcount := count_any A' cap' (exts zs 100) wr (by rw [exts_length]; omega) hE
        rw [exts_length] at hcount
        have HC := Lib.hid hcount
        clear hcount hE hA hw
        go_wp2_with fail
        refine (HC.out).mono ?_
        rintro e w2 ⟨rfl, hb2⟩
        go_wp2
        go_ret
        exact ⟨by simp, hB.trans (hb2.mono hB.size)⟩
    · obtain rfl : k = len := by omega
      obtain ⟨A', cap', rfl⟩ := owns_form hown
      have hE := ext_of_own (exts_length zs k) hown
      have hcount := count_any A' cap' (exts zs k) wr (by rw [exts_length]; omega) hE
      rw [exts_length] at hcount
      have HC := Lib.hid hcount
      clear hcount hE hA hw
      go_wp2_with fail
      refine (HC.out).mono ?_
      rintro e w2 ⟨rfl, hb2⟩
      go_wp2
      go_ret
      exact ⟨by simp, hB.trans (hb2.mono hB.size)⟩
end Go.Proofs.Ytkaejgpnhcdlnaa
