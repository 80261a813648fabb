/- vocab.New and vocab.(*Index).ID, walked. -/
import Derived.Test.YtejokbfejkkpmaaDoorOn
namespace Go.Proofs.YtejokbfejkkpmaaDoor
open Go.RowKit Go.Maps Go.WideMaps
set_option maxRecDepth 100000 in
set_option maxHeartbeats 1600000 in
theorem ready_any (B b : Nat) (ts : List Bs) (made : Bool) (k : Nat) (w : World) (h : Idx B b ts made k w) (hl : ts.length ≤ 1000) (hk : k ≤ 1000) (hB : B ≤ w.heap.size) :
    Calls Tryd.prog 29 #[.pointer (some ⟨b, 0, none⟩)] w fun e w' => e = .returned (.bool true) ∧ Idx B b ts true (k + 1) w' ∧ w.grownBy w' (some b) := by
  obtain ⟨A, cap, c4, c5, hBb, hb, he, hne, hm⟩ := h
  have h6 := hb.cell 6
  have z6 := hb.frozen 6
  simp at h6
  have KC := count_any ⟨b, 6, none⟩ k w (by omega) (by omega) h6 z6
  have hb1 := hb.set 6 (.int .i64 ((k : Int) + 1))
  have hg1 := grown_set w b 6 (.int .i64 ((k : Int) + 1))
  have he1 := he.kept hne hg1
  have hbl := hb.lt
  have hm1 : made = true → ∃ bi bt, c4 = .map (some bi) ∧ c5 = .map (some bt) ∧ B ≤ bi ∧ B ≤ bt ∧ IdM (w.setCell ⟨b, 6, none⟩ (.int .i64 ((k : Int) + 1))) bi ts.length (idsL 0 ts) ∧ TokM (w.setCell ⟨b, 6, none⟩ (.int .i64 ((k : Int) + 1))) bt ts.length (tokL 0 ts) := by
    intro hmm
    obtain ⟨bi, bt, e4, e5, h4, h5, hi, ht⟩ := hm hmm
    refine ⟨bi, bt, e4, e5, h4, h5, hi.kept hg1 ?_, ht.kept hg1 ?_⟩
    · intro e; cases e
      obtain ⟨D, ⟨es, cl, hh, _⟩, _⟩ := hi
      unfold Blk at hb; rw [hb] at hh; cases hh
    · intro e; cases e
      obtain ⟨D, ⟨es, cl, hh, _⟩, _⟩ := ht
      unfold Blk at hb; rw [hb] at hh; cases hh
  have hmf : ∀ (fn : Fn) (first cap : Array Value) (w : World), (Instr.makeFunc fn first cap).run Tryd.prog w = .ok (.func fn first cap) w := fun _ _ _ _ => rfl
  have hs1 := hg1.size
  obtain ⟨w1, hw1⟩ : ∃ x, w.setCell ⟨b, 6, none⟩ (.int .i64 ((k : Int) + 1)) = x := ⟨_, rfl⟩
  rw [hw1] at KC hb1 hg1 he1 hm1 hs1
  simp at hb1
  clear hb he hm h6 z6 hw1
  cases made
  · simp at hb1
    have KD := do_first b A cap ts _ _ _ w1 hb1 he1 hl hne
    have he1' := Lib.hid he1
    clear hm1 he1
    go_enter Tryd.func29, Tryd.ntmps29
    go_wp2_with (first | (go_at_call 41; refine KC.mono ?_; rintro e w' ⟨⟨_, rfl⟩, rfl⟩) | (go_at_call 42; refine KD.mono ?_))
    rintro e w2 ⟨rfl, bi, bt, hbi, hbt, hb2, hi, ht, hg2⟩
    go_wp2
    go_ret
    refine ⟨rfl, ⟨A, cap, _, _, hBb, by simpa using hb2, he1'.out.kept hne hg2, hne, fun _ => ⟨bi, bt, rfl, rfl, by omega, by omega, hi, ht⟩⟩, grown_trans hg1 hg2⟩
  · have h1 := hb1.cell 1
    simp at h1
    have KD := do_done ⟨b, 1, none⟩ (.func (.func 43) #[.pointer (some ⟨b, 0, none⟩)] #[]) w1 h1
    go_enter Tryd.func29, Tryd.ntmps29
    go_wp2_with (first | (go_at_call 41; refine KC.mono ?_; rintro e w' ⟨⟨_, rfl⟩, rfl⟩) | (go_at_call 42; refine KD.mono ?_))
    rintro e w2 ⟨rfl, rfl⟩
    go_wp2
    go_ret
    exact ⟨rfl, ⟨A, cap, _, _, hBb, by simpa using hb1, he1, hne, fun _ => hm1 (by simp)⟩, hg1⟩
set_option maxRecDepth 100000 in
set_option maxHeartbeats 1600000 in
theorem id_any (B b : Nat) (ts : List Bs) (made : Bool) (k : Nat) (t : Bs) (w : World) (h : Idx B b ts made k w) (hl : ts.length ≤ 1000) (hk : k ≤ 1000) (hB : B ≤ w.heap.size) (ht : t.length ≤ maxLen) :
    Calls Tryd.prog 19 #[.pointer (some ⟨b, 0, none⟩), .string (mk t)] w fun e w' => e = .returned (.tuple #[.int .i64 (((idsL 0 ts t).getD 0 : Nat) : Int), .bool (idsL 0 ts t).isSome]) ∧ Idx B b ts true (k + 1) w' ∧ w.grownBy w' (some b) := by
  have KR := ready_any B b ts made k w h hl hk hB
  clear h
  go_enter Tryd.func19, Tryd.ntmps19
  go_wp2_with (go_at_call 29; refine KR.mono ?_)
  rintro e w1 ⟨rfl, hi, hg⟩
  have hi' := Lib.hid hi
  obtain ⟨A, cap, c4, c5, hBb, hb, he, hne, hm⟩ := hi
  obtain ⟨bi, bt, rfl, rfl, h4, h5, hid, htm⟩ := hm rfl
  have e4 := hb.cell 4
  simp at e4
  have hlk := hid.look (mk t) (by rw [mk_size]; exact ht)
  rw [mk_data] at hlk
  have hnot : ∀ (x : Bool) (w : World), (Op.unary .not (.bool x)).run Tryd.prog w = .ok (.bool (!x)) w := fun _ _ => rfl
  clear KR hid htm he hb hm
  go_wp2
  go_ret2
  exact ⟨rfl, hi'.out, hg⟩
theorem ents_one (l : List Bs) : ∀ n, ∀ u ∈ ents n l, u.oneCell' = true := by
  induction l with
  | nil => intro n u hu; cases hu
  | cons a l ih =>
    intro n u hu
    simp only [ents, List.mem_cons] at hu
    rcases hu with rfl | rfl | hu
    · rfl
    · rfl
    · exact ih _ _ hu
theorem ents_of_row {w : World} {B cap : Nat} {A : Option Addr} {ts : List Bs} (h : w.ownsRow B 31 2 (.slice A ts.length cap) ts.length (ents 0 ts)) (ht : ∀ t ∈ ts, t.length ≤ maxLen) : Ents w A ts := by
  refine ⟨fun h0 => ?_, ht⟩
  obtain ⟨g, c, hv, _, hgl⟩ := h.form h0
  injection hv with hA _ hc
  subst hA
  refine ⟨g, rfl, hgl, fun j hj => ?_⟩
  obtain ⟨e1, e2⟩ := ents_at ts 0 j hj
  have x1 := h.cellAt (j * 2) (by omega)
  have x2 := h.cellAt (j * 2 + 1) (by omega)
  rw [e1] at x1
  rw [e2] at x2
  simp only [Nat.zero_add] at x1
  exact ⟨x1, x2⟩
set_option maxRecDepth 100000 in
set_option maxHeartbeats 1600000 in
theorem new_any (g : Nat) (cap : Nat) (ts : List Bs) (w : World) (hg : ∀ j u, (ents 0 ts)[j]? = some u → w.cell? ⟨g, j, none⟩ = some u) (h0 : 0 < ts.length) (hl : ts.length ≤ 1000) (ht : ∀ t ∈ ts, t.length ≤ maxLen) :
    Calls Tryd.prog 14 #[.slice (some ⟨g, 0, none⟩) ts.length cap] w fun e w' => ∃ b, e = .returned (.pointer (some ⟨b, 0, none⟩)) ∧ Idx w.heap.size b ts false 0 w' ∧ Below w.heap.size w w' := by
  obtain ⟨i0, hi, hz0, hz1, hz2⟩ := info_parts info31
  go_enter Tryd.func14, Tryd.ntmps14
  go_wp2_with (at_builtin; refine wpList_append_own _ rfl _ (.tmp 3) 28 rfl w.heap.size 31 i0 _ 2 24 Tryd.underlying28 hi hz0 hz1 hz2 rfl (by decide) _ 0 [] rfl (World.ownsRow_nil _ _ _ _) ⟨g, 0, none⟩ ts.length cap (ents 0 ts) rfl (ents_length _ _) ?c1 ?c2 ?c3 ?c4 (Nat.le_refl _) ?_)
  case c1 => intro j u hj; rw [show ((⟨g, 0, none⟩ : Addr).add j) = ⟨g, j, none⟩ from by unfold Addr.add; split <;> simp_all]; exact hg j u hj
  case c2 => exact ents_one _ _
  case c3 => simp only [maxLen]; omega
  case c4 => omega
  intro v' w2 hrow2 hg2 _
  obtain ⟨A, cap', rfl⟩ := own_form hrow2
  go_wp2
  go_ret
  have hrow3 := hrow2.alloc (.cells #[.slice A ts.length cap', .int .u32 0, .int .i32 0, .int .u32 0, .map none, .map none, .int .i64 0] 88)
  refine ⟨w2.heap.size, rfl, ⟨A, cap', .map none, .map none, hg2.size, heap_alloc_new _ _, ents_of_row hrow3 ht, ?_, fun h => by cases h⟩, ((Below.refl _ w).grown hg2 (Nat.le_refl _) (fun g e => by simp [Value.ownBlock] at e)).alloc hg2.size _⟩
  intro g' e
  subst e
  have := (hrow2.lt g' rfl).2
  omega
end Go.Proofs.YtejokbfejkkpmaaDoor
