/- slices.Repeat of one text, sector.New, walked. -/
import Derived.Test.YtcmcdddnckcpcaaGreatDoorDy
import Derived.Laws.CopyOwn
namespace Go.Proofs.YtcmcdddnckcpcaaGreatDoor
open Go.RowKit
theorem info9 : (Tryz.prog.info? 9).map (fun i => (i.zero, i.size, i.bytes)) = some (some (.string ⟨#[]⟩), 1, 16) := by kernel_rfl
theorem size42 (w : World) : (sizeOf (Tryz.prog.elem 42)).run Tryz.prog w = .ok 1 w := by
  obtain ⟨i0, hi, _, h1, _⟩ := info_parts info9
  rw [show Tryz.prog.elem 42 = 9 by kernel_rfl]
  simp [sizeOf, typeInfo, hi, h1]
theorem cut42 (A : Option Addr) (n cap lo : Nat) (w : World) (h : lo < n) (hc : n ≤ cap) : (Instr.slice 42 (.slice A n cap) (some (.int .i64 (lo : Int))) none none).run Tryz.prog w = .ok (.slice (A.map (·.add lo)) (n - lo) (cap - lo)) w := by
  rw [run_slice_l (P := Tryz.prog) w 42 A n cap (by kernel_rfl) .i64 lo (by omega) (by omega), size42]
  simp [Result.andThen, sliced]
  intro e; omega
theorem cut42h (A : Option Addr) (n cap hi : Nat) (w : World) (h0 : 0 < hi) (hc : hi ≤ cap) : (Instr.slice 42 (.slice A n cap) none (some (.int .i64 (hi : Int))) none).run Tryz.prog w = .ok (.slice A hi cap) w := by
  rw [run_slice_h (P := Tryz.prog) w 42 A n cap (by kernel_rfl) .i64 hi (by omega) (by omega), size42]
  cases A <;> simp [Result.andThen, sliced]
  all_goals (try (intro _; rfl))
theorem wp_copy_splice {P : Program} {o : Oper} {a : Act} {w : World} {K : Act → World → Prop} {Q : Exit → Act → World → Prop} (hgd : o.guard = none) (d s : Operand) (dT sT : TypeId)
    (ho : o.op = .call { callee := .builtin .copy, args := #[d, s], argTypes := #[dT, sT] }) (elem : TypeId) (hu : P.underlying dT = some (.slice elem)) (hsz : (P.info? elem).map (·.size) = some 1)
    (dp sp : Option Addr) (dLen dCap sLen sCap : Nat) (hd : a.eval d = .slice dp dLen dCap) (hs : a.eval s = .slice sp sLen sCap)
    (g off : Nat) (cur : List Value) (t : TypeId) (hg : w.heap[g]? = some (.cells cur.toArray t (0, 0))) (cs : List Value) (hn : cs.length = Nat.min sLen dLen)
    (hpos : 0 < cs.length → dp = some ⟨g, off, none⟩ ∧ ∃ ad, sp = some ad ∧ ∀ j v, cs[j]? = some v → w.cell? (ad.add j) = some v)
    (hfit : off + cs.length ≤ cur.length) (h1 : ∀ v ∈ cs, v.oneCell' = true) (B : Nat) (w0 : World) (hb : RowKit.Below B w0 w) (hBg : B ≤ g)
    (h : ∀ w', RowKit.Hid (w'.heap[g]? = some (.cells (splice cur off cs).toArray t (0, 0))) → RowKit.Below B w0 w' → K (a.put o.dst (goInt cs.length)) w') : Oper.wp P o a w K Q := by
  have h2 := step_copy_splice (P := P) (ops := #[]) (Q := Q) (E := True) hgd d s dT sT ho elem hu hsz dp sp dLen dCap sLen sCap hd hs g off cur t hg cs hn hpos hfit h1 B w0 hb hBg h
  rwa [if_pos (by simp [Region.wanted, hgd])] at h2
/-- k texts s, then empty ones, n in all. -/
def repC (s : ByteArray) (k n : Nat) : List Value := List.replicate k (.string s) ++ List.replicate (n - k) (.string ⟨#[]⟩)
theorem repC_length (s : ByteArray) (k n : Nat) (h : k ≤ n) : (repC s k n).length = n := by unfold repC; simp; omega
theorem repC_splice (s : ByteArray) (k n m : Nat) (h : k + m ≤ n) : splice (repC s k n) k (List.replicate m (.string s)) = repC s (k + m) n := by
  unfold splice repC
  rw [List.take_append_of_le_length (by simp), List.take_of_length_le (by simp), List.drop_append]
  simp only [List.length_replicate, List.drop_replicate]
  rw [show k - (k + m) = 0 by omega, List.replicate_zero, List.nil_append, ← List.append_assoc, List.replicate_append_replicate]
  congr 2
  omega
set_option maxRecDepth 100000 in
set_option maxHeartbeats 2000000 in
theorem repeat_any (g0 n : Nat) (s : ByteArray) (w : World) (hc : w.cell? ⟨g0, 0, none⟩ = some (.string s)) (h1 : 1 ≤ n) (hn : n ≤ 4096) :
    Calls Tryz.prog 61 #[.slice (some ⟨g0, 0, none⟩) 1 1, .int .i64 n] w fun e w' => ∃ g, e = .returned (.slice (some ⟨g, 0, none⟩) n n) ∧ w.heap.size ≤ g ∧ w'.ownsRow w.heap.size 9 1 (.slice (some ⟨g, 0, none⟩) n n) n (List.replicate n (.string s)) ∧ Below w.heap.size w w' := by
  have KM := fun w => Tryz.bits_Mul 1 n (by omega) (by omega) w
  rw [show 1 * n / 18446744073709551616 = 0 by omega, show 1 * n % 18446744073709551616 = n by omega] at KM
  obtain ⟨i9, hi0, hi1, hi2, hi3⟩ := info_parts info9
  have hmk := fun (w : World) => run_make (P := Tryz.prog) w 42 9 i9 _ Tryz.underlying42 hi0 hi1 .i64 .i64 (n : Int) (n : Int) (by omega) (by omega) (by rw [hi3]; omega) (by omega)
  have hmc : madeCells (Value.cells (.string ⟨#[]⟩)) ((n : Int).toNat * i9.size) = (repC s 0 n).toArray := by
    rw [hi2, Nat.mul_one, Int.toNat_natCast]
    apply Array.toList_inj.1
    rw [show Value.cells (.string ⟨#[]⟩) = #[.string ⟨#[]⟩] from rfl, toList_madeCells_one]
    simp [repC]
  rw [hmc, Int.toNat_natCast] at hmk
  have n0 : (0 : Int) ≤ (n : Int) := by omega
  have n1 : ¬ ((9223372036854775807 : Int) < (n : Int)) := by omega
  have n2 : ¬ ((n : Int) < 0) := by omega
  have hg0 : g0 < w.heap.size := cell_lt hc
  go_enter Tryz.func61, Tryz.ntmps61
  have mixed : Tryz.prog.follows Departure.mixedOrders = true := by kernel_rfl
  go_upto_region 7 with (go_at_call 102; refine (KM _).mono ?_; rintro e w1 ⟨rfl, hw⟩; obtain rfl := hw.symm)
  have hb1 := below_alloc w (.cells (repC s 0 n).toArray 9)
  have hg1 : (w.alloc (.cells (repC s 0 n).toArray 9)).heap[w.heap.size]? = some (.cells (repC s 0 n).toArray 9 (0, 0)) := heap_alloc_new _ _
  have hc1 : (w.alloc (.cells (repC s 0 n).toArray 9)).cell? ⟨g0, 0, none⟩ = some (.string s) := (cell_old w _ ⟨g0, 0, none⟩ hg0).trans hc
  obtain ⟨W, hW⟩ : ∃ u, w.alloc (.cells (repC s 0 n).toArray 9) = u := ⟨_, rfl⟩
  obtain ⟨G, hG⟩ : ∃ G, w.heap.size = G := ⟨_, rfl⟩
  rw [hG] at hg1
  rw [hW] at hb1 hg1 hc1 ⊢
  simp only [hG]
  have HG := Lib.hid hG
  clear hW hG hmk hmc
  have hsz9 : (Tryz.prog.info? 9).map (·.size) = some 1 := by rw [hi0]; simp [hi2]
  have m1 : ([Value.string s] : List Value).length = Nat.min 1 n := by show 1 = min 1 n; omega
  have m2 : 0 + ([Value.string s] : List Value).length ≤ (repC s 0 n).length := by rw [repC_length _ _ _ (by omega)]; exact h1
  have m3 : ∀ v ∈ ([Value.string s] : List Value), v.oneCell' = true := by simp [Value.oneCell']
  have m4 : ∀ j v, ([Value.string s] : List Value)[j]? = some v → W.cell? ((⟨g0, 0, none⟩ : Addr).add j) = some v := fun j v hj => by
    cases j with
    | zero => simp at hj; subst hj; exact hc1
    | succ j => simp at hj
  have m5 : w.heap.size ≤ G := by rw [HG.out]; exact Nat.le_refl _
  go_wp2_with (refine wpList_copy_splice rfl (.tmp 31) (.tmp 32) 42 42 rfl 9 Tryz.underlying42 hsz9 (some ⟨G, 0, none⟩) (some ⟨g0, 0, none⟩) n n 1 1 (by rfl) (by rfl) G 0 (repC s 0 n) 9 hg1 [.string s] m1 (fun _ => ⟨rfl, _, rfl, m4⟩) m2 m3 w.heap.size w hb1 m5 ?_; intro w2 hg2 hb2)
  clear m1 m2 m3 m4
  have HG2 : Hid (w2.heap[G]? = some (.cells (repC s 1 n).toArray 9 (0, 0))) := by
    have := hg2.out
    rw [show ([Value.string s] : List Value) = List.replicate 1 (.string s) from rfl, repC_splice s 0 n 1 (by omega)] at this
    exact Lib.hid this
  have HB2 := Lib.hid hb2
  clear hg2 hb2 hb1 hg1 hc1
  go_loopw [8] (fun kv wr => ∃ k : Nat, 1 ≤ k ∧ k ≤ n ∧ kv = .int .i64 k ∧ wr.heap[G]? = some (.cells (repC s k n).toArray 9 (0, 0)) ∧ Below w.heap.size w wr) (fun kv _ => n - (intOf kv).toNat)
  case atStart => exact ⟨1, by omega, h1, rfl, HG2.out, HB2.out⟩
  case round =>
    clear HG2 HB2
    obtain ⟨k, hk1, hk, rfl, hgr, hb⟩ := hrel
    have k0 : (0 : Int) ≤ (k : Int) := by omega
    by_cases hkn : k < n
    · have k1 : (k : Int) < (n : Int) := by omega
      have HGR := Lib.hid hgr
      have HB := Lib.hid hb
      clear hgr hb
      go_wp2
      have hct := fun w => cut42 (some ⟨G, 0, none⟩) n n k w hkn (Nat.le_refl n)
      have hch := fun w => cut42h (some ⟨G, 0, none⟩) n n k w (by omega) hk
      simp only [Option.map_some, add_lit', Nat.zero_add] at hct
      obtain ⟨mm, hmm⟩ : ∃ q, Nat.min k (n - k) = q := ⟨_, rfl⟩
      have q1 : mm ≤ k := by rw [← hmm]; exact Nat.min_le_left _ _
      have q2 : mm ≤ n - k := by rw [← hmm]; exact Nat.min_le_right _ _
      have q3 : 1 ≤ mm := by rw [← hmm]; exact Nat.le_min.2 ⟨hk1, by omega⟩
      have HMN := Lib.hid hmm
      clear hmm
      refine wp_region_held (S := fun w' => True) mixed ?_
      change wpAnyH _ _ _ _ _ _ _ _ wr.drew
      have hgW : wr.drew.heap[G]? = some (.cells (repC s k n).toArray 9 (0, 0)) := HGR.out
      have hbW : Below w.heap.size w wr.drew := HB.out.drew
      obtain ⟨W3, hW3⟩ : ∃ u, wr.drew = u := ⟨_, rfl⟩
      rw [hW3] at hgW hbW ⊢
      clear hW3
      refine wpAnyH_take (i := 0) (v := .int .i64 k) rfl (by kernel_rfl) (by kernel_rfl) (by kernel_rfl) (fun c a w h => h) (.inl ⟨by kernel_rfl, fun w' hS => ?_⟩) trivial ?_
      · clear hS; go_simp
      try go_simp
      refine wpAnyH_take (i := 1) (v := .slice (some ⟨G, 0, none⟩) n n) rfl (by kernel_rfl) (by kernel_rfl) (by kernel_rfl) (fun c a w h => h) (.inl ⟨by kernel_rfl, fun w' hS => ?_⟩) trivial ?_
      · clear hS; go_simp
      try go_simp
      refine wpAnyH_take (i := 2) (v := .int .i64 k) rfl (by kernel_rfl) (by kernel_rfl) (by kernel_rfl) (fun c a w h => h) (.inl ⟨by kernel_rfl, fun w' hS => ?_⟩) trivial ?_
      · clear hS; go_simp
      try go_simp
      refine wpAnyH_take (i := 3) (v := .slice (some ⟨G, k, none⟩) (n - k) (n - k)) rfl (by kernel_rfl) (by kernel_rfl) (by kernel_rfl) (fun c a w h => h) (.inl ⟨by kernel_rfl, fun w' hS => ?_⟩) trivial ?_
      · clear hS; go_simp
      try go_simp
      refine wpAnyH_take (i := 4) (v := .slice (some ⟨G, 0, none⟩) n n) rfl (by kernel_rfl) (by kernel_rfl) (by kernel_rfl) (fun c a w h => h) (.inl ⟨by kernel_rfl, fun w' hS => ?_⟩) trivial ?_
      · clear hS; go_simp
      try go_simp
      refine wpAnyH_take (i := 5) (v := .int .i64 k) rfl (by kernel_rfl) (by kernel_rfl) (by kernel_rfl) (fun c a w h => h) (.inl ⟨by kernel_rfl, fun w' hS => ?_⟩) trivial ?_
      · clear hS; go_simp
      try go_simp
      refine wpAnyH_take (i := 6) (v := .slice (some ⟨G, 0, none⟩) k n) rfl (by kernel_rfl) (by kernel_rfl) (by kernel_rfl) (fun c a w h => h) (.inl ⟨by kernel_rfl, fun w' hS => ?_⟩) trivial ?_
      · clear hS; go_simp
      try go_simp
      refine wpAnyH_all (rs := [7]) (by kernel_rfl) (by simp) ?_
      intro i hi
      simp only [List.mem_cons, List.not_mem_nil, or_false] at hi
      subst hi
      unfold wpOp
      simp only []
      have m3 : ∀ v ∈ (List.replicate mm (Value.string s)), v.oneCell' = true := fun v hv => by rw [List.eq_of_mem_replicate hv]; rfl
      have m4 : ∀ j v, (List.replicate mm (Value.string s))[j]? = some v → W3.cell? ((⟨G, 0, none⟩ : Addr).add j) = some v := fun j v hj => by
        have hjm : j < mm := by have := (List.getElem?_eq_some_iff.1 hj).1; simpa using this
        have hv : v = .string s := by simpa [hjm] using hj.symm
        rw [add_lit', Nat.zero_add, hv]
        unfold World.cell?
        rw [hgW]
        simp only [List.getElem?_toArray]
        unfold repC
        rw [List.getElem?_append_left (by rw [List.length_replicate]; omega), List.getElem?_replicate, if_neg (by simp), if_pos (by omega)]
      refine .inl (wp_copy_splice rfl (.tmp 41) (.tmp 44) 42 42 rfl 9 Tryz.underlying42 hsz9 (some ⟨G, k, none⟩) (some ⟨G, 0, none⟩) (n - k) (n - k) k n (by rfl) (by rfl) G k (repC s k n) 9 hgW (List.replicate mm (.string s)) (by rw [List.length_replicate]; exact HMN.out.symm) (fun _ => ⟨rfl, _, rfl, m4⟩) (by rw [repC_length _ _ _ hk, List.length_replicate]; omega) m3 w.heap.size w hbW m5 ?_)
      intro W4 hg4 hb4
      refine ⟨trivial, ?_⟩
      have HG4 : Hid (W4.heap[G]? = some (.cells (repC s (k + mm) n).toArray 9 (0, 0))) := by
        have := hg4.out
        rw [repC_splice s k n mm (by omega)] at this
        exact Lib.hid this
      have HB4 := Lib.hid hb4
      have hwr : IntKind.i64.wrap ((k : Int) + (mm : Int)) = (k : Int) + (mm : Int) := by rw [Go.IntWalk.i64_left, Go.IntWalk.wrap64_in _ (by omega)]
      have HMM := Lib.hid (show 1 ≤ mm ∧ k + mm ≤ n from by omega)
      rw [List.length_replicate]
      clear hg4 hb4 m3 m4 hgW hbW hct hch q1 q2 q3
      try go_simp
      refine wpAnyH_take (i := 8) (v := .int .i64 ((k : Int) + (mm : Int))) rfl (by kernel_rfl) (by kernel_rfl) (by kernel_rfl) (fun c a w h => h) (.inl ⟨by kernel_rfl, fun w' hS => ?_⟩) trivial ?_
      · clear hS; go_simp
      try go_simp
      refine wpAnyH_take (i := 9) (v := .int .i64 ((k : Int) + (mm : Int))) rfl (by kernel_rfl) (by kernel_rfl) (by kernel_rfl) (fun c a w h => h) (.inl ⟨by kernel_rfl, fun w' hS => ?_⟩) trivial ?_
      · clear hS; go_simp
      try go_simp
      refine wpAnyH_done (by kernel_rfl) ?_ _
      go_wp2
      go_roundw
      case rel => exact ⟨k + mm, by omega, HMM.out.2, by go_num, HG4.out, HB4.out⟩
      case measure => have := HMM.out; simp [intOf]; omega
    · obtain rfl : k = n := by omega
      have HFN := Lib.hid (show wr.ownsRow w.heap.size 9 1 (.slice (some ⟨G, 0, none⟩) k k) k (List.replicate k (.string s)) from
        ⟨by simp, .inr ⟨G, k, (repC s k k).toArray, rfl, by rw [HG.out]; exact Nat.le_refl _, hgr, Nat.le_refl _, by unfold maxLen; omega, by simp [repC], by simp [repC]⟩⟩)
      have HB := Lib.hid hb
      clear hgr hb
      go_wp2
      go_ret
      exact ⟨G, rfl, by rw [HG.out]; exact Nat.le_refl _, HFN.out, HB.out⟩
set_option maxRecDepth 100000 in
theorem new_any (n : Nat) (w : World) (h1 : 1 ≤ n) (hn : n ≤ 4096) : Calls Tryz.prog 26 #[.int .i64 n] w fun e w' => ∃ X D, e = .returned (.tuple #[.pointer (some ⟨D, 0, none⟩), .int .i64 0]) ∧ Dsk w' X D ⟨List.replicate n zeroS, [], none, false⟩ ∧ Mv [] X w w' := by
  have KB := blank_any w
  obtain ⟨Z, hZ⟩ : ∃ Z, mk zeroS = Z := ⟨_, rfl⟩
  rw [hZ] at KB
  have HZ := Lib.hid hZ
  have KR := fun g0 (w : World) hc => repeat_any g0 n Z w hc h1 hn
  have n0 : (0 : Int) ≤ (n : Int) := by omega
  have n1 : ¬ ((4096 : Int) < (n : Int)) := by omega
  have n2 : ¬ ((n : Int) < 1) := by omega
  clear hZ
  go_enter Tryz.func26, Tryz.ntmps26
  go_wp2_with (first
    | (go_at_call 62; refine KB.mono ?_; rintro e w1 ⟨rfl, hb1⟩)
    | (go_at_call 61; refine (KR w1.heap.size _ (by rw [(Blk.new w1 #[.string Z] 9).cell]; rfl)).mono ?_; rintro e w2 ⟨gL, rfl, hg2, ho2, hb2⟩))
  go_wp2
  go_ret2
  have hb12 : Below w.heap.size w w2 := (hb1.alloc hb1.size _).trans (hb2.mono (by have := hb1.size; simp; omega))
  have hz : w.heap.size ≤ w2.heap.size := hb12.size
  have hgl := (ho2.lt gL rfl).2
  have hg0 : w.heap.size ≤ gL := by have := hb1.size; simp at hg2; omega
  refine ⟨[w2.heap.size, gL], w2.heap.size, rfl, ⟨⟨gL, n, .slice none 0 0, .pointer none, 0, by simpa using Blk.new w2 _ 123, ?_, World.ownsRow_nil _ _ _ _, rfl, by simp, fun g e => (by cases e)⟩, ⟨fun x hx => ?_, fun x hx => (by cases hx), by simpa using hn⟩, by simp, fun x hx => ?_⟩, Frm.of_below [] (hb12.alloc hz _), fun x hx => ?_⟩
  · have := own_weaken (World.ownsRow.alloc ho2 (.cells #[.slice (some ⟨gL, 0, none⟩) n n, .slice none 0 0, .pointer none, .bool false, .int .i64 0] 123)) (Nat.zero_le _)
    rw [show txc (List.replicate n zeroS) = List.replicate n (.string Z) by simp [txc, HZ.out]]
    simpa using this
  · rw [List.eq_of_mem_replicate hx]; unfold zeroS; rw [List.length_replicate]
  · simp at hx ⊢
    rcases hx with rfl | rfl <;> omega
  · simp at hx
    rcases hx with rfl | rfl <;> omega
theorem new_bad (n : Int) (w : World) (h : n < 1 ∨ 4096 < n) : Calls Tryz.prog 26 #[.int .i64 n] w fun e w' => e = .returned (.tuple #[.pointer none, .int .i64 1]) ∧ w' = w := by
  by_cases h1 : n < 1
  · clear h
    go_enter Tryz.func26, Tryz.ntmps26
    go_wp2
    go_ret2
    exact ⟨rfl, rfl⟩
  · have h2 : 4096 < n := by omega
    clear h
    go_enter Tryz.func26, Tryz.ntmps26
    go_wp2
    go_ret2
    exact ⟨rfl, rfl⟩
end Go.Proofs.YtcmcdddnckcpcaaGreatDoor
