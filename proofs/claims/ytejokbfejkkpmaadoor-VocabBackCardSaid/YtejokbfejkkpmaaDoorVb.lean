/- VocabBack, walked. -/
import Derived.Test.YtejokbfejkkpmaaDoorVbp
import Derived.OrdersHeld
import Derived.Deep.QuietTactic
import Derived.BigQuiet
import Derived.IntWalk
import Derived.Deep.RegionHeld3
import Derived.Deep.AppendLies
import Derived.Lib.BufferRead
import Derived.Laws.IdiomStrings
import Derived.Deep.DeepCutAuto
namespace Go.Proofs.YtejokbfejkkpmaaDoor
open Go.RowKit Go.Maps Go.WideMaps
theorem info5b : (Tryd.prog.info? 5).map (fun i => (i.zero, i.size, i.bytes)) = some (some (.int .u8 0), 1, 1) := by kernel_rfl
def signOf (c : UInt8) : UInt8 := UInt8.ofNat (33 + c.toNat % 94)
def wordB (s : ByteArray) : Bs := (s.data.toList.take 500).map signOf
def bcells (l : Bs) : List Value := l.map fun c => .int .u8 (c.toNat : Int)
theorem signOf_nat (c : UInt8) : (signOf c).toNat = 33 + c.toNat % 94 := by
  unfold signOf
  rw [UInt8.toNat_ofNat']
  omega
theorem signOf_ok (c : UInt8) : signC (signOf c) = true := by
  rw [signC_int, signOf_nat]
  omega
theorem wordB_ok (s : ByteArray) : ∀ c ∈ wordB s, signC c = true := by
  intro c hc
  unfold wordB at hc
  obtain ⟨d, _, rfl⟩ := List.mem_map.1 hc
  exact signOf_ok d
theorem wordB_len (s : ByteArray) : (wordB s).length = min 500 s.size := by simp [wordB]
theorem wordB_at (s : ByteArray) (k : Nat) (h : k < s.size) (h5 : k < 500) : (wordB s).take (k + 1) = (wordB s).take k ++ [signOf s[k]] := by
  have hl : k < (wordB s).length := by rw [wordB_len]; omega
  rw [List.take_succ_eq_append_getElem hl]
  congr 2
  simp [wordB]; rfl
theorem info55b : (Tryd.prog.info? 55).map (fun i => (i.zero, i.size, i.bytes)) = some (some (.agg #[.string ⟨#[]⟩, .string ⟨#[]⟩]), 2, 32) := by kernel_rfl
theorem bcells_snoc (l : Bs) (c : UInt8) : bcells (l ++ [c]) = bcells l ++ [.int .u8 (c.toNat : Int)] := by simp [bcells]
theorem pairarg_row {w : World} {B cap n : Nat} {t : TypeId} {A : Option Addr} {ps : List (Bs × Bs)} (h : w.ownsRow B t 2 (.slice A n cap) n (pcells ps)) (hn : ps.length = n) (hs : Small ps) (hl : n ≤ 1000) : PairArg w A n ps := by
  refine ⟨hn, by omega, fun h0 => ?_, fun p hp => by have := hs p hp; omega⟩
  obtain ⟨g, c, hv, _, hgl⟩ := h.form (by omega)
  injection hv with hA _ hc
  subst hA
  refine ⟨g, 0, rfl, hgl, fun j hj => ?_⟩
  obtain ⟨e1, e2⟩ := pcells_at ps j hj
  have x1 := h.cellAt (j * 2) (by omega)
  have x2 := h.cellAt (j * 2 + 1) (by omega)
  rw [e1] at x1
  rw [e2] at x2
  rw [Nat.zero_add]
  exact ⟨x1, x2⟩
set_option maxRecDepth 100000 in
theorem conv_row {w : World} {B n c : Nat} {A : Option Addr} {l : Bs} (h : w.ownsRow B 5 1 (.slice A n c) n (bcells l)) (hl : l.length = n) : (convert 53 9 (.slice A n c)).run Tryd.prog w = .ok (.string (mk l)) w := by
  subst hl
  rcases h.2 with ⟨h1, h2⟩ | ⟨g, cap, cur, h1, _⟩
  · injection h1 with e1 e2 e3
    subst e1
    have : l = [] := by simpa [bcells] using h2
    subst this
    exact Lib.run_convert_nil_bytes (P := Tryd.prog) w 53 9 5 c Tryd.underlying53 Tryd.underlying5 Tryd.underlying9
  · injection h1 with e1 e2 e3
    subst e1
    refine run_convert_bytes_back (P := Tryd.prog) w 53 9 5 ⟨g, 0, none⟩ c l Tryd.underlying53 Tryd.underlying5 Tryd.underlying9 fun j hj => ?_
    have := h.cellAt j (by omega)
    rw [Go.WideShapes.add_plain, Nat.zero_add, this]
    simp [bcells, hj]
theorem grown_below2 {w w' : World} {b B : Nat} (h : w.grownBy w' (some b)) (hb : B ≤ b) (hw : B ≤ w.heap.size) : Below B w w' := ⟨h.os, h.tape, h.output, h.size, fun k hk => h.block k (by omega) (by intro e; injection e; omega)⟩
theorem own_cells {w : World} {b base : Nat} (h : w.heap[b]? = some (.cells #[] 55 (0, 0))) (hb : base ≤ b) : w.ownsRow base 55 2 (.slice (some ⟨b, 0, none⟩) 0 0) 0 [] := by
  refine ⟨rfl, .inr ⟨b, 0, #[], rfl, hb, h, ?_⟩⟩
  simp
theorem src_row {w : World} {B n c : Nat} {A : Option Addr} {xs : List Value} (h : w.ownsRow B 55 2 (.slice A n c) n xs) : (A = none ∧ n = 0 ∧ xs = []) ∨ ∃ g, A = some ⟨g, 0, none⟩ ∧ xs.length = n * 2 ∧ ∀ j u, xs[j]? = some u → w.cell? ((⟨g, 0, none⟩ : Addr).add j) = some u := by
  have hl := h.1
  rcases h.2 with ⟨h1, h2⟩ | ⟨g, cap, cur, h1, _⟩
  · injection h1 with e1 e2 e3
    exact .inl ⟨e1, h2, List.length_eq_zero_iff.1 (by rw [hl, h2])⟩
  · injection h1 with e1 e2 e3
    subst e1
    refine .inr ⟨g, rfl, hl, fun j u hj => ?_⟩
    have hjl : j < n * 2 := by rw [← hl]; exact (List.getElem?_eq_some_iff.1 hj).1
    rw [Go.WideShapes.add_plain, Nat.zero_add, h.cellAt j hjl]
    exact hj
theorem run_copy (ty : TypeId) (w : World) (b B : Nat) (i : TypeInfo) (hi : Tryd.prog.info? 55 = some i) (hz : i.zero = some (.agg #[.string ⟨#[]⟩, .string ⟨#[]⟩])) (hs : i.size = 2) (hby : i.bytes = 32) (A : Option Addr) (m c : Nat) (xs : List Value) (h1 : ∀ u ∈ xs, u.oneCell' = true)
    (hsrc : (A = none ∧ m = 0 ∧ xs = []) ∨ ∃ g, A = some ⟨g, 0, none⟩ ∧ xs.length = m * 2 ∧ ∀ j u, xs[j]? = some u → w.cell? ((⟨g, 0, none⟩ : Addr).add j) = some u) (hm : m ≤ 1000) (hc : w.heap[b]? = some (.cells #[] 55 (0, 0))) (hB : B ≤ b) :
    ∃ A' c' w', (Builtin.append_ #[24, 24] ty #[.slice (some ⟨b, 0, none⟩) 0 0, .slice A m c]).run Tryd.prog w = .ok (.slice A' m c') w' ∧ w'.ownsRow B 55 2 (.slice A' m c') m xs ∧ w.grownBy w' (some b) := by
  have hown := own_cells (base := B) hc hB
  have hlt : b < w.heap.size := (Array.getElem?_eq_some_iff.1 hc).1
  rcases hsrc with ⟨rfl, rfl, rfl⟩ | ⟨g, rfl, hl, hcell⟩
  · refine ⟨some ⟨b, 0, none⟩, 0, w, ?_, hown, World.grownBy.refl w _⟩
    simp [Builtin.append_, run_underlying Tryd.underlying24, sizeOf, typeInfo, hi, Builtin.lenOf, Builtin.firstCells, storeCells]
  · obtain ⟨v', w', hrun, h2, h3, _⟩ := run_append_own_at (P := Tryd.prog) w B 24 ty 55 i _ 2 32 Tryd.underlying24 hi hz hs hby rfl (by decide) _ 0 [] hown ⟨g, 0, none⟩ m c xs hl hcell h1 (by simp only [maxLen]; omega) (by omega) (by omega)
    rw [Nat.zero_add, List.nil_append] at h2
    obtain ⟨A', c', rfl⟩ := own_form h2
    exact ⟨A', c', w', hrun, h2, h3⟩
theorem run_add (ty : TypeId) (w : World) (B : Nat) (i : TypeInfo) (hi : Tryd.prog.info? 55 = some i) (hz : i.zero = some (.agg #[.string ⟨#[]⟩, .string ⟨#[]⟩])) (hs : i.size = 2) (hby : i.bytes = 32) (A : Option Addr) (n c : Nat) (xs : List Value) (hown : w.ownsRow B 55 2 (.slice A n c) n xs) (hn : n ≤ 1000)
    (b : Nat) (x y : ByteArray) (hc : w.heap[b]? = some (.cells #[.string x, .string y] 55 (0, 0))) (hB : B ≤ w.heap.size) :
    ∃ A' c' w', (Builtin.append_ #[24, 24] ty #[.slice A n c, .slice (some ⟨b, 0, none⟩) 1 1]).run Tryd.prog w = .ok (.slice A' (n + 1) c') w' ∧ w'.ownsRow B 55 2 (.slice A' (n + 1) c') (n + 1) (xs ++ [.string x, .string y]) ∧ w.grownBy w' (Value.slice A n c).ownBlock := by
  obtain ⟨v', w', hrun, h2, h3, _⟩ := run_append_own_at (P := Tryd.prog) w B 24 ty 55 i _ 2 32 Tryd.underlying24 hi hz hs hby rfl (by decide) _ n xs hown ⟨b, 0, none⟩ 1 1 [.string x, .string y] rfl (World.news_of_block (cs := #[.string x, .string y]) hc) (by intro u hu; simp at hu; rcases hu with rfl | rfl <;> rfl) (by simp only [maxLen]; omega) (by omega) hB
  obtain ⟨A', c', rfl⟩ := own_form h2
  exact ⟨A', c', w', hrun, h2, h3⟩
/-- 'append([]Pair{}, good...)' at a step of a region that draws its order. -/
theorem step_copy {w0 w : World} {ops : Array Oper} {o : Oper} {a : Act} {K : Act → World → Prop} {Q : Exit → Act → World → Prop} {E : Prop} (hgd : Region.wanted o (yielded ops a.tmps) = true) (s x : Operand)
    (ho : o.op = .call { callee := .builtin .append, args := #[s, x], argTypes := #[24, 24] })
    (i : TypeInfo) (hi : Tryd.prog.info? 55 = some i) (hz : i.zero = some (.agg #[.string ⟨#[]⟩, .string ⟨#[]⟩])) (hs : i.size = 2) (hby : i.bytes = 32)
    (b : Nat) (hsv : a.eval s = .slice (some ⟨b, 0, none⟩) 0 0) (A : Option Addr) (m c : Nat) (hx : a.eval x = .slice A m c) (xs : List Value) (h1 : ∀ u ∈ xs, u.oneCell' = true)
    (hb0 : Below w0.heap.size w0 w) (hc : w.heap[b]? = some (.cells #[] 55 (0, 0))) (hB : w0.heap.size ≤ b)
    (hsrc : (A = none ∧ m = 0 ∧ xs = []) ∨ ∃ g, A = some ⟨g, 0, none⟩ ∧ xs.length = m * 2 ∧ ∀ j u, xs[j]? = some u → w.cell? ((⟨g, 0, none⟩ : Addr).add j) = some u) (hm : m ≤ 1000)
    (hK : ∀ A' c' w', w'.ownsRow w0.heap.size 55 2 (.slice A' m c') m xs → Below w0.heap.size w0 w' → (∀ (g : Nat) (y : Obj), w.heap[g]? = some y → g ≠ b → w'.heap[g]? = some y) → K (a.put o.dst (.slice A' m c')) w') :
    if Region.wanted o (yielded ops a.tmps) = true then Oper.wp Tryd.prog o a w K Q else E := by
  rw [if_pos hgd]
  obtain ⟨A', c', w', hrun, h2, h3⟩ := run_copy o.type w b w0.heap.size i hi hz hs hby A m c xs h1 hsrc hm hc hB
  unfold Oper.wp execOp
  simp only [ho, resolve, invoke, builtin, Sem.run_bind, Sem.run_pure, Result.andThen_ok, List.map_toArray, List.map_cons, List.map_nil, hsv, hx, hrun]
  exact hK A' c' w' h2 (hb0.grown h3 hb0.size (fun k e => by injection e with e; omega)) (fun g y hg hne => by rw [h3.block g (Array.getElem?_eq_some_iff.1 hg).1 (by intro e; injection e with e; exact hne e)]; exact hg)
/-- 'append(row, pair)' at a step of a region that draws its order. -/
theorem step_add {w0 w : World} {ops : Array Oper} {o : Oper} {a : Act} {K : Act → World → Prop} {Q : Exit → Act → World → Prop} {E : Prop} (hgd : Region.wanted o (yielded ops a.tmps) = true) (s x : Operand)
    (ho : o.op = .call { callee := .builtin .append, args := #[s, x], argTypes := #[24, 24] })
    (i : TypeInfo) (hi : Tryd.prog.info? 55 = some i) (hz : i.zero = some (.agg #[.string ⟨#[]⟩, .string ⟨#[]⟩])) (hs : i.size = 2) (hby : i.bytes = 32)
    (A : Option Addr) (n c : Nat) (hsv : a.eval s = .slice A n c) (b : Nat) (hx : a.eval x = .slice (some ⟨b, 0, none⟩) 1 1) (xs : List Value) (y z : ByteArray)
    (hown : w.ownsRow w0.heap.size 55 2 (.slice A n c) n xs) (hn : n ≤ 1000) (hb0 : Below w0.heap.size w0 w) (hc : w.heap[b]? = some (.cells #[.string y, .string z] 55 (0, 0)))
    (hK : ∀ A' c' w', w'.ownsRow w0.heap.size 55 2 (.slice A' (n + 1) c') (n + 1) (xs ++ [.string y, .string z]) → Below w0.heap.size w0 w' → K (a.put o.dst (.slice A' (n + 1) c')) w') :
    if Region.wanted o (yielded ops a.tmps) = true then Oper.wp Tryd.prog o a w K Q else E := by
  rw [if_pos hgd]
  obtain ⟨A', c', w', hrun, h2, h3⟩ := run_add o.type w w0.heap.size i hi hz hs hby A n c xs hown hn b y z hc hb0.size
  unfold Oper.wp execOp
  simp only [ho, resolve, invoke, builtin, Sem.run_bind, Sem.run_pure, Result.andThen_ok, List.map_toArray, List.map_cons, List.map_nil, hsv, hx, hrun]
  exact hK A' c' w' h2 (hb0.grown h3 hb0.size (fun k e => (hown.lt k e).1))
theorem goodG {G : List Pr} {p : Pr} (h : ∀ q ∈ G, PairOk q) (hp : PairOk p) : ∀ q ∈ G ++ [p], PairOk q := by
  intro q hq
  rcases List.mem_append.1 hq with h1 | h1
  · exact h q h1
  · simp at h1; subst h1; exact hp
theorem inv_row {w : World} {B c : Nat} {A : Option Addr} {G : List Pr} {p : Pr} {X Y : ByteArray} {Z : Int} (hX : mk p.1 = X) (hY : mk p.2 = Y) (hZ : invalidM (G ++ [p]) = Z) (hok : ∀ q ∈ G ++ [p], PairOk q) (hn : G.length ≤ 100)
    (h : w.ownsRow B 55 2 (.slice A (G.length + 1) c) (G.length + 1) (pcells G ++ [.string X, .string Y])) :
    Calls Tryd.prog 22 #[.slice A (G.length + 1) c] w fun e w' => e = .returned (.int .i64 Z) ∧ Below w.heap.size w w' := by
  subst hX; subst hY
  rw [← pcells_snoc] at h
  have hl : (G ++ [p]).length = G.length + 1 := by simp
  have hs : Small (G ++ [p]) := fun q hq => by have := hok q hq; unfold PairOk at this; omega
  have hp := pairarg_row h hl hs (by omega)
  have := invalid_any A c (G ++ [p]) w (by omega) (fun q hq => by have := hok q hq; unfold PairOk at this; omega) (by rw [hl]; exact hp)
  rw [hl, hZ] at this
  exact this
theorem tok_le' {t : Bs} (h : tok t = true) : t.length ≤ 64 := by
  unfold tok at h
  simp at h
  omega
set_option maxRecDepth 100000 in
set_option maxHeartbeats 8000000 in
theorem back_any (A0 : Option Addr) (n0 c0 : Nat) (ps0 : List (Bs × Bs)) (s : ByteArray) (w : World) (h0 : PairArg w A0 n0 ps0) (s0 : Small ps0) (hsz : s.size ≤ 9223372036854775807) :
    Calls Tryd.prog 6 #[.slice A0 n0 c0, .string s] w fun e w' => e = .returned (.bool true) ∧ Below w.heap.size w w' := by
  obtain ⟨i5, hi5, hz0, hz1, hz2⟩ := info_parts info5b
  obtain ⟨ip, hip, hp0, hp1, hp2⟩ := info_parts info55b
  have KS := speaks_any w
  have hS0 : Hid (Small (ps0.take 60)) := Lib.hid (s0.take 60)
  have L0 : (ps0.take 60).length ≤ 60 := by rw [List.length_take]; omega
  obtain ⟨P, hP⟩ : ∃ P, ps0.take 60 = P := ⟨_, rfl⟩
  have KA := fun w1 (b1 : Below w.heap.size w w1) => pairs_any A0 n0 c0 ps0 w1 (h0.below (Nat.le_refl _) b1)
  rw [hP] at hS0 L0
  simp only [hP] at KA
  have HKA := Lib.hid KA
  clear s0 h0 hP KA
  go_enter Tryd.func6, Tryd.ntmps6
  go_wp2_with (go_at_call 9; refine KS.mono ?_; rintro e w1 ⟨rfl, b1⟩; have HB1 := Lib.hid b1; clear b1 KS)
  go_loopw [5, 6] (fun v iv wr => ∃ k : Nat, k ≤ s.size ∧ k ≤ 500 ∧ iv = .int .i64 k ∧ wr.ownsRow w.heap.size 5 1 v k (bcells ((wordB s).take k)) ∧ Below w.heap.size w wr) (fun _ iv _ => s.size - (intOf iv).toNat)
  case atStart => exact ⟨0, by omega, by omega, rfl, World.ownsRow_nil _ _ _ _, HB1.out⟩
  case round =>
    obtain ⟨k, hk, hk5, rfl, hv, hb⟩ := hrel
    have k0 : (0 : Int) ≤ (k : Int) := by omega
    have k5 : (k : Int) ≤ 500 := by omega
    by_cases hlt : k < s.size ∧ k < 500
    · obtain ⟨h1, h2⟩ := hlt
      have h3 : (k : Int) < (s.size : Int) := by omega
      have h4 : (k : Int) < 500 := by omega
      have htk := Lib.hid (wordB_at s k h1 h2)
      have hsg := Lib.hid (signOf_nat s[k])
      obtain ⟨A5, c5, rfl⟩ := own_form hv
      obtain ⟨X, hX⟩ : ∃ x : Int, 33 + (s[k].toNat : Int) % 94 = x := ⟨_, rfl⟩
      have HX : Hid (X = ((signOf s[k]).toNat : Int)) := Lib.hid (by have := hsg.out; omega)
      go_wp2_with (at_builtin; refine wpList_append_own _ rfl (.tmp 28) (.tmp 34) 53 rfl w.heap.size 5 i5 _ 1 1 Tryd.underlying53 hi5 hz0 hz1 hz2 rfl (by decide) _ k _ rfl (hv.alloc _) ⟨wr.heap.size, 0, none⟩ 1 1 [.int .u8 X] rfl rfl ?q1 ?q2 ?q3 ?q4 ?q5 ?_)
      case q1 => exact World.news_of_block (cs := #[.int .u8 X]) (heap_alloc_new wr _)
      case q2 => intro u hu; simp at hu; subst hu; rfl
      case q3 => simp only [maxLen]; omega
      case q4 => omega
      case q5 => have := hb.size; simp; omega
      intro v' w2 hown2 hg2 _
      have hb2 := (hb.alloc hb.size (.cells #[.int .u8 X] 5)).grown hg2 (by have := hb.size; simp; omega) (fun j e => (hv.lt j e).1)
      have HO2 := Lib.hid hown2
      have HB2 := Lib.hid hb2
      clear hown2 hg2 hb2 hv hb hX
      go_wp2
      go_roundw
      case rel => exact ⟨k + 1, by omega, by omega, by go_num, by rw [htk.out, bcells_snoc, ← HX.out]; exact HO2.out, HB2.out⟩
      case measure => simp [intOf]; omega
    · have hend : (wordB s).take k = wordB s ∧ (wordB s).length = k := by
        have := wordB_len s
        have h9 : k = (wordB s).length := by omega
        exact ⟨by rw [h9, List.take_of_length_le (Nat.le_refl _)], h9.symm⟩
      rw [hend.1] at hv
      have HE := Lib.hid hend.2
      obtain ⟨A5, c5, rfl⟩ := own_form hv
      have HV := Lib.hid hv
      have HBR := Lib.hid hb
      have KA := HKA.out wr hb
      have hx : (¬ (k : Int) < (s.size : Int)) ∨ ((k : Int) < (s.size : Int) ∧ ¬ (k : Int) < 500) := by omega
      clear hend hlt hv hb HB1 HKA
      go_upto_region 5 with fail
      go_cut [25] from 18 to 25 (fun s25 wx => s25 = .bool false ∧ wr = wx)
      case first =>
        rcases hx with hx | ⟨hx, hx2⟩
        · go_wp2_with fail
          go_meet
          case rel => exact ⟨rfl, rfl⟩
        · go_wp2_with fail
          go_meet
          case rel => exact ⟨rfl, rfl⟩
      case rest =>
        obtain ⟨rfl, rfl⟩ := hcut
        clear hx
        go_wp2_with (go_at_call 10; refine KA.mono ?_; rintro e w2 ⟨va, vb, rfl, ra, rb, b2⟩; clear KA; obtain ⟨A, ca, rfl⟩ := own_form ra; obtain ⟨A', cb, rfl⟩ := own_form rb)
        have HB2 := Lib.hid b2
        have HRA := Lib.hid ra
        obtain ⟨np, hnp⟩ : ∃ n, P.length = n := ⟨_, rfl⟩
        have HNP := Lib.hid hnp
        rw [hnp] at L0
        simp only [hnp]
        clear b2 ra rb hnp
        go_loopw [9, 10] (fun v iv wr => ∃ k : Nat, k ≤ np ∧ iv = .int .i64 k ∧ wr.ownsRow w2.heap.size 55 2 v (goodL (P.take k)).length (pcells (goodL (P.take k))) ∧ Below w2.heap.size w2 wr) (fun _ iv _ => np - (intOf iv).toNat)
        case atStart => exact ⟨0, by omega, rfl, World.ownsRow_nil _ _ _ _, Below.refl _ _⟩
        case round =>
          obtain ⟨j, hj, rfl, hg, hb⟩ := hrel
          have j0 : (0 : Int) ≤ (j : Int) := by omega
          have j1 : (j : Int) ≤ 60 := by omega
          rcases Nat.lt_or_ge j np with hlt | hge
          · have hj2 : (j : Int) < (np : Int) := by omega
            have hjP : j < P.length := by rw [HNP.out]; exact hlt
            obtain ⟨ga, ca', hv, hga, hgl⟩ := HRA.out.form (by omega)
            injection hv with hA _ hc
            subst hA
            subst hc
            have e0 := HRA.out.cellAt (j * 2) (by omega)
            have e1 := HRA.out.cellAt (j * 2 + 1) (by omega)
            obtain ⟨q0, q1⟩ := pcells_at P j hjP
            rw [q0] at e0
            rw [q1] at e1
            have d0 := (hb.cell (p := ⟨ga, j * 2, none⟩) hgl).trans e0
            have d1 := (hb.cell (p := ⟨ga, j * 2 + 1, none⟩) hgl).trans e1
            have hgw : ga < wr.heap.size := Nat.lt_of_lt_of_le hgl hb.size
            have htk : goodL (P.take (j + 1)) = goodStep (goodL (P.take j)) P[j] := by rw [List.take_succ_eq_append_getElem hjP, goodL_snoc]
            have hok := goodL_ok (P.take j)
            obtain ⟨p, hp⟩ : ∃ p, P[j] = p := ⟨_, rfl⟩
            obtain ⟨G, hG⟩ : ∃ G, goodL (P.take j) = G := ⟨_, rfl⟩
            have hsm := hS0.out p (hp ▸ List.getElem_mem hjP)
            rw [hp, hG] at htk
            rw [hp] at d0 d1
            rw [hG] at hg hok
            have hGl : G.length ≤ 60 := by have := hok.2; rw [List.length_take] at this; omega
            have z0 : (mk p.1).size = p.1.length := mk_size _
            have z1 : (mk p.2).size = p.2.length := mk_size _
            have t0 : tok (mk p.1).data.toList = tok p.1 := by rw [mk_data]
            have t1 : tok (mk p.2).data.toList = tok p.2 := by rw [mk_data]
            have HTK := Lib.hid htk
            have HOK := Lib.hid hok.1
            obtain ⟨X, hX⟩ : ∃ x, mk p.1 = x := ⟨_, rfl⟩
            obtain ⟨Y, hY⟩ : ∃ x, mk p.2 = x := ⟨_, rfl⟩
            rw [hX] at d0 z0 t0
            rw [hY] at d1 z1 t1
            have HX := Lib.hid hX
            have HY := Lib.hid hY
            have KX := fun w' => tok_any X w' (by unfold maxLen; omega)
            have KY := fun w' => tok_any Y w' (by unfold maxLen; omega)
            rw [t0] at KX
            rw [t1] at KY
            obtain ⟨A9, c9, rfl⟩ := own_form hg
            have HG := Lib.hid hg
            have HB := Lib.hid hb
            have HZ0 := Lib.hid z0
            have HZ1 := Lib.hid z1
            clear e0 e1 q0 q1 htk hok hp hG hX hY t0 t1 hg hb z0 z1
            go_upto_region 13 with fail
            go_cut [89] from 41 to 89 (fun s89 wx => s89 = .bool (goesOn G p) ∧ Below wr.heap.size wr wx)
            case first =>
              cases ht1 : tok p.1 with
              | false =>
                rw [ht1] at KX
                have HN : Hid (goesOn G p = false) := Lib.hid (by unfold goesOn; rw [ht1]; rfl)
                clear ht1 KY
                go_wp2_with fail
                go_quiet ((go_at_call 12; exact Calls.quiet_of_same ((KX _).mono fun e w'' h => ⟨h.1, h.2.symm⟩)))
                go_wp2_with fail
                go_meet
                case rel => exact ⟨by rw [HN.out], Go.Joins.below_draws _ _ _⟩
              | true =>
                rw [ht1] at KX
                cases ht2 : tok p.2 with
                | false =>
                  rw [ht2] at KY
                  have QX := fun (w' : World) (n : Nat) => Calls.quiet_of_same (w := w') (n := n) ((KX (w'.drewN n)).mono fun e w'' h => (⟨h.1, h.2.symm⟩ : e = .returned (.bool true) ∧ w'' = w'.drewN n))
                  have QY := fun (w' : World) (n : Nat) => Calls.quiet_of_same (w := w') (n := n) ((KY (w'.drewN n)).mono fun e w'' h => (⟨h.1, h.2.symm⟩ : e = .returned (.bool false) ∧ w'' = w'.drewN n))
                  clear KX KY
                  have HN : Hid (goesOn G p = false) := Lib.hid (by unfold goesOn; rw [ht1, ht2]; rfl)
                  clear ht1 ht2
                  go_wp2_with fail
                  go_quiet ((go_at_call 12; first | (with_reducible exact QX _ _) | (with_reducible exact QY _ _)))
                  go_wp2_with fail
                  go_meet
                  case rel => exact ⟨by rw [HN.out], Go.Joins.below_draws _ _ _⟩
                | true =>
                  rw [ht2] at KY
                  have QX := fun (w' : World) (n : Nat) => Calls.quiet_of_same (w := w') (n := n) ((KX (w'.drewN n)).mono fun e w'' h => (⟨h.1, h.2.symm⟩ : e = .returned (.bool true) ∧ w'' = w'.drewN n))
                  have QY := fun (w' : World) (n : Nat) => Calls.quiet_of_same (w := w') (n := n) ((KY (w'.drewN n)).mono fun e w'' h => (⟨h.1, h.2.symm⟩ : e = .returned (.bool true) ∧ w'' = w'.drewN n))
                  have hl1 := tok_le' ht1
                  have hl2 := tok_le' ht2
                  have x1 : (0 : Int) ≤ (X.size : Int) := by omega
                  have x2 : (X.size : Int) ≤ 64 := by have := HZ0.out; omega
                  have y1 : (0 : Int) ≤ (Y.size : Int) := by omega
                  have y2 : (Y.size : Int) ≤ 64 := by have := HZ1.out; omega
                  have hw : IntKind.i64.wrap ((X.size : Int) + (Y.size : Int)) = (X.size : Int) + (Y.size : Int) := IntWalk.i64_in _ (by omega)
                  by_cases h64 : p.1.length + p.2.length ≤ 64
                  · have h65 : (X.size : Int) + (Y.size : Int) ≤ 64 := by have := HZ0.out; have := HZ1.out; omega
                    have h66 : decide ((X.size : Int) + (Y.size : Int) ≤ 64) = true := by simpa using h65
                    have HONE := Lib.hid (pcells_one G)
                    have hgi := goodG (G := G) (p := p) HOK.out ⟨ht1, ht2, h64⟩
                    obtain ⟨Z, hZ⟩ : ∃ z, invalidM (G ++ [p]) = z := ⟨_, rfl⟩
                    have HN : Hid (goesOn G p = decide (Z = -1)) := Lib.hid (by unfold goesOn; rw [ht1, ht2, hZ]; simp [h64])
                    have KI := fun A' c' (w' : World) (h : w'.ownsRow wr.heap.size 55 2 (.slice A' (G.length + 1) c') (G.length + 1) (pcells G ++ [.string X, .string Y])) => inv_row HX.out HY.out hZ hgi (by omega) h
                    have HGI := Lib.hid hgi
                    clear hgi hZ ht1 ht2 h64 h65 QX QY
                    go_wp2_with fail
                    go_region_held3 (fun w' => w'.cell? ⟨ga, j * 2, none⟩ = some (.string X) ∧ w'.cell? ⟨ga, j * 2 + 1, none⟩ = some (.string Y)) (first | (go_keep) | (exact ⟨((hbA).cell (p := ⟨ga, j * 2, none⟩) hgw).trans d0, ((hbA).cell (p := ⟨ga, j * 2 + 1, none⟩) hgw).trans d1⟩) | (exact ⟨((hbA.alloc hbA.size _).cell (p := ⟨ga, j * 2, none⟩) hgw).trans d0, ((hbA.alloc hbA.size _).cell (p := ⟨ga, j * 2 + 1, none⟩) hgw).trans d1⟩) | (exact ⟨((hbB).cell (p := ⟨ga, j * 2, none⟩) hgw).trans d0, ((hbB).cell (p := ⟨ga, j * 2 + 1, none⟩) hgw).trans d1⟩) | (exact ⟨((hbB.trans (hb10.mono hbB.size)).cell (p := ⟨ga, j * 2, none⟩) hgw).trans d0, ((hbB.trans (hb10.mono hbB.size)).cell (p := ⟨ga, j * 2 + 1, none⟩) hgw).trans d1⟩))
                      (first
                        | (go_at_call 12; first | ((with_reducible refine (KX _).mono ?_); rintro e w'' ⟨rfl, rfl⟩) | ((with_reducible refine (KY _).mono ?_); rintro e w'' ⟨rfl, rfl⟩))
                        | (refine step_copy (w0 := wr) (by rfl) (.tmp 78) (.tmp 79) (by rfl) ip hip hp0 hp1 hp2 _ (by rfl) A9 G.length c9 (by rfl) (pcells G) HONE.out
                            (by first | exact ((Below.refl _ _).alloc (Nat.le_refl _) _).drew | exact (((Below.refl _ _).alloc (Nat.le_refl _) _).alloc (by simp) _).drew | exact (Below.refl _ _).alloc (Nat.le_refl _) _ | exact ((Below.refl _ _).alloc (Nat.le_refl _) _).alloc (by simp) _)
                            (by first | exact heap_new _ _ _ (by first | rfl | (simp; done)) | exact heap_old (heap_new _ _ _ (by first | rfl | (simp; done))))
                            (by first | exact Nat.le_refl _ | (simp; done) | (simp; omega))
                            (by first | exact src_row (HG.out.alloc _).drew | exact src_row ((HG.out.alloc _).alloc _).drew | exact src_row (HG.out.alloc _) | exact src_row ((HG.out.alloc _).alloc _)) (by omega) ?_
                           intro A8 c8 w8 TA hbA hkA)
                        | (refine step_add (w0 := wr) (by rfl) (.tmp 80) (.tmp 85) (by rfl) ip hip hp0 hp1 hp2 A8 G.length c8 (by rfl) _ (by rfl) (pcells G) X Y
                            (by first | exact TA | exact TA.alloc _) (by omega) (by first | exact hbA | exact hbA.alloc hbA.size _)
                            (by first | exact heap_new _ _ _ (by first | rfl | (simp; done)) | exact hkA _ _ (heap_new _ _ _ (by first | rfl | (simp; done))) (by simp) | exact hkA _ _ (heap_old (heap_new _ _ _ (by first | rfl | (simp; done)))) (by simp)) ?_
                           intro A7 c7 w9 TB hbB)
                        | (go_at_call 22; (with_reducible refine (KI _ _ _ TB).mono ?_); rintro e w10 ⟨rfl, hb10⟩)
                        | fail)
                    all_goals go_wp2_with fail
                    all_goals go_meet
                    all_goals exact ⟨by rw [HN.out]; first | rfl | (congr 1; rw [Bool.eq_iff_iff]; simp), hbB.trans (hb10.mono hbB.size)⟩
                  · have HN : Hid (goesOn G p = false) := Lib.hid (by unfold goesOn; rw [ht1, ht2]; simp [h64])
                    have h65 : ¬ ((X.size : Int) + (Y.size : Int) ≤ 64) := by have := HZ0.out; have := HZ1.out; omega
                    have h66 : decide ((X.size : Int) + (Y.size : Int) ≤ 64) = false := by simpa using h65
                    clear ht1 ht2 h64
                    go_wp2_with fail
                    go_quiet ((go_at_call 12; first | (with_reducible exact QX _ _) | (with_reducible exact QY _ _)))
                    go_wp2_with fail
                    go_meet
                    case rel => exact ⟨by rw [HN.out], Go.Joins.below_draws _ _ _⟩
            case rest =>
              obtain ⟨rfl, hbx⟩ := hcut
              have hgc := own_below HG.out hbx
              have hb2 := HB.out.trans (hbx.mono HB.out.size)
              cases hgo : goesOn G p with
              | false =>
                have HS : Hid (goodL (P.take (j + 1)) = G) := Lib.hid (by rw [HTK.out]; unfold goodStep; rw [hgo]; rfl)
                have HB3 := Lib.hid hb2
                have HG3 := Lib.hid hgc
                clear hgo hbx hb2 hgc d0 d1
                go_wp2
                go_roundw
                case rel => first | exact ⟨j + 1, by omega, by go_num, by rw [HS.out]; exact HG3.out, HB3.out⟩ | ((repeat apply Exists.intro); exact ⟨⟨j + 1, by omega, by go_num, by rw [HS.out]; exact HG3.out, HB3.out⟩, rfl⟩)
                case measure => simp [intOf]; omega
              | true =>
                have HS : Hid (goodL (P.take (j + 1)) = G ++ [p]) := Lib.hid (by rw [HTK.out]; unfold goodStep; rw [hgo]; rfl)
                have f0 := (hbx.cell (p := ⟨ga, j * 2, none⟩) hgw).trans d0
                have f1 := (hbx.cell (p := ⟨ga, j * 2 + 1, none⟩) hgw).trans d1
                clear hgo d0 d1 KX KY
                go_wp2_with (at_builtin; refine wpList_append_own _ rfl (.tmp 90) (.tmp 95) 24 rfl w2.heap.size 55 ip _ 2 32 Tryd.underlying24 hip hp0 hp1 hp2 rfl (by decide) _ G.length (pcells G) rfl (hgc.alloc _) ⟨wc.heap.size, 0, none⟩ 1 1 [.string X, .string Y] rfl rfl ?r1 ?r2 ?r3 ?r4 ?r5 ?_)
                case r2 => exact ⟨rfl, rfl⟩
                case r3 => simp only [maxLen]; omega
                case r4 => omega
                case r5 => have := hb2.size; simp; omega
                intro v' w3 hown3 hg3 _
                have hb3 := (hb2.alloc hb2.size (.cells #[.string X, .string Y] 55)).grown hg3 (by have := hb2.size; simp; omega) (fun j e => (hgc.lt j e).1)
                have HO3 := Lib.hid hown3
                have HB3 := Lib.hid hb3
                clear hown3 hg3 hb3 hgc hbx hb2 f0 f1
                go_wp2
                go_roundw
                case rel => first | exact ⟨j + 1, by omega, by go_num, by rw [HS.out, pcells_snoc, HX.out, HY.out, List.length_append]; exact HO3.out, HB3.out⟩ | ((repeat apply Exists.intro); exact ⟨⟨j + 1, by omega, by go_num, by rw [HS.out, pcells_snoc, HX.out, HY.out, List.length_append]; exact HO3.out, HB3.out⟩, rfl⟩)
                case measure => simp [intOf]; omega
          · obtain rfl : np = j := by omega
            rw [show P.take np = P from List.take_of_length_le (by rw [HNP.out]; omega)] at hg
            have hok := goodL_ok P
            obtain ⟨G, hG⟩ : ∃ G, goodL P = G := ⟨_, rfl⟩
            rw [hG] at hg hok
            have hGl : G.length ≤ 60 := by have := hok.2; rw [HNP.out] at this; omega
            obtain ⟨A9, c9, rfl⟩ := own_form hg
            have hsm : Small G := fun q hq => by have := hok.1 q hq; unfold PairOk at this; omega
            have KO := of_any A9 c9 G wr (by omega) (pairs_of_row hg rfl hsm)
            have hTl := ofT_len G
            have hTk := ofT_tok G
            have HLAW := Lib.hid fun Q h => back_law G hok.1 (by omega) (wordB s) (wordB_ok s) (Q := Q) h
            obtain ⟨T, hT⟩ : ∃ T, ofT G = T := ⟨_, rfl⟩
            rw [hT] at KO hTl hTk HLAW
            have HPA : Hid (∀ w', (∀ g, (Value.slice A9 G.length c9).ownBlock = some g → w'.heap[g]? = wr.heap[g]?) → PairArg w' A9 G.length G) := Lib.hid fun w' hk => pairarg_row (own_same hg hk) rfl hsm (by omega)
            have HTK := Lib.hid hTk
            have HGR := Lib.hid hg
            have HB := Lib.hid hb
            clear hT hG hg hb hok hTk hsm hge hj j0 j1
            go_wp2_with (go_at_call 11; refine KO.mono ?_; rintro e w4 ⟨v, rfl, ro, b4⟩; clear KO; obtain ⟨g, co, hvo, _, hgo⟩ := ro.form (by omega); obtain ⟨A4, c4, rfl⟩ := own_form ro; injection hvo with e1 _ e2; subst e1; subst e2)
            have KN := new_any g c4 T w4 (fun j u h => (ro.cellAt j (by have := (List.getElem?_eq_some_iff.1 h).1; rw [ents_length] at this; omega)).trans h) (by omega) (by omega) (fun t ht => by have := tok_le' (HTK.out t ht); unfold maxLen; omega)
            have HB4 := Lib.hid b4
            clear ro b4 hgo
            obtain ⟨WD, hWD⟩ : ∃ x, mk (wordB s) = x := ⟨_, rfl⟩
            have HWD := Lib.hid hWD
            clear hWD
            go_wp2_with (go_at_call 14; refine KN.mono ?_; rintro e w5 ⟨b, rfl, hidx, b5⟩; clear KN; have hcv := conv_row (own_below (own_below HV.out HB2.out) (HB.out.trans ((HB4.out.trans (b5.mono HB4.out.size)).mono HB.out.size))) HE.out; rw [HWD.out] at hcv)
            have bl := hidx.lt
            have B15 : Below wr.heap.size wr w5 := HB4.out.trans (b5.mono HB4.out.size)
            have hwl : (wordB s).length ≤ 500 := by rw [wordB_len]; omega
            have HV2 := own_below (own_below HV.out HB2.out) (HB.out.trans (B15.mono HB.out.size))
            have KE := encode_any w4.heap.size b T false 0 A9 G.length c9 G (wordB s) w5 hidx (by omega) (by omega) b5.size (fun w' hg => HPA.out w' fun g hg' => by
              have h1 := (HGR.out.lt g hg').2
              rw [hg.block g (by have := B15.size; omega) (by intro e; injection e with e; have := HB4.out.size; omega)]
              exact B15.block g h1) (by omega) (by omega)
            rw [HWD.out] at KE
            have HIDX := Lib.hid hidx
            have HB5 := Lib.hid b5
            have HB15 := Lib.hid B15
            have Hbl := Lib.hid bl
            have Hwl := Lib.hid hwl
            have HV3 := Lib.hid HV2
            clear hidx b5 B15 bl HV2 hwl
            go_wp2_with (go_at_call 15; (with_reducible refine KE.mono ?_); rintro e w6 ⟨Q, v6, hF, rfl, hrow, hi6, hg6⟩; clear KE; have HF := Lib.hid hF; have HROW := Lib.hid hrow; have HI6 := Lib.hid hi6; have HG6 := Lib.hid hg6; clear hF hrow hi6 hg6)
            obtain ⟨hL1, hL2, hL3, hL4⟩ := HLAW.out Q HF.out
            have hQl := (fin_length HF.out).1
            have hr6 := HROW.out
            rw [hL1, if_pos rfl] at hr6
            rw [hL1]
            obtain ⟨A6, c6, rfl⟩ := own_form hr6
            have hil : (idsOf T Q).length = Q.length := by simp [idsOf]
            have KD := decode_any w4.heap.size b w5.heap.size T true (0 + 1) A6 c6 (idsOf T Q) w6 HI6.out (by omega) (by omega) (by have := HB5.out.size; have := HG6.out.size; omega) (by rw [hil]; exact hr6) (by have := Hwl.out; omega) hL4 (fun t ht => tok_le' (HTK.out t ht))
            rw [hil] at KD
            unfold DecOut at KD
            rw [hL2, hL3] at KD
            simp only [if_true] at KD
            rw [HWD.out] at KD
            obtain ⟨nq, hnq⟩ : ∃ n, Q.length = n := ⟨_, rfl⟩
            rw [hnq] at KD hQl
            rw [hnq]
            have hle : nq ≤ k := by have := HE.out; omega
            have hle2 : decide (nq ≤ k) = true := by simpa using hle
            have hww : (WD.toList == WD.toList) = true := by simp
            have HROWB := Lib.hid (own_below HV.out HB2.out)
            clear hL1 hL2 hL3 hL4 hr6 hil hnq hQl hcv
            go_wp2_with (first
              | (go_at_call 18; (with_reducible refine KD.mono ?_); rintro e w7 ⟨rfl, hi7, hg7⟩; clear KD; have hcv := conv_row (own_same HV3.out (fun g e => by
                  have h1 := (HROWB.out.lt g e).2
                  have h2 := HB.out.size
                  have h3 := HB4.out.size
                  have h4 := Hbl.out
                  have h5 := HG6.out.size
                  rw [hg7.block g (by omega) (by intro e; injection e with e; omega), HG6.out.block g (by omega) (by intro e; injection e with e; omega)])) HE.out; rw [HWD.out] at hcv; have KQ := asked_any _ _ _ _ _ _ hi7; have HG7 := Lib.hid hg7; clear hi7 hg7)
              | (go_at_call 21; refine KQ.mono ?_; rintro e w8 ⟨rfl, rfl⟩; clear KQ))
            go_ret
            have s1 := HBR.out.size
            have s2 := HB2.out.size
            have s3 := HB.out.size
            have s4 := HB4.out.size
            have s5 := HB5.out.size
            have s6 := HG6.out.size
            have s7 := Hbl.out.1
            exact ⟨by first | rfl | simp, ((((HBR.out.trans (HB2.out.mono s1)).trans (HB.out.mono (by omega))).trans (HB4.out.mono (by omega))).trans (HB5.out.mono (by omega))).trans ((grown_below2 HG6.out (by omega) (by omega)).trans (grown_below2 HG7.out (by omega) (by omega)))⟩
end Go.Proofs.YtejokbfejkkpmaaDoor
