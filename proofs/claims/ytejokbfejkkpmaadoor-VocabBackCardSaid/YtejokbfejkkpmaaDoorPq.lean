/- stemmalaw09.pairs, walked: the first sixty pairs, twice. -/
import Derived.Test.YtejokbfejkkpmaaDoorOf
import Derived.Deep.RegionHeld3
import Derived.BigQuiet
namespace Go.Proofs.YtejokbfejkkpmaaDoor
open Go.RowKit Go.Maps Go.WideMaps
theorem info55 : (Tryd.prog.info? 55).map (fun i => (i.zero, i.size, i.bytes)) = some (some (.agg #[.string ⟨#[]⟩, .string ⟨#[]⟩]), 2, 32) := by kernel_rfl
theorem info67 : (Tryd.prog.info? 67).map (fun i => (i.zero, i.size, i.bytes)) = some (some (.agg #[.string ⟨#[]⟩, .string ⟨#[]⟩]), 2, 32) := by kernel_rfl
/-- The memory's cells of pairs of texts. -/
def pcells : List (Bs × Bs) → List Value
  | [] => []
  | p :: l => .string (mk p.1) :: .string (mk p.2) :: pcells l
theorem pcells_snoc (l : List (Bs × Bs)) (p : Bs × Bs) : pcells (l ++ [p]) = pcells l ++ [.string (mk p.1), .string (mk p.2)] := by
  induction l with
  | nil => rfl
  | cons a l ih => simp [pcells, ih]
theorem pcells_length (l : List (Bs × Bs)) : (pcells l).length = l.length * 2 := by
  induction l with
  | nil => rfl
  | cons a l ih => simp [pcells, ih]; omega
/-- A slice of pairs of texts that came in. -/
def PairArg (w : World) (A : Option Addr) (n : Nat) (ps : List (Bs × Bs)) : Prop :=
  ps.length = n ∧ n ≤ 9223372036854775807 ∧ (0 < n → ∃ b off, A = some ⟨b, off, none⟩ ∧ b < w.heap.size ∧ ∀ j (h : j < ps.length), w.cell? ⟨b, off + j * 2, none⟩ = some (.string (mk ps[j].1)) ∧ w.cell? ⟨b, off + j * 2 + 1, none⟩ = some (.string (mk ps[j].2))) ∧
    ∀ p ∈ ps, p.1.length ≤ 9223372036854775807 ∧ p.2.length ≤ 9223372036854775807
theorem own_apart {w : World} {b1 s1 b2 s2 : Nat} {e1 e2 : TypeId} {v1 v2 : Value} {n1 n2 : Nat} {xs1 xs2 : List Value} (h1 : w.ownsRow b1 e1 s1 v1 n1 xs1) (h2 : w.ownsRow b2 e2 s2 v2 n2 xs2) (he : e1 ≠ e2) : v2.ownBlock = none ∨ v1.ownBlock ≠ v2.ownBlock := by
  rcases h2.2 with ⟨rfl, _⟩ | ⟨g2, c2, cur2, rfl, _, hg2, _⟩
  · exact .inl rfl
  · rcases h1.2 with ⟨rfl, _⟩ | ⟨g1, c1, cur1, rfl, _, hg1, _⟩
    · exact .inr (by simp [Value.ownBlock])
    · refine .inr ?_
      intro e
      simp only [Value.ownBlock, Option.some.injEq] at e
      subst e
      rw [hg1] at hg2
      simp only [Option.some.injEq, Obj.cells.injEq] at hg2
      exact he hg2.2.1
/-- Two rows that the call owns. -/
structure Two (w0 w : World) (e1 e2 : TypeId) (v1 : Value) (n1 : Nat) (xs1 : List Value) (v2 : Value) (n2 : Nat) (xs2 : List Value) : Prop where
  one : w.ownsRow w0.heap.size e1 2 v1 n1 xs1
  two : w.ownsRow w0.heap.size e2 2 v2 n2 xs2
  bel : Below w0.heap.size w0 w
theorem Two.alloc {w0 w : World} {e1 e2 : TypeId} {v1 v2 : Value} {n1 n2 : Nat} {xs1 xs2 : List Value} (h : Two w0 w e1 e2 v1 n1 xs1 v2 n2 xs2) (o : Obj) : Two w0 (w.alloc o) e1 e2 v1 n1 xs1 v2 n2 xs2 :=
  ⟨h.one.alloc o, h.two.alloc o, h.bel.alloc h.bel.size o⟩
theorem Two.drew {w0 w : World} {e1 e2 : TypeId} {v1 v2 : Value} {n1 n2 : Nat} {xs1 xs2 : List Value} (h : Two w0 w e1 e2 v1 n1 xs1 v2 n2 xs2) : Two w0 w.drew e1 e2 v1 n1 xs1 v2 n2 xs2 :=
  ⟨h.one.drew, h.two.drew, h.bel.drew⟩
theorem Two.swap {w0 w : World} {e1 e2 : TypeId} {v1 v2 : Value} {n1 n2 : Nat} {xs1 xs2 : List Value} (h : Two w0 w e1 e2 v1 n1 xs1 v2 n2 xs2) : Two w0 w e2 e1 v2 n2 xs2 v1 n1 xs1 :=
  ⟨h.two, h.one, h.bel⟩
/-- An append to one of two rows, at a step of a region that draws its order. -/
theorem step_two {w0 w : World} {ops : Array Oper} {o : Oper} {a : Act} {K : Act → World → Prop} {Q : Exit → Act → World → Prop} {E : Prop} (hgd : o.guard = none) (s x : Operand) (t : TypeId)
    (ho : o.op = .call { callee := .builtin .append, args := #[s, x], argTypes := #[t, t] })
    (e1 e2 : TypeId) (hne : e1 ≠ e2) (i : TypeInfo) (z : Value) (ht : Tryd.prog.underlying t = some (.slice e1)) (hi : Tryd.prog.info? e1 = some i) (hz : i.zero = some z)
    (hsize : i.size = 2) (hby : i.bytes = 32) (hzs : z.cells.size = 2) (v1 : Value) (n1 : Nat) (xs1 : List Value) (v2 : Value) (n2 : Nat) (xs2 : List Value) (hs : a.eval s = v1)
    (T : Two w0 w e1 e2 v1 n1 xs1 v2 n2 xs2) (hn : n1 ≤ 1000) (B : Nat) (x0 y0 : ByteArray) (fr : Nat × Nat) (hx : a.eval x = .slice (some ⟨B, 0, none⟩) 1 1) (hb : w.heap[B]? = some (.cells #[.string x0, .string y0] e1 fr))
    (hK : ∀ v w', Two w0 w' e1 e2 v (n1 + 1) (xs1 ++ [.string x0, .string y0]) v2 n2 xs2 → (∀ (g : Nat) (cs : Array Value) (fr : Nat × Nat), w.heap[g]? = some (Obj.cells cs e2 fr) → w'.heap[g]? = some (Obj.cells cs e2 fr)) → K (a.put o.dst v) w') :
    if Region.wanted o (yielded ops a.tmps) = true then Oper.wp Tryd.prog o a w K Q else E := by
  refine step_append_lies w hgd s x t ho w0.heap.size e1 i z 2 32 ht hi hz hsize hby hzs (by omega) v1 n1 xs1 hs T.one ⟨B, 0, none⟩ 1 1 [.string x0, .string y0] hx rfl
    (World.news_of_block (cs := #[.string x0, .string y0]) hb) (by simp [Value.oneCell']) (by omega) (by simp only [maxLen]; omega) (by omega) T.bel.size w.heap.size rfl ?_
  intro g cap w' hown hg hat hlt
  refine hK _ _ ⟨hown, T.two.kept hg ?_, T.bel.grown hg T.bel.size (fun k e => (T.one.lt k e).1)⟩ ?_
  · rcases own_apart T.one T.two hne with h | h
    · exact .inl h
    · exact .inr (fun e => h e.symm)
  · intro g cs fr hh
    rw [hg.block g (Array.getElem?_eq_some_iff.1 hh).1 ?_]
    · exact hh
    · intro e
      rcases T.one.2 with ⟨rfl, _⟩ | ⟨g1, c1, cur1, rfl, _, hg1, _⟩
      · simp [Value.ownBlock] at e
      · simp only [Value.ownBlock, Option.some.injEq] at e
        subst e
        rw [hg1] at hh
        simp only [Option.some.injEq, Obj.cells.injEq] at hh
        exact hne hh.2.1
theorem heap_old {w : World} {o : Obj} {g : Nat} {x : Obj} (h : w.heap[g]? = some x) : (w.alloc o).heap[g]? = some x := by
  have hl := (Array.getElem?_eq_some_iff.1 h).1
  show (w.heap.push o)[g]? = _
  rw [Array.getElem?_push, if_neg (by omega), h]
theorem heap_new (w : World) (o : Obj) (g : Nat) (h : g = w.heap.size) : (w.alloc o).heap[g]? = some o := by subst h; exact heap_alloc_new w o
set_option maxRecDepth 100000 in
set_option maxHeartbeats 4000000 in
theorem pairs_any (A : Option Addr) (n cap : Nat) (ps : List (Bs × Bs)) (w : World) (hp : PairArg w A n ps) :
    Calls Tryd.prog 10 #[.slice A n cap] w fun e w' => ∃ va vb, e = .returned (.tuple #[va, vb]) ∧ w'.ownsRow w.heap.size 55 2 va (ps.take 60).length (pcells (ps.take 60)) ∧ w'.ownsRow w.heap.size 67 2 vb (ps.take 60).length (pcells (ps.take 60)) ∧ Below w.heap.size w w' := by
  obtain ⟨hpn, hn, hcell, hsz⟩ := hp
  obtain ⟨ia, hia, ha0, ha1, ha2⟩ := info_parts info55
  obtain ⟨ib, hib, hb0, hb1, hb2⟩ := info_parts info67
  have HC := Lib.hid hcell
  clear hcell hsz
  go_enter Tryd.func10, Tryd.ntmps10
  go_wp2
  go_loopw [4, 5, 6] (fun va vb i wr => ∃ k : Nat, k ≤ 60 ∧ k ≤ n ∧ i = .int .i64 k ∧ wr.ownsRow w.heap.size 55 2 va k (pcells (ps.take k)) ∧ wr.ownsRow w.heap.size 67 2 vb k (pcells (ps.take k)) ∧ Below w.heap.size w wr) (fun _ _ i _ => 60 - (intOf i).toNat)
  case atStart => exact ⟨0, by omega, by omega, rfl, World.ownsRow_nil _ _ _ _, World.ownsRow_nil _ _ _ _, Below.refl _ _⟩
  case round =>
    obtain ⟨k, hk, hkn, rfl, hA, hB, hbl⟩ := hrel
    obtain ⟨A1, cap1, rfl⟩ := own_form hA
    obtain ⟨A2, cap2, rfl⟩ := own_form hB
    by_cases h : k < 60 ∧ k < n
    · obtain ⟨h60, hln⟩ := h
      obtain ⟨g, off, rfl, hgl, hcs⟩ := HC.out (by omega)
      obtain ⟨g0, g1⟩ := hcs k (by omega)
      have d0 := (hbl.cell (p := ⟨g, off + k * 2, none⟩) hgl).trans g0
      have d1 := (hbl.cell (p := ⟨g, off + k * 2 + 1, none⟩) hgl).trans g1
      have hsn : pcells (ps.take (k + 1)) = pcells (ps.take k) ++ [.string (mk ps[k].1), .string (mk ps[k].2)] := by
        rw [List.take_succ_eq_append_getElem (by omega), pcells_snoc]
      have hkl : k < ps.length := by omega
      obtain ⟨x, hx⟩ : ∃ x, mk ps[k].1 = x := ⟨_, rfl⟩
      obtain ⟨y, hy⟩ : ∃ x, mk ps[k].2 = x := ⟨_, rfl⟩
      have hgw : g < wr.heap.size := by have := hbl.size; omega
      rw [hx] at d0 hsn
      rw [hy] at d1 hsn
      obtain ⟨xs, hxs⟩ : ∃ x, pcells (ps.take k) = x := ⟨_, rfl⟩
      rw [hxs] at hA hB hsn
      have hsn' := Lib.hid hsn
      rw [hx] at g0
      rw [hy] at g1
      clear hcs HC hsn hx hy hxs
      have k0 : (0 : Int) ≤ (k : Int) := by omega
      have k1 : (k : Int) < (n : Int) := by omega
      have T0 : Two w wr 55 67 _ k xs _ k xs := ⟨hA, hB, hbl⟩
      clear hA hB hbl
      go_wp2_with fail
      go_region_held3 (fun w' => w'.cell? ⟨g, off + k * 2, none⟩ = some (.string x) ∧ w'.cell? ⟨g, off + k * 2 + 1, none⟩ = some (.string y))
        (first | (go_keep) | (exact ⟨(TA.bel.cell (p := ⟨g, off + k * 2, none⟩) hgl).trans g0, (TA.bel.cell (p := ⟨g, off + k * 2 + 1, none⟩) hgl).trans g1⟩) | (exact ⟨(TB.bel.cell (p := ⟨g, off + k * 2, none⟩) hgl).trans g0, (TB.bel.cell (p := ⟨g, off + k * 2 + 1, none⟩) hgl).trans g1⟩) | (exact ⟨((TA.bel.alloc TA.bel.size _).cell (p := ⟨g, off + k * 2, none⟩) hgl).trans g0, ((TA.bel.alloc TA.bel.size _).cell (p := ⟨g, off + k * 2 + 1, none⟩) hgl).trans g1⟩) | (exact ⟨((TB.bel.alloc TB.bel.size _).cell (p := ⟨g, off + k * 2, none⟩) hgl).trans g0, ((TB.bel.alloc TB.bel.size _).cell (p := ⟨g, off + k * 2 + 1, none⟩) hgl).trans g1⟩))
        (first
          | (refine step_two (by rfl) (.tmp 17) (.tmp 29) _ (by rfl) 55 67 (by decide) ia _ Tryd.underlying24 hia ha0 ha1 ha2 (by rfl) (.slice A1 k cap1) k xs _ _ _ (by rfl)
              (by first | exact TB.swap | exact TB.swap.alloc _ | exact (TB.swap.alloc _).drew | exact (T0.alloc _).drew | exact T0.alloc _ | exact ((T0.alloc _).drew.alloc _) | exact ((T0.alloc _).drew.alloc _).drew) (by omega) _ x y (0, 0) (by rfl)
              (by first | exact heap_new _ _ _ (by first | rfl | (simp; done)) | exact hkB _ _ _ (heap_new _ _ _ (by first | rfl | (simp; done))) | exact heap_old (heap_new _ _ _ (by first | rfl | (simp; done))) | exact hkB _ _ _ (heap_old (heap_new _ _ _ (by first | rfl | (simp; done))))) ?_
             intro va wa TA hkA)
          | (refine step_two (by rfl) (.tmp 31) (.tmp 43) _ (by rfl) 67 55 (by decide) ib _ Tryd.underlying25 hib hb0 hb1 hb2 (by rfl) (.slice A2 k cap2) k xs _ _ _ (by rfl)
              (by first | exact TA.swap | exact TA.swap.alloc _ | exact (TA.swap.alloc _).drew | exact (T0.swap.alloc _).drew | exact T0.swap.alloc _ | exact ((T0.swap.alloc _).drew.alloc _) | exact ((T0.swap.alloc _).drew.alloc _).drew) (by omega) _ x y (0, 0) (by rfl)
              (by first | exact heap_new _ _ _ (by first | rfl | (simp; done)) | exact hkA _ _ _ (heap_new _ _ _ (by first | rfl | (simp; done))) | exact heap_old (heap_new _ _ _ (by first | rfl | (simp; done))) | exact hkA _ _ _ (heap_old (heap_new _ _ _ (by first | rfl | (simp; done))))) ?_
             intro vb wb TB hkB))
      all_goals clear T0 hkA hkB d0 d1 g0 g1 k0 k1
      all_goals go_wp2
      all_goals go_roundw
      all_goals first
        | exact ⟨k + 1, by omega, by omega, by go_num, by rw [hsn'.out]; exact TA.one, by rw [hsn'.out]; exact TA.two, TA.bel⟩
        | exact ⟨k + 1, by omega, by omega, by go_num, by rw [hsn'.out]; exact TB.two, by rw [hsn'.out]; exact TB.one, TB.bel⟩
        | (simp [intOf]; omega)
    · have hend : ps.take k = ps.take 60 ∧ (ps.take 60).length = k := by
        rcases Nat.lt_or_ge k 60 with h1 | h1
        · have : k = ps.length := by omega
          subst this
          rw [List.take_of_length_le (by omega), List.take_of_length_le (by omega)]
          exact ⟨rfl, rfl⟩
        · obtain rfl : k = 60 := by omega
          exact ⟨rfl, by rw [List.length_take]; omega⟩
      have hend' := Lib.hid hend
      clear hend
      rcases Nat.lt_or_ge k n with h1 | h1
      · obtain rfl : k = 60 := by omega
        go_wp2
        go_ret2
        refine ⟨_, _, rfl, ?_, ?_, hbl⟩
        · first | exact hA | (rw [hend'.out.2, ← hend'.out.1]; exact hA) | (rw [← hend'.out.1]; exact hA)
        · first | exact hB | (rw [hend'.out.2, ← hend'.out.1]; exact hB) | (rw [← hend'.out.1]; exact hB)
      · obtain rfl : k = n := by omega
        go_wp2
        go_ret2
        refine ⟨_, _, rfl, ?_, ?_, hbl⟩
        · first | exact hA | (rw [hend'.out.2, ← hend'.out.1]; exact hA) | (rw [← hend'.out.1]; exact hA)
        · first | exact hB | (rw [hend'.out.2, ← hend'.out.1]; exact hB) | (rw [← hend'.out.1]; exact hB)
end Go.Proofs.YtejokbfejkkpmaaDoor
