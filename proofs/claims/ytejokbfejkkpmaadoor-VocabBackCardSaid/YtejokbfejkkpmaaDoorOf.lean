/- vocab.Of, walked. -/
import Derived.Test.YtejokbfejkkpmaaDoorOp
import Derived.Laws.IdiomStrings
namespace Go.Proofs.YtejokbfejkkpmaaDoor
open Go.RowKit Go.Maps Go.WideMaps
/-- A slice of pairs of texts. -/
def Pairs (w : World) (A : Option Addr) (ps : List (Bs × Bs)) : Prop :=
  (0 < ps.length → ∃ g, A = some ⟨g, 0, none⟩ ∧ g < w.heap.size ∧ ∀ j (h : j < ps.length), w.cell? ⟨g, j * 2, none⟩ = some (.string (mk ps[j].1)) ∧ w.cell? ⟨g, j * 2 + 1, none⟩ = some (.string (mk ps[j].2))) ∧
    ∀ p ∈ ps, p.1.length + p.2.length ≤ 9223372036854775807
theorem mk_append (a b : Bs) : mk a ++ mk b = mk (a ++ b) := by
  have h : (mk a ++ mk b).data = (mk (a ++ b)).data := by rw [ByteArray.data_append]; simp [mk]
  exact ByteArray.ext h
set_option maxRecDepth 100000 in
set_option maxHeartbeats 1600000 in
theorem of_any (A : Option Addr) (cap : Nat) (ps : List (Bs × Bs)) (w : World) (hn : ps.length ≤ 1000) (hp : Pairs w A ps) :
    Calls Tryd.prog 11 #[.slice A ps.length cap] w fun e w' => ∃ v, e = .returned v ∧ w'.ownsRow w.heap.size 31 2 v (ofT ps).length (ents 0 (ofT ps)) ∧ Below w.heap.size w w' := by
  have hmm := @run_makeMap Tryd.prog
  obtain ⟨n, hL⟩ : ∃ n, ps.length = n := ⟨_, rfl⟩
  rw [hL] at hn ⊢
  have HBS := Lib.hid base_step
  have HBA := Lib.hid base_all
  obtain ⟨bt, hbt⟩ : ∃ bt, baseT = bt := ⟨_, rfl⟩
  rw [hbt] at HBS HBA
  have HP := Lib.hid hp
  have HO0 := Lib.hid (show ofT (ps.take 0) = bt from hbt)
  have hbl : bt.length = 94 := by rw [← hbt]; decide
  clear hp hbt
  go_enter Tryd.func11, Tryd.ntmps11
  go_wp2
  go_loopw [6] (fun c wr => ∃ i : Nat, i ≤ 94 ∧ c = .int .i64 (33 + (i : Int)) ∧ St w.heap.size (w.heap.size + 1) (w.heap.size + 1 + 1) w.heap.size (bt.take i) wr ∧ Below w.heap.size w wr) (fun c _ => 127 - (intOf c).toNat)
  case atStart =>
    refine ⟨0, Nat.zero_le _, rfl, ?_, ?_⟩
    · refine ⟨by omega, by omega, Nat.le_refl _, by omega, ?_, ?_, _, ((Boxed.new w 28 (.slice none 0 0)).alloc _).alloc _, World.ownsRow_nil _ _ _ _⟩
      · have := (Known.made (w.alloc (.cells #[.slice none 0 0] 28))).alloc (.cells #[.map (some (w.heap.size + 1))] 68)
        simpa using this
      · have := Boxed.new ((w.alloc (.cells #[.slice none 0 0] 28)).alloc (.map #[] 0)) 68 (.map (some (w.heap.size + 1)))
        simpa using this
    · exact (((Below.refl _ w).alloc (Nat.le_refl _) _).alloc (by simp) _).alloc (by simp; omega) _
  case round =>
    obtain ⟨i, hi, rfl, hst, hB⟩ := hrel
    by_cases hlt : i < 94
    · have hsz := hB.size
      have hnat : (UInt8.ofNat (33 + i)).toNat = 33 + i := by rw [UInt8.toNat_ofNat']; omega
      have hcv : (convert 53 9 (.slice (some ⟨wr.heap.size, 0, none⟩) 1 1)).run Tryd.prog (wr.alloc (.cells #[.int .u8 (33 + (i : Int))] 5)) = .ok (.string (mk [UInt8.ofNat (33 + i)])) (wr.alloc (.cells #[.int .u8 (33 + (i : Int))] 5)) := by
        refine run_convert_bytes_back (P := Tryd.prog) (wr.alloc (.cells #[.int .u8 (33 + (i : Int))] 5)) 53 9 5 ⟨wr.heap.size, 0, none⟩ 1 [UInt8.ofNat (33 + i)] Tryd.underlying53 Tryd.underlying5 Tryd.underlying9 (fun j hj => ?_)
        obtain rfl : j = 0 := by simpa using hj
        refine (World.news_of_block (cs := #[.int .u8 (33 + (i : Int))]) (t := 5) (fr := (0, 0)) (heap_alloc_new wr _) 0 _ rfl).trans ?_
        show some (Value.int .u8 (33 + (i : Int))) = some (Value.int .u8 (((UInt8.ofNat (33 + i)).toNat : Nat) : Int))
        rw [hnat]
        congr 2
      have hs1 : (mk [UInt8.ofNat (33 + i)]).size = 1 := mk_size _
      have hst' : St w.heap.size (w.heap.size + 1) (w.heap.size + 1 + 1) w.heap.size (bt.take i) (wr.alloc (.cells #[.int .u8 (33 + (i : Int))] 5)) := by
        obtain ⟨a1, a2, a3, a4, a5, a6, v, a7, a8⟩ := hst
        exact ⟨a1, a2, a3, a4, a5.alloc _, a6.alloc _, v, a7.alloc _, a8.alloc _⟩
      have hbs := HBS.out i hlt
      have K := add_any w.heap.size (w.heap.size + 1) (w.heap.size + 1 + 1) w.heap.size (bt.take i) (mk [UInt8.ofNat (33 + i)]) (wr.alloc (.cells #[.int .u8 (33 + (i : Int))] 5)) (by rw [hs1]; unfold maxLen; omega) (by rw [List.length_take]; omega) (by simp; omega) hst'
      rw [mk_data, hbs] at K
      obtain ⟨S, hS⟩ : ∃ S, mk [UInt8.ofNat (33 + i)] = S := ⟨_, rfl⟩
      rw [hS] at K hcv
      clear hst hst' hbs hnat hS hs1
      go_wp2_with fail
      refine K.mono ?_
      rintro e w2 ⟨rfl, hst2, hb2⟩
      have hB2 : Below w.heap.size w w2 := (hB.alloc hsz _).trans hb2
      clear K hb2 hB hcv
      go_wp2
      go_roundw
      case rel => exact ⟨i + 1, by omega, by go_num, hst2, hB2⟩
      case measure => simp [intOf]; omega
    · obtain rfl : i = 94 := by omega
      rw [HBA.out, ← HO0.out] at hst
      rw [show (33 : Int) + ((94 : Nat) : Int) = 127 from rfl]
      clear HBS HBA
      go_wp2
      go_loopw [8, 23] (fun _ j wr => ∃ k : Nat, k ≤ n ∧ j = .int .i64 k ∧ (ofT (ps.take k)).length ≤ 94 + k ∧ St w.heap.size (w.heap.size + 1) (w.heap.size + 1 + 1) w.heap.size (ofT (ps.take k)) wr ∧ Below w.heap.size w wr) (fun _ j _ => n - (intOf j).toNat)
      case atStart => exact ⟨0, Nat.zero_le _, rfl, by rw [HO0.out, hbl]; omega, hst, hB⟩
      case round =>
        clear hst hB
        obtain ⟨k, hk, rfl, hlen, hst, hB⟩ := hrel
        have hsz := hB.size
        by_cases hkn : k < n
        · obtain ⟨g, rfl, hgl, hcs⟩ := HP.out.1 (by omega)
          obtain ⟨g0, g1⟩ := hcs k (by omega)
          have d0 := (hB.cell (p := ⟨g, k * 2, none⟩) hgl).trans g0
          have d1 := (hB.cell (p := ⟨g, k * 2 + 1, none⟩) hgl).trans g1
          have hsm := HP.out.2 _ (List.getElem_mem (show k < ps.length by omega))
          have hsn : ofT (ps.take (k + 1)) = addT (ofT (ps.take k)) (ps[k].1 ++ ps[k].2) := by
            rw [List.take_succ_eq_append_getElem (by omega), ofT_snoc]
          have hal := addT_len (ofT (ps.take k)) (ps[k].1 ++ ps[k].2)
          rw [← hsn] at hal
          obtain ⟨pr, hpr⟩ : ∃ p, ps[k] = p := ⟨_, rfl⟩
          rw [hpr] at d0 d1 hsm hsn
          have hap := mk_append pr.1 pr.2
          have z0 : (mk pr.1).size = pr.1.length := mk_size _
          have z1 : (mk pr.2).size = pr.2.length := mk_size _
          have hst' : St w.heap.size (w.heap.size + 1) (w.heap.size + 1 + 1) w.heap.size (ofT (ps.take k)) (wr.alloc (.cells #[.string (mk pr.1), .string (mk pr.2)] 55)) := by
            obtain ⟨a1, a2, a3, a4, a5, a6, v, a7, a8⟩ := hst
            exact ⟨a1, a2, a3, a4, a5.alloc _, a6.alloc _, v, a7.alloc _, a8.alloc _⟩
          have K := add_any w.heap.size (w.heap.size + 1) (w.heap.size + 1 + 1) w.heap.size (ofT (ps.take k)) (mk pr.1 ++ mk pr.2) (wr.alloc (.cells #[.string (mk pr.1), .string (mk pr.2)] 55)) (by rw [hap, mk_size, List.length_append]; unfold maxLen; omega) (by omega) (by simp; omega) hst'
          rw [hap, mk_data, ← hsn, ← hap] at K
          obtain ⟨a, ha⟩ : ∃ a, mk pr.1 = a := ⟨_, rfl⟩
          obtain ⟨b, hb⟩ : ∃ a, mk pr.2 = a := ⟨_, rfl⟩
          rw [ha] at K d0 z0
          rw [hb] at K d1 z1
          clear hst hst' hcs g0 g1 hap hsn hpr ha hb
          go_wp2_with fail
          refine K.mono ?_
          rintro e w2 ⟨rfl, hst2, hb2⟩
          have hB2 : Below w.heap.size w w2 := (hB.alloc hsz _).trans hb2
          clear K hb2 hB d0 d1
          go_wp2
          go_roundw
          case rel => exact ⟨k + 1, by omega, by go_num, by omega, hst2, hB2⟩
          case measure => simp [intOf]; omega
        · obtain rfl : k = n := by omega
          have e : ps.take k = ps := List.take_of_length_le (by omega)
          rw [e] at hst
          obtain ⟨_, _, _, _, _, _, v, hbx, hrow⟩ := hst
          have c1 := hbx.cell
          go_wp2
          go_ret
          exact ⟨_, rfl, hrow, hB⟩
end Go.Proofs.YtejokbfejkkpmaaDoor
