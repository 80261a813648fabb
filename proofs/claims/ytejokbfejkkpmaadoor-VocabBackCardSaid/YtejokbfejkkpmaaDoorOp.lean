/- Plain laws of vocab.Of's tokens. -/
import Derived.Test.YtejokbfejkkpmaaDoorAd
namespace Go.Proofs.YtejokbfejkkpmaaDoor
/-- The signs, each a token. -/
def baseT : List Bs := (List.range 94).map fun i => [UInt8.ofNat (33 + i)]
def ofT (ps : List (Bs × Bs)) : List Bs := ps.foldl (fun ts p => addT ts (p.1 ++ p.2)) baseT
theorem base_step : ∀ i, i < 94 → addT (baseT.take i) [UInt8.ofNat (33 + i)] = baseT.take (i + 1) := by decide
theorem base_all : baseT.take 94 = baseT := by decide
theorem ofT_snoc (ps : List (Bs × Bs)) (p : Bs × Bs) : ofT (ps ++ [p]) = addT (ofT ps) (p.1 ++ p.2) := by simp [ofT]
theorem addT_len (ts : List Bs) (s : Bs) : (addT ts s).length ≤ ts.length + 1 ∧ ts.length ≤ (addT ts s).length := by
  unfold addT; split <;> simp
end Go.Proofs.YtejokbfejkkpmaaDoor
