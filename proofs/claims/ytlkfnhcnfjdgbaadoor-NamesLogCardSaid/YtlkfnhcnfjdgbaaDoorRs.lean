/- A region that draws its order: what holds may be made more midway. -/
import Derived.Test.YtlkfnhcnfjdgbaaDoorBo
import Derived.OrdersHeld
namespace Go.Proofs.YtlkfnhcnfjdgbaaDoor
open Go.RowKit
theorem wpAnyH_strong {P : Program} {md : Region.Mode} {ops : Array Oper} {Q : Exit → Act → World → Prop} {S S2 : World → Prop} (hS : ∀ w, S2 w → S w) : ∀ (fuel : Nat) (listed : Array Bool) (a : Act) (w : World), wpAnyH P md ops Q S2 fuel listed a w → wpAnyH P md ops Q S fuel listed a w
  | 0, _, _, _, h => h
  | fuel + 1, _, _, _, h => ⟨h.1, fun i hi => wpOp_mono (fun a' w' h' => ⟨hS _ h'.1, wpAnyH_strong hS fuel _ a' w' h'.2⟩) (h.2 i hi)⟩
end Go.Proofs.YtlkfnhcnfjdgbaaDoor
