/- The document's example holds: alive answers true. -/
import Derived.Test.YtghnaoppelndkaaDoorQx2
import Derived.Test.YtghnaoppelndkaaDoorPa
namespace Go.Proofs.YtghnaoppelndkaaDoor.Pure
open Go.RowKit Go.Proofs.YtghnaoppelndkaaDoor.Q Go.Proofs.YtghnaoppelndkaaDoorW.PrintWords Go.Proofs.YtghnaoppelndkaaDoorW.PrintLast
theorem alive_ev : ∃ K, ∀ k, K ≤ k → footlockerlaw06_alive.f k = some true :=
  by
  obtain ⟨k0, h⟩ := footlockerlaw06_alive.ev
  exact ⟨k0, fun k hk => at_rounds footlockerlaw06_alive.mono hk h⟩
end Go.Proofs.YtghnaoppelndkaaDoor.Pure
