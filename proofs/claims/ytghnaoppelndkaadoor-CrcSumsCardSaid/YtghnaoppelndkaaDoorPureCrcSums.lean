/- CrcSums: of all bytes and sums every answer is as the document says: what is left of it without memory. -/
import Derived.Test.YtghnaoppelndkaaDoorPc
import Derived.Test.YtghnaoppelndkaaDoorPb
namespace Go.Proofs.YtghnaoppelndkaaDoor.Pure
open Go.RowKit Go.Proofs.YtghnaoppelndkaaDoor.Q Go.Proofs.YtghnaoppelndkaaDoorW.PrintWords Go.Proofs.YtghnaoppelndkaaDoorW.PrintLast
set_option linter.unusedVariables false
theorem wf_i64 {a : Int} (h : (Lit.int .i64 a).wf = true) : -9223372036854775808 ≤ a ∧ a ≤ 9223372036854775807 := by
  simp [Lit.wf, IntKind.min, IntKind.max, IntKind.bits, IntKind.signed] at h
  omega
theorem CrcSums : footlockerlaw06_CrcSums.Pure := by
  intro a0 l1 a2 h0 h1 h2 h3 h4
  obtain ⟨K, hK⟩ := alive_ev
  have ha := (wf_i64 h4).2
  refine ⟨K + 12 * l1.length + 10, ?_⟩
  unfold footlockerlaw06_CrcSums.f
  rw [hK _ (by omega), Option.bind_some, if_pos rfl]
  by_cases hl : (l1.length : Int) > 300
  · rw [if_pos hl]
  · rw [if_neg hl]
    have hl' : l1.length ≤ 300 := by omega
    clear h0 h1 h2 h3 h4 hl
    rw [show crc_Update.f (K + 12 * l1.length + 10) a0 l1 = some (updI a0 l1) from rfl, Option.bind_some, refUpd_ev a0 l1 (by omega) _ (by omega), Option.bind_some, if_pos rfl]
    rw [show crc_Sum.f (K + 12 * l1.length + 10) l1 = some (updI 0 l1) from rfl, Option.bind_some, refSum_ev l1 (by omega) _ (by omega), Option.bind_some, if_pos rfl]
    obtain ⟨r, e1, e2, e3⟩ := refBlocks_ev l1 hl' a2 ha (K + 12 * l1.length + 10) (by omega)
    rw [e2, Option.bind_some, e1, Option.bind_some, refSame_ev r (by omega) _ (by omega)]
    rfl
end Go.Proofs.YtghnaoppelndkaaDoor.Pure
