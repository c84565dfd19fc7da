/- SpanFills: the row, printed by wip/fw/rowgen.py. -/
import Derived.Test.YtbhjdbkdnandfaaRows
import Derived.Test.YtbhjdbkdnandfaaSpr
import Derived.Test.YtbhjdbkdnandfaaSpg
import Derived.Test.YtbhjdbkdnandfaaSph
import Derived.OpenShut
import Derived.ShutString
import Derived.ChangeOld
import Derived.Below
import Derived.SizedLaws
namespace Go.Proofs.Ytbhjdbkdnandfaa.spanFills
open Go Go.ChangeShapes Go.WideShapes Go.ChangeAt Go.RowKit Go.Fw Go.Proofs
theorem own : ownKnob Try.prog.godebug = none := by kernel_rfl
theorem laidOut : laidOutB Try.prog = true := by kernel_rfl
theorem int_bounds {a : Int} (h : (Lit.int .i64 a).wf = true) : -9223372036854775808 ≤ a ∧ a ≤ 9223372036854775807 := by
  simp [Lit.wf, IntKind.min, IntKind.max, IntKind.bits, IntKind.signed] at h
  omega
theorem runs {W : World} {a0 : Int} {A1 : Option Addr} {c1 : Nat} {ops1 : Sp.OpL} (hs0 : -9223372036854775808 ≤ a0 ∧ a0 ≤ 9223372036854775807) (ho1 : Sp.FOps (fun k => k < W.heap.size) W A1 ops1) (hl1 : ops1.length ≤ 9223372036854775807) : Runs Try.prog 4 [.int .i64 a0, .slice A1 ops1.length c1] W (fun v w' => v = .bool true ∧ Below W.heap.size W w') := by
  by_cases hbad : a0 < 5 ∨ a0 > 16777216
  · exact Sp.fills_bad ho1 hl1 hs0 hbad
  · exact Sp.fills_good ho1 hl1 hs0 hbad
set_option maxRecDepth 100000 in
theorem lifted (os : Os) (started : os.Started) (H : Type) (enc : TypeId × Value → H) :
    ReturnsInHanded {} Try.checked os 4 .any (Rows.spanFillsSpec.pre6 enc Try.prog Try.f4 Rows.spanFillsRow.domain false) (Rows.spanFillsSpec.post enc Try.prog Try.f4 false true false false) := by
  refine returnsInHanded_of_change_sized (C := Try.checked) own started (by kernel_rfl) Try.func4
    (ChangeSpec.witness6 (enc := enc) (C := Try.checked) false ⟨#[], #[.int .i64 0, .slice none 0 0], []⟩ 8 (by kernel_rfl) (by kernel_rfl) (by kernel_rfl) (by kernel_rfl)) ?_
  intro W base args ds gs before hval0 hW hcnd hsz0 _
  have hval : ∀ (j : Nat) t v, Try.f4.params[j]? = some t → args[j]? = some v → Value.okWide Try.prog W .any base t v := hval0
  have hW' := hW
  obtain ⟨p, q, hA0, hV, rfl, hfz, hnd⟩ := hW
  have hA : DataW.TrodAll enc Try.prog W 0 (fun _ => true) true Try.f4.params.toList args.toList ds p := hA0
  rw [Try.params4] at hA hval
  obtain ⟨v0, vs0, d0, ds0, p0, q0, hargs, rfl, rfl, h0, r0⟩ := trodAll_cons hA
  obtain ⟨v1, vs1, d1, ds1, p1, q1, rfl, rfl, rfl, h1, r1⟩ := trodAll_cons r0
  obtain ⟨rfl, rfl, rfl⟩ := trodAll_nil r1
  obtain rfl : args = #[v0, v1] := by cases args; simp_all
  obtain ⟨rfl, rfl⟩ := trodVars_none hV
  have hmax : maxLen ≤ 9223372036854775807 := by decide
  obtain ⟨a0, rfl, rfl, rfl, w0⟩ := open_int Try.underlying3 (hval 0 3 v0 rfl rfl) h0
  obtain ⟨a1, len1, cap1, rfl⟩ := okWide_slice Try.underlying22 (hval 1 22 v1 rfl rfl)
  have k1 := h1
  have lt1 : ∀ x ∈ p1, x.block < W.heap.size := by obtain ⟨m, hm⟩ := k1; exact DataW.trod_lt m _ _ _ hm
  obtain ⟨ops1, rfl, hops1, hlen1⟩ : ∃ ops : Sp.OpL, len1 = ops.length ∧ Sp.FOps (fun k => k < W.heap.size) W a1 ops ∧ ops.length ≤ maxLen := by
    obtain ⟨fuel, hf⟩ := h1
    obtain ⟨A, n, c, ops, hcs, hn, hm, ho, _⟩ := Sp.open_ops hf
    simp [Value.cells] at hcs
    obtain ⟨rfl, rfl, rfl⟩ := hcs
    exact ⟨ops, hn, ho, hn ▸ hm⟩
  clear hA0 hval0 hsz0
  refine Calls.mono (runs (hs0 := int_bounds w0) (ho1 := hops1) (hl1 := by omega) (c1 := cap1)) fun e W' he => ?_
  obtain ⟨v, rfl, rfl, bel⟩ := he
  exact ⟨_, rfl, _, _, _, [], _, [], hW', trodAll_mk1 (shut_bool Try.underlying4 _), (trodAll_cons_mk (shut_int Try.underlying3 w0) (trodAll_cons_mk (Below.trod laidOut (by kernel_rfl) (of_decide_eq_true (by kernel_rfl)) k1 bel lt1) trodAll_mk0)), rfl, bel.frame _, fun h => by cases h⟩
end Go.Proofs.Ytbhjdbkdnandfaa.spanFills
namespace Go.Proofs.Ytbhjdbkdnandfaa
open Go Go.ChangeShapes Go.WideShapes Go.ChangeAt
theorem spanFills_holds : Rows.SpanFillsSaid :=
  OpenClaim.holds_of_wide 4 Try.f4 rfl rfl rfl rfl rfl rfl rfl ⟨rfl, rfl, rfl, rfl, rfl⟩ rfl rfl rfl rfl rfl (by kernel_rfl) Try.func4 (by kernel_rfl)
    (of_decide_eq_true (by kernel_rfl)) (by unfold Func.isWrapper; first | (rw [if_pos (by decide +kernel)]; kernel_rfl) | (rw [if_neg (by decide +kernel)]; exact ⟨rfl, rfl⟩))
    (fun os started H enc _ => spanFills.lifted os started H enc)
end Go.Proofs.Ytbhjdbkdnandfaa
