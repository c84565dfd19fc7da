/- VolumeCuts: the row, of its pure law (a hypothesis here): [][]byte opened by the library's open_int_rows. -/
import Derived.Test.YtngifdhaiimikaaRows
import Derived.Test.YtngifdhaiimikaaQx7
import Derived.WalkKit
import Derived.ProofKit
import Derived.OpenShut
import Derived.ShutString
import Derived.ChangeOld
import Derived.Below
import Derived.SizedLaws
import Derived.Deep.Matrix
import Derived.Test.YtngifdhaiimikaaWSized
namespace Go.Proofs.Ytngifdhaiimikaa.Q
open Go.RowKit Go.Proofs.YtngifdhaiimikaaW.PrintWords Go.Proofs.YtngifdhaiimikaaW.PrintLast Go.Proofs.YtngifdhaiimikaaW.PrintMore
/-- What is left of VolumeCuts without memory. -/
def footlockerlaw21_VolumeCuts.Pure : Prop := ∀ (l0 : List (List Int)) (a1 a2 a3 : Int), l0.length ≤ 9223372036854775807 → (∀ x ∈ l0, x.length ≤ 9223372036854775807 ∧ ∀ n ∈ x, (Lit.int .u8 n).wf = true) → (Lit.int .i64 a1).wf = true → (Lit.int .i64 a2).wf = true → (Lit.int .i64 a3).wf = true → ∃ k, footlockerlaw21_VolumeCuts.f k l0 a1 a2 a3 = some true
/-- Rows of bytes that lie there as the library opens them. -/
theorem rows_C {w : World} {a : Addr} {len cap : Nat} {A : Nat → Option Addr} {L C : Nat → Nat} {Z : Nat → List Int} (hl : len ≤ cap) (hm : cap ≤ maxLen)
    (h : ∀ r, r < cap → w.cell? (a.add r) = some (.slice (A r) (L r) (C r)) ∧ L r ≤ C r ∧ C r ≤ maxLen ∧ (Z r).length = C r ∧ (A r = none → C r = 0) ∧ ∀ a', A r = some a' → ∀ c, c < C r → w.cell? (a'.add c) = some (.int .u8 ((Z r).getD c 0))) :
    Kd.C (Kd.slice 5 (Kd.int .u8)) w (some a) len ((List.range len).map fun r => (Z r).take (L r)) := by
  have hmax : maxLen ≤ 9223372036854775807 := by decide
  refine ⟨by simp, Nat.le_trans (Nat.le_trans hl hm) hmax, fun _ => ⟨a, rfl, fun j p hj => ?_⟩⟩
  have hlt : j < len := by
    have := (List.getElem?_eq_some_iff.1 hj).1
    simpa using this
  obtain rfl : (Z j).take (L j) = p := by
    simpa [List.getElem?_map, List.getElem?_range hlt] using hj
  obtain ⟨h1, h2, h3, h4, h5, h6⟩ := h j (Nat.lt_of_lt_of_le hlt hl)
  have hlen : ((Z j).take (L j)).length = L j := by rw [List.length_take]; omega
  refine ⟨[.slice (A j) (L j) (C j)], rfl, ⟨A j, C j, by rw [hlen], by rw [hlen]; exact h2, ?_⟩, fun i u hu => ?_⟩
  · refine Kd.C_of_reads (d := (0 : Int)) (h1 := fun _ => rfl) ⟨rfl, by rw [hlen]; omega, fun hn => ?_⟩
    rw [hlen] at hn ⊢
    cases hA : A j with
    | none => have := h5 hA; omega
    | some a' =>
      refine ⟨a', rfl, fun c hc => ?_⟩
      rw [h6 a' hA c (by omega)]
      rw [List.getD_eq_getElem?_getD, List.getD_eq_getElem?_getD, List.getElem?_take_of_lt hc]
  · cases i with
    | zero =>
      obtain rfl : Value.slice (A j) (L j) (C j) = u := by simpa using hu
      simpa [Kd.slice] using h1
    | succ i => simp at hu
end Go.Proofs.Ytngifdhaiimikaa.Q
namespace Go.Proofs.Ytngifdhaiimikaa.volumeCuts
open Go.ChangeShapes Go.WideShapes Go.ChangeAt Go.RowKit
open Go.Proofs.YtngifdhaiimikaaW
set_option linter.unusedVariables false
theorem own : ownKnob Try.prog.godebug = none := by kernel_rfl
theorem laidOut : laidOutB Try.prog = true := by kernel_rfl
set_option maxRecDepth 100000 in
theorem lifted (P : Q.footlockerlaw21_VolumeCuts.Pure) (os : Os) (started : os.Started) (H : Type) (enc : TypeId × Value → H) :
    ReturnsInHanded {} Try.checked os 5 .any (Rows.volumeCutsSpec.pre6 enc Try.prog Try.f5 Rows.volumeCutsRow.domain false) (Rows.volumeCutsSpec.post enc Try.prog Try.f5 false true false false) := by
  refine returnsInHanded_of_change_sized (C := Try.checked) own started (by kernel_rfl) Try.func5
    (ChangeSpec.witness6 (enc := enc) (C := Try.checked) false ⟨#[], #[.slice none 0 0, .int .i64 0, .int .i64 0, .int .i64 0], []⟩ 8 (by kernel_rfl) (by kernel_rfl) (by kernel_rfl) (by kernel_rfl)) ?_
  intro W base args ds gs before hval0 hW hcnd hsz0 _
  have hval : ∀ (j : Nat) t v, Try.f5.params[j]? = some t → args[j]? = some v → Value.okWide Try.prog W .any base t v := hval0
  have hW' := hW
  obtain ⟨p, q, hA0, hV, rfl, hfz, hnd⟩ := hW
  have hA : DataW.TrodAll enc Try.prog W 0 (fun _ => true) true Try.f5.params.toList args.toList ds p := hA0
  rw [Try.params5] at hA hval
  obtain ⟨v0, vs0, d0, ds0, p0, q0, hargs, rfl, rfl, h0, r0⟩ := trodAll_cons hA
  obtain ⟨v1, vs1, d1, ds1, p1, q1, rfl, rfl, rfl, h1, r1⟩ := trodAll_cons r0
  obtain ⟨v2, vs2, d2, ds2, p2, q2, rfl, rfl, rfl, h2, r2⟩ := trodAll_cons r1
  obtain ⟨v3, vs3, d3, ds3, p3, q3, rfl, rfl, rfl, h3, r3⟩ := trodAll_cons r2
  obtain ⟨rfl, rfl, rfl⟩ := trodAll_nil r3
  obtain rfl : args = #[v0, v1, v2, v3] := by cases args; simp_all
  obtain ⟨rfl, rfl⟩ := trodVars_none hV
  obtain ⟨a0, len0, cap0, rfl⟩ := okWide_slice Try.underlying24 (hval 0 24 v0 rfl rfl)
  have k0 := h0
  have lt0 : ∀ x ∈ p0, x.block < W.heap.size := by obtain ⟨m, hm⟩ := k0; exact DataW.trod_lt m _ _ _ hm
  obtain ⟨a1, rfl, rfl, rfl, w1⟩ := open_int Try.underlying3 (hval 1 3 v1 rfl rfl) h1
  obtain ⟨a2, rfl, rfl, rfl, w2⟩ := open_int Try.underlying3 (hval 2 3 v2 rfl rfl) h2
  obtain ⟨a3, rfl, rfl, rfl, w3⟩ := open_int Try.underlying3 (hval 3 3 v3 rfl rfl) h3
  obtain ⟨l0, rfl, hC, hcap, hb⟩ : ∃ l0 : List (List Int), len0 = l0.length ∧ PrintWords.Kd.C (PrintWords.Kd.slice 5 (PrintWords.Kd.int .u8)) W a0 l0.length l0 ∧ l0.length ≤ cap0 ∧ (∀ x ∈ l0, x.length ≤ 9223372036854775807 ∧ ∀ n ∈ x, (Lit.int .u8 n).wf = true) := by
    obtain ⟨fuel, hf⟩ := h0
    rcases Go.Deep.open_int_rows Try.underlying24 Try.underlying25 Try.underlying5 (by kernel_rfl) (by kernel_rfl) hf with ⟨hcs, _⟩ | ⟨x, len, cap, A, L, C, Z, hcs, _, hl, hm, _, hcell⟩
    · simp [Value.cells] at hcs
      obtain ⟨rfl, rfl, rfl⟩ := hcs
      exact ⟨[], rfl, ⟨rfl, by decide, fun h => absurd h (by decide)⟩, Nat.le_refl _, fun x hx => by cases hx⟩
    · simp [Value.cells] at hcs
      obtain ⟨rfl, rfl, rfl⟩ := hcs
      refine ⟨(List.range len0).map fun r => (Z r).take (L r), by simp, ?_, by simpa using hl, ?_⟩
      · have := Q.rows_C (w := W) (a := x) (len := len0) (cap := cap0) (A := A) (L := L) (C := C) (Z := Z) hl hm (fun r hr => by
          obtain ⟨g1, g2, g3, g4, g5, g6, g7⟩ := hcell r hr
          exact ⟨g1, g2, g3, g4, g6, fun a' ha => (g7 a' ha).2⟩)
        simpa using this
      · intro y hy
        obtain ⟨r, hr, rfl⟩ := List.mem_map.1 hy
        have hr' : r < cap0 := Nat.lt_of_lt_of_le (List.mem_range.1 hr) hl
        obtain ⟨g1, g2, g3, g4, g5, g6, g7⟩ := hcell r hr'
        refine ⟨?_, fun n hn => g5 n (List.mem_of_mem_take hn)⟩
        have hmax : maxLen ≤ 9223372036854775807 := by decide
        rw [List.length_take]
        omega
  clear hA0 hval0 hsz0
  obtain ⟨k, hk⟩ := P l0 a1 a2 a3 hC.2.1 hb w1 w2 w3
  refine (Q.footlockerlaw21_VolumeCuts.calls k a0 cap0 l0 a1 a2 a3 true W hC hcap hk).mono fun e W' ⟨he, bel⟩ => ?_
  subst he
  exact ⟨_, rfl, _, _, _, [], _, [], hW', trodAll_mk1 (shut_bool Try.underlying4 _), (trodAll_cons_mk (Below.trod laidOut (by kernel_rfl) (of_decide_eq_true (by kernel_rfl)) k0 bel lt0) (trodAll_cons_mk (shut_int Try.underlying3 w1) (trodAll_cons_mk (shut_int Try.underlying3 w2) (trodAll_cons_mk (shut_int Try.underlying3 w3) trodAll_mk0)))), rfl, bel.frame _, fun h => by cases h⟩
theorem over (P : Q.footlockerlaw21_VolumeCuts.Pure) : Rows.volumeCutsRow.holds Try.pinned (OpenSpec.ofChange Rows.volumeCutsSpec) :=
  OpenClaim.holds_of_wide 5 Try.f5 rfl rfl rfl rfl rfl rfl rfl ⟨rfl, rfl, rfl, rfl, rfl⟩ rfl rfl rfl rfl rfl (by kernel_rfl) Try.func5 (by kernel_rfl)
    (of_decide_eq_true (by kernel_rfl)) (by unfold Func.isWrapper; first | (rw [if_pos (by decide +kernel)]; kernel_rfl) | (rw [if_neg (by decide +kernel)]; exact ⟨rfl, rfl⟩))
    (fun os started H enc _ => lifted P os started H enc)
end Go.Proofs.Ytngifdhaiimikaa.volumeCuts
