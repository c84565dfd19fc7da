/- The steps, as the library opens them. -/
import Derived.Test.YtbhjdbkdnandfaaSpp
import Derived.Deep.SlicePairs
import Derived.ProofKit
import Derived.WalkKit
import Derived.ChangeSlices
namespace Go.Proofs.Ytbhjdbkdnandfaa.Sp
open Go Go.RowKit Go.Fw Go.Fw.Asn Go.Proofs Go.ChangeShapes Go.WideShapes
theorem cell_of_blocks {W w : World} {a : Addr} {v : Value} (h : W.cell? a = some v) (hs : ∀ k, k < W.heap.size → w.heap[k]? = W.heap[k]?) : w.cell? a = some v := by
  have hlt := World.block_lt_of_cell? W a h
  have := hs a.block hlt
  unfold World.cell? at h ⊢
  rw [this]
  exact h
section
variable {H : Type} {enc : TypeId × Value → H} {W : World} {base : Nat} {held : Bool} {fuel : Nat} {cs : List Value} {x : DataW H × List MemPlace}
/-- A row of bytes that came in. -/
theorem open_bytes (h : DataW.trod enc Try.prog W base (fun _ => true) held fuel 33 cs = some x) : ∃ A n c xs, cs = [.slice A n c] ∧ n = List.length xs ∧ n ≤ c ∧ c ≤ maxLen ∧ FRd (fun k => k < W.heap.size) W A (bys xs) ∧ ∀ b ∈ xs, (Lit.int .u8 b).wf = true := by
  rcases open_ints Try.underlying33 Try.underlying5 (by kernel_rfl) h with ⟨rfl, _⟩ | ⟨a, len, cap, zs, rfl, _, hl, hm, hz, _, hcell, hw⟩
  · exact ⟨none, 0, 0, [], rfl, rfl, Nat.le_refl _, Nat.zero_le _, fun _ _ => .inl rfl, fun _ h => by cases h⟩
  · simp only [if_true] at hz
    refine ⟨some a, len, cap, zs.take len, rfl, by rw [List.length_take]; omega, hl, hm, fun w hw2 => .inr ⟨a, rfl, fun j u hj => ?_⟩, fun b hb => hw b (List.mem_of_mem_take hb)⟩
    obtain ⟨hlt, rfl⟩ := List.getElem?_eq_some_iff.1 hj
    have hlt2 : j < zs.length := by simp [ints] at hlt; omega
    have := hcell j hlt2
    refine (cell_of_blocks this hw2).trans ?_
    simp [ints, List.getD_eq_getElem?_getD, hlt2]
/-- The steps that came in. -/
theorem open_ops (h : DataW.trod enc Try.prog W base (fun _ => true) held fuel 22 cs = some x) : ∃ A n c ops, cs = [.slice A n c] ∧ n = List.length ops ∧ n ≤ maxLen ∧ FOps (fun k => k < W.heap.size) W A ops ∧ ∀ o ∈ ops, ∀ b ∈ o.2, (Lit.int .u8 b).wf = true := by
  rcases Go.Deep.open_slice_pairs Try.underlying22 Try.underlying35 (by kernel_rfl) rfl rfl (by kernel_rfl) (by kernel_rfl) h with ⟨rfl, _⟩ | ⟨a, len, cap, m, n, V0, V1, D0, D1, P0, P1, rfl, _, hl, hm, hmm, _, hx⟩
  · exact ⟨none, 0, 0, [], rfl, rfl, Nat.zero_le _, fun j o hj => by simp at hj, fun _ h => by cases h⟩
  · simp only [if_true] at hmm
    subst hmm
    have each : ∀ i, i < len → ∃ q : (Int × List Int) × Option Addr × Nat, V0 i = .int .i64 q.1.1 ∧ V1 i = .slice q.2.1 q.1.2.length q.2.2 ∧ q.1.2.length ≤ q.2.2 ∧ FRd (fun k => k < W.heap.size) W q.2.1 (bys q.1.2) ∧ ∀ b ∈ q.1.2, (Lit.int .u8 b).wf = true := by
      intro i hi
      obtain ⟨h1, h2, h3, h4⟩ := hx i (by omega)
      obtain ⟨k, hk, _, _⟩ := DataW.trod_int Try.underlying3 h3
      obtain ⟨B, n, c, xs, he, hn, hc, _, hr, hw⟩ := open_bytes h4
      refine ⟨((k, xs), B, c), by simpa using hk, ?_, by show xs.length ≤ c; omega, hr, hw⟩
      subst hn
      simpa using he
    obtain ⟨q, hq⟩ := Go.Deep.choose_lt each
    refine ⟨some a, len, m, (List.range len).map fun i => (q i).1, rfl, by simp, by omega, fun j o hj => ?_, fun o ho => ?_⟩
    · have hlt : j < len := by
        have := (List.getElem?_eq_some_iff.1 hj).1
        simpa using this
      obtain rfl : (q j).1 = o := by simpa [List.getElem?_map, List.getElem?_range hlt] using hj
      obtain ⟨g1, g2, g3, g4, g5⟩ := hq j hlt
      obtain ⟨h1, h2, _, _⟩ := hx j (by omega)
      refine ⟨a, (q j).2.1, (q j).2.2, rfl, g3, g4, fun w hw i v hv => ?_⟩
      rw [Addr.add_add]
      match i, hv with
      | 0, hv =>
        obtain rfl : Value.int .i64 (q j).1.1 = v := by simpa using hv
        rw [← g1]
        exact cell_of_blocks h1 hw
      | 1, hv =>
        obtain rfl : Value.slice (q j).2.1 (q j).1.2.length (q j).2.2 = v := by simpa using hv
        rw [← g2]
        exact cell_of_blocks h2 hw
    · obtain ⟨i, hi, rfl⟩ := List.mem_map.1 ho
      exact (hq i (List.mem_range.1 hi)).2.2.2.2
end
end Go.Proofs.Ytbhjdbkdnandfaa.Sp
