/- Join of a literal of two rows of bytes is both, one behind the other. -/
import Derived.Test.YtghnaoppelndkaaDoorQx3
namespace Go.Proofs.YtghnaoppelndkaaDoor.Q
open Go.RowKit Go.Proofs.YtghnaoppelndkaaDoorW.PrintWords Go.Proofs.YtghnaoppelndkaaDoorW.PrintLast Go.Proofs.YtghnaoppelndkaaDoorW.PrintMore
set_option linter.unusedVariables false
def slices_Chunk_byte_byte.f (l0 : List Int) (l1 : List Int) : Option (List Int) := if l0.length + l1.length < 140737488355328 then some (l0 ++ l1) else none
theorem two_reads {w : World} {A0 A1 : Option Addr} {c0 c1 : Nat} {l0 l1 : List Int} (h0 : Kd.C (Kd.int .u8) w A0 l0.length l0) (hc0 : l0.length ≤ c0) (h1 : Kd.C (Kd.int .u8) w A1 l1.length l1) (hc1 : l1.length ≤ c1) :
    Kd.C (Kd.slice 5 (Kd.int .u8)) (w.alloc (.cells #[.slice A0 l0.length c0, .slice A1 l1.length c1] 23)) (some ⟨w.heap.size, 0, none⟩) 2 [l0, l1] := by
  have hnew := blk_new w (.cells #[.slice A0 l0.length c0, .slice A1 l1.length c1] 23)
  have k0 := Kd.C_alloc h0 (.cells #[.slice A0 l0.length c0, .slice A1 l1.length c1] 23)
  have k1 := Kd.C_alloc h1 (.cells #[.slice A0 l0.length c0, .slice A1 l1.length c1] 23)
  generalize w.alloc (.cells #[.slice A0 l0.length c0, .slice A1 l1.length c1] 23) = w1 at *
  generalize w.heap.size = g at *
  refine ⟨rfl, by decide, fun _ => ⟨_, rfl, fun j p hj => ?_⟩⟩
  match j, hj with
  | 0, hj =>
    obtain rfl : l0 = p := by simpa using hj
    refine ⟨[.slice A0 l0.length c0], rfl, ⟨A0, c0, rfl, hc0, k0⟩, fun i u hi => ?_⟩
    match i, hi with
    | 0, hi =>
      obtain rfl : Value.slice A0 l0.length c0 = u := by simpa using hi
      show w1.cell? ((⟨g, 0, none⟩ : Addr).add 0) = _
      rw [add_plain]
      simp [World.cell?, hnew]
  | 1, hj =>
    obtain rfl : l1 = p := by simpa using hj
    refine ⟨[.slice A1 l1.length c1], rfl, ⟨A1, c1, rfl, hc1, k1⟩, fun i u hi => ?_⟩
    match i, hi with
    | 0, hi =>
      obtain rfl : Value.slice A1 l1.length c1 = u := by simpa using hi
      show w1.cell? ((⟨g, 0, none⟩ : Addr).add 1) = _
      rw [add_plain]
      simp [World.cell?, hnew]
theorem join_two (l0 l1 : List Int) (h : l0.length + l1.length < 140737488355328) : footlockerref01_Join.f 3 [l0, l1] = some (l0 ++ l1) := by
  have e1 : wrap64 (0 + 1) = 1 := by unfold wrap64; omega
  have e2 : wrap64 (1 + 1) = 2 := by unfold wrap64; omega
  unfold footlockerref01_Join.f
  simp only [footlockerref01_Join.l0, e1, e2, List.length_cons, List.length_nil, rd_L2]
  rw [if_pos (by decide), if_pos (by decide), if_pos (by simp; omega), if_pos (by decide), if_pos (by decide), if_pos (by simp; omega), if_neg (by decide)]
  rfl
theorem join2 (A0 : Option Addr) (c0 : Nat) (l0 : List Int) (A1 : Option Addr) (c1 : Nat) (l1 : List Int) (r : List Int) (w : World) (hr0 : Kd.C (Kd.int .u8) w A0 l0.length l0) (hc0 : l0.length ≤ c0) (hr1 : Kd.C (Kd.int .u8) w A1 l1.length l1) (hc1 : l1.length ≤ c1) (h : slices_Chunk_byte_byte.f l0 l1 = some r) :
    Calls Tryd.prog 16 #[.slice (some ⟨w.heap.size, 0, none⟩) 2 2] (w.alloc (.cells #[.slice A0 l0.length c0, .slice A1 l1.length c1] 23)) fun e w' => ∃ v0_ : Value, e = .returned (v0_) ∧ Kd.R (Kd.int .u8) 5 w' w.heap.size (fun _ => True) v0_ r ∧ Below w.heap.size w w' := by
  unfold slices_Chunk_byte_byte.f at h
  by_cases hl : l0.length + l1.length < 140737488355328
  · rw [if_pos hl] at h
    obtain rfl := Option.some.inj h
    refine (footlockerref01_Join.calls 3 (some ⟨w.heap.size, 0, none⟩) 2 [l0, l1] (l0 ++ l1) _ (two_reads hr0 hc0 hr1 hc1) (Nat.le_refl _) (join_two l0 l1 hl)).mono ?_
    rintro e w' ⟨v, rfl, hv, hb⟩
    have hb0 : Below w.heap.size w (w.alloc (.cells #[.slice A0 l0.length c0, .slice A1 l1.length c1] 23)) := below_alloc (Below.refl _ _) _
    exact ⟨v, rfl, Kd.R_lower hv hb0.size, hb0.trans (hb.mono hb0.size)⟩
  · rw [if_neg hl] at h; cases h
end Go.Proofs.YtghnaoppelndkaaDoor.Q
