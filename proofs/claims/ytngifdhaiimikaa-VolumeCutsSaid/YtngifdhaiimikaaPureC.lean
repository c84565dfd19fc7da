/- What volume.Place and volume.Rest compute, without memory. -/
import Derived.Test.YtngifdhaiimikaaPureB
namespace Go.Proofs.Ytngifdhaiimikaa.Pure
open Go.RowKit Go.Proofs.Ytngifdhaiimikaa.Q Go.Proofs.YtngifdhaiimikaaW.PrintWords Go.Proofs.YtngifdhaiimikaaW.PrintLast
set_option linter.unusedVariables false
theorem place_l0 (xs : List (List Int)) (hx : xs.length < 1099511627776) (post : List (List Int)) : ∀ (pre : List (List Int)) (a : Nat), xs = pre ++ post → a < 1099511627776 → ∀ k, post.length < k →
    ∃ r, volume_Place.l0 k xs (a : Int) xs (xs.length : Int) (pre.length : Int) = some r ∧ (r = (0, 0, false) ∨ r = ((xs.length : Int), 0, true) ∨ ∃ (p : List (List Int)) (b : List Int) (q : List (List Int)) (off : Nat), xs = p ++ b :: q ∧ r = ((p.length : Int), (off : Int), true) ∧ off < b.length ∧ p.flatten.length + off = pre.flatten.length + a) := by
  induction post with
  | nil =>
    intro pre a he ha k hk
    obtain ⟨k, rfl⟩ : ∃ m, k = m + 1 := ⟨k - 1, by omega⟩
    have : pre.length = xs.length := by rw [he]; simp
    simp only [volume_Place.l0]
    rw [if_neg (by omega)]
    by_cases h : (a : Int) > 0
    · rw [if_pos h]; exact ⟨_, rfl, .inl rfl⟩
    · rw [if_neg h]; exact ⟨_, rfl, .inr (.inl rfl)⟩
  | cons b post ih =>
    intro pre a he ha k hk
    obtain ⟨k, rfl⟩ : ∃ m, k = m + 1 := ⟨k - 1, by omega⟩
    have hl : pre.length < xs.length := by rw [he]; simp
    have hr : rd_L2 xs (pre.length : Int) = b := by rw [he]; exact rd_at pre b post
    simp only [List.length_cons] at hk
    simp only [volume_Place.l0]
    rw [if_pos (by omega), if_pos (by omega), if_pos (by omega), hr, w64s pre b (by omega)]
    by_cases h : (a : Int) < (b.length : Int)
    · rw [if_pos h]
      exact ⟨_, rfl, .inr (.inr ⟨pre, b, post, a, he, rfl, by omega, rfl⟩)⟩
    · rw [if_neg h, w64sub a b.length (by omega) (by omega)]
      obtain ⟨r, h1, h2⟩ := ih (pre ++ [b]) (a - b.length) (by simp [he]) (by omega) k (by omega)
      refine ⟨r, h1, ?_⟩
      rcases h2 with h2 | h2 | ⟨p, b', q, off, e1, e2, e3, e4⟩
      · exact .inl h2
      · exact .inr (.inl h2)
      · refine .inr (.inr ⟨p, b', q, off, e1, e2, e3, ?_⟩)
        rw [e4, List.flatten_append, List.length_append]
        simp only [List.flatten_cons, List.flatten_nil, List.append_nil]
        omega
/-- volume.Rest: nothing, or bytes that stand there. -/
theorem rest_ev (xs : List (List Int)) (hx : xs.length < 1099511627776) (hb : ∀ x ∈ xs, x.length < 1099511627776) (a : Nat) (ha : a < 1099511627776) : ∀ k, xs.length < k →
    ∃ t, volume_Rest.f k xs (a : Int) = some t ∧ (t.length = 0 ∨ (a + t.length ≤ xs.flatten.length ∧ (xs.flatten.drop a).take t.length = t)) := by
  intro k hk
  obtain ⟨r, h1, h2⟩ := place_l0 xs hx xs [] a rfl ha k hk
  have hp : volume_Place.f k xs (a : Int) = some r := by
    unfold volume_Place.f
    rw [if_neg (by omega)]
    exact h1
  unfold volume_Rest.f
  rw [hp, Option.bind_some]
  rcases h2 with rfl | rfl | ⟨p, b, q, off, e1, rfl, e3, e4⟩
  · exact ⟨[], by simp, .inl rfl⟩
  · exact ⟨[], by simp, .inl rfl⟩
  · have hl : p.length < xs.length := by rw [e1]; simp
    have hr : rd_L2 xs (p.length : Int) = b := by rw [e1]; exact rd_at p b q
    have hbl : b.length < 1099511627776 := hb b (by rw [e1]; simp)
    refine ⟨b.drop off, ?_, .inr ?_⟩
    · simp only [hr, Int.toNat_natCast]
      rw [if_pos trivial, if_neg (by omega), if_pos (by omega), if_pos (by omega), if_pos (by omega), if_pos (by omega)]
      unfold slices_Clone_byte_byte.f
      rw [Option.bind_some, if_pos (by rw [List.length_drop]; simp; omega), Option.bind_some, List.nil_append]
    · have hf : xs.flatten = p.flatten ++ (b ++ q.flatten) := by rw [e1]; simp
      have ea : a = p.flatten.length + off := by simpa using e4.symm
      rw [hf, ea]
      refine ⟨by simp only [List.length_append, List.length_drop]; omega, ?_⟩
      have hd : (p.flatten ++ (b ++ q.flatten)).drop (p.flatten.length + off) = b.drop off ++ q.flatten := by
        rw [← List.drop_drop, List.drop_left, List.drop_append_of_le_length (by omega)]
      rw [hd]
      exact List.take_left' rfl
theorem flat_le (l : List (List Int)) (h : ∀ x ∈ l, x.length ≤ 60) : l.flatten.length ≤ 60 * l.length := by
  induction l with
  | nil => simp
  | cons b l ih =>
    have h1 := h b (by simp)
    have h2 := ih (fun x hx => h x (by simp [hx]))
    simp only [List.flatten_cons, List.length_append, List.length_cons]
    omega
end Go.Proofs.Ytngifdhaiimikaa.Pure
