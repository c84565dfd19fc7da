/- What volume.Bytes and the law's bound compute, without memory. -/
import Derived.Test.YtngifdhaiimikaaPureA
namespace Go.Proofs.Ytngifdhaiimikaa.Pure
open Go.RowKit Go.Proofs.Ytngifdhaiimikaa.Q Go.Proofs.YtngifdhaiimikaaW.PrintWords Go.Proofs.YtngifdhaiimikaaW.PrintLast
set_option linter.unusedVariables false
theorem w64sub (m n : Nat) (hm : m < 9223372036854775808) (h : n ≤ m) : wrap64 ((m : Int) - (n : Int)) = ((m - n : Nat) : Int) := by unfold wrap64; omega
theorem w64dif (a b : Nat) (ha : a < 1099511627776) (hb : b < 1099511627776) : wrap64 ((a : Int) - (b : Int)) = (a : Int) - (b : Int) := by unfold wrap64; omega
theorem mx0 (a b : Nat) : mx ((a : Int) - (b : Int)) 0 = ((a - b : Nat) : Int) := by unfold mx; split <;> omega
theorem mxw (a b : Nat) (ha : a < 1099511627776) (hb : b < 1099511627776) : mx (wrap64 ((a : Int) - (b : Int))) 0 = ((a - b : Nat) : Int) := by
  rw [w64dif a b ha hb, mx0]
theorem mnw (m n : Nat) : mn (m : Int) (n : Int) = ((min m n : Nat) : Int) := by unfold mn; split <;> omega
theorem few_l0 (xs : List (List Int)) (hx : xs.length ≤ 9223372036854775807) (post : List (List Int)) : ∀ (pre : List (List Int)), xs = pre ++ post → ∀ k, post.length < k →
    ∃ b, footlockerlaw21_few.l0 k xs xs (xs.length : Int) (pre.length : Int) = some b ∧ (b = true → xs.length ≤ 20 ∧ ∀ x ∈ post, x.length ≤ 60) := by
  induction post with
  | nil =>
    intro pre he k hk
    obtain ⟨k, rfl⟩ : ∃ m, k = m + 1 := ⟨k - 1, by omega⟩
    have : pre.length = xs.length := by rw [he]; simp
    simp only [footlockerlaw21_few.l0]
    rw [if_neg (by omega)]
    refine ⟨_, rfl, fun h => ⟨?_, fun x hx => by cases hx⟩⟩
    have := of_decide_eq_true h
    omega
  | cons b post ih =>
    intro pre he k hk
    obtain ⟨k, rfl⟩ : ∃ m, k = m + 1 := ⟨k - 1, by omega⟩
    have hl : pre.length < xs.length := by rw [he]; simp
    have hr : rd_L2 xs (pre.length : Int) = b := by rw [he]; exact rd_at pre b post
    simp only [List.length_cons] at hk
    simp only [footlockerlaw21_few.l0]
    rw [if_pos (by omega), if_pos (by omega), if_pos (by omega), hr]
    by_cases h : (b.length : Int) > 60
    · rw [if_pos h]
      exact ⟨false, rfl, fun h => by cases h⟩
    · rw [if_neg h, w64s pre b (by omega)]
      obtain ⟨r, h1, h2⟩ := ih (pre ++ [b]) (by simp [he]) k (by omega)
      refine ⟨r, h1, fun hr => ⟨(h2 hr).1, fun x hx => ?_⟩⟩
      rcases List.mem_cons.1 hx with rfl | hx
      · omega
      · exact (h2 hr).2 x hx
theorem few_ev (xs : List (List Int)) (hx : xs.length ≤ 9223372036854775807) : ∀ k, xs.length < k → ∃ b, footlockerlaw21_few.f k xs = some b ∧ (b = true → xs.length ≤ 20 ∧ ∀ x ∈ xs, x.length ≤ 60) :=
  fun k hk => few_l0 xs hx xs [] rfl k hk
theorem cut_eq (b r : List Int) (a m q : Nat) (ha : a < b.length) (hq : q = min m (b.length - a)) : (b.take (a + q)).drop a ++ r.take (m - q) = ((b ++ r).drop a).take m := by
  rw [List.drop_take, show a + q - a = q by omega, List.drop_append_of_le_length (by omega), List.take_append, List.length_drop]
  rcases Nat.le_total m (b.length - a) with h | h
  · rw [show q = m by omega, show m - m = 0 by omega, show m - (b.length - a) = 0 by omega]
  · rw [show q = b.length - a by omega, List.take_of_length_le (l := b.drop a) (by rw [List.length_drop]; exact Nat.le_refl _), List.take_of_length_le (l := b.drop a) (i := m) (by rw [List.length_drop]; exact h)]
theorem bytes_l0 (xs : List (List Int)) (hx : xs.length < 1099511627776) (hb : ∀ x ∈ xs, x.length < 1099511627776) (n : Nat) (hn : n < 1099511627776) (post : List (List Int)) : ∀ (pre : List (List Int)) (a : Nat) (o : List Int), xs = pre ++ post → a < 1099511627776 → o.length ≤ n → ∀ k, post.length < k →
    volume_Bytes.l0 k (a : Int) (n : Int) o xs (xs.length : Int) (pre.length : Int) = some (o ++ (post.flatten.drop a).take (n - o.length), true) := by
  induction post with
  | nil =>
    intro pre a o he ha ho k hk
    obtain ⟨k, rfl⟩ : ∃ m, k = m + 1 := ⟨k - 1, by omega⟩
    have : pre.length = xs.length := by rw [he]; simp
    simp only [volume_Bytes.l0]
    rw [if_neg (by omega)]
    simp
  | cons b post ih =>
    intro pre a o he ha ho k hk
    obtain ⟨k, rfl⟩ : ∃ m, k = m + 1 := ⟨k - 1, by omega⟩
    have hl : pre.length < xs.length := by rw [he]; simp
    have hr : rd_L2 xs (pre.length : Int) = b := by rw [he]; exact rd_at pre b post
    have hbl : b.length < 1099511627776 := hb b (by rw [he]; simp)
    simp only [List.length_cons] at hk
    simp only [volume_Bytes.l0]
    rw [if_pos (by omega), if_pos (by omega), if_pos (by omega), hr, w64s pre b (by omega)]
    by_cases h : (a : Int) < (b.length : Int)
    · obtain ⟨q, hq⟩ : ∃ q, q = min (n - o.length) (b.length - a) := ⟨_, rfl⟩
      rw [w64sub n o.length (by omega) ho, w64sub b.length a (by omega) (by omega), mnw, ← hq, show wrap64 ((a : Int) + (q : Int)) = ((a + q : Nat) : Int) from w64 (a + q) (by omega), mxw a b.length ha hbl, show a - b.length = 0 by omega, Int.toNat_natCast, Int.toNat_natCast]
      have hlen : ((b.take (a + q)).drop a).length = q := by rw [List.length_drop, List.length_take]; omega
      rw [if_pos h, if_pos (by omega), if_pos (by omega), if_pos (by omega), if_pos (by rw [hlen]; omega),
        ih (pre ++ [b]) 0 (o ++ (b.take (a + q)).drop a) (by simp [he]) (by omega) (by rw [List.length_append, hlen]; omega) k (by omega), List.length_append, hlen, List.drop_zero, List.append_assoc, List.flatten_cons,
        ← cut_eq b post.flatten a (n - o.length) q (by omega) hq, Nat.sub_sub]
    · rw [if_neg h, mxw a b.length ha hbl]
      rw [ih (pre ++ [b]) (a - b.length) o (by simp [he]) (by omega) ho k (by omega), List.flatten_cons, List.drop_append, show b.drop a = [] from List.drop_eq_nil_of_le (by omega), List.nil_append]
/-- volume.Bytes: nothing, or that many bytes from there on. -/
theorem bytes_ev (xs : List (List Int)) (hx : xs.length < 1099511627776) (hb : ∀ x ∈ xs, x.length < 1099511627776) (hs : xs.flatten.length < 1099511627776) (a n : Nat) (ha : a < 1099511627776) (hn : n < 1099511627776) : ∀ k, xs.length + 1 < k →
    volume_Bytes.f k xs (a : Int) (n : Int) = some (if a + n ≤ xs.flatten.length then ((xs.flatten.drop a).take n, true) else ([], false)) := by
  intro k hk
  obtain ⟨k, rfl⟩ : ∃ m, k = m + 1 := ⟨k - 1, by omega⟩
  unfold volume_Bytes.f
  rw [size_ev xs (by omega) (by omega) _ (by omega), Option.bind_some, if_neg (by omega), if_neg (by omega)]
  have := bytes_l0 xs hx hb n hn xs [] a [] rfl ha (by simp) k (by omega)
  by_cases h1 : (a : Int) > (xs.flatten.length : Int)
  · rw [if_pos h1, if_neg (by omega)]
    simp [volume_Bytes.j0]
  · rw [if_neg h1]
    rw [w64sub xs.flatten.length a (by omega) (by omega)]
    by_cases h2 : a + n ≤ xs.flatten.length
    · rw [if_pos h2, decide_eq_false (by omega)]
      simpa [volume_Bytes.j0] using this
    · rw [if_neg h2, decide_eq_true (by omega)]
      simp [volume_Bytes.j0]
end Go.Proofs.Ytngifdhaiimikaa.Pure
