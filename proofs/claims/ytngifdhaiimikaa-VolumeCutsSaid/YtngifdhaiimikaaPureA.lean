/- What the functions of volume and of the document compute, without memory: sizes, joins, sameness. -/
import Derived.Test.YtngifdhaiimikaaQx7
namespace Go.Proofs.Ytngifdhaiimikaa.Pure
open Go.RowKit Go.Proofs.Ytngifdhaiimikaa.Q Go.Proofs.YtngifdhaiimikaaW.PrintWords Go.Proofs.YtngifdhaiimikaaW.PrintLast
set_option linter.unusedVariables false
theorem alive_ev : ∃ K, ∀ k, K ≤ k → footlockerlaw21_alive.f k = some true := by
  obtain ⟨k0, h⟩ := footlockerlaw21_alive.ev
  exact ⟨k0, fun k hk => at_rounds footlockerlaw21_alive.mono hk h⟩
theorem w64 (n : Nat) (h : n < 9223372036854775808) : wrap64 (n : Int) = (n : Int) := by unfold wrap64; omega
theorem w64s (pre : List (List Int)) (b : List Int) (h : pre.length < 9223372036854775807) : wrap64 ((pre.length : Int) + 1) = (((pre ++ [b]).length : Nat) : Int) := by
  rw [List.length_append, List.length_singleton]
  exact w64 (pre.length + 1) (by omega)
theorem rd_at (pre : List (List Int)) (b : List Int) (post : List (List Int)) : rd_L2 (pre ++ b :: post) (pre.length : Int) = b := by
  simp [rd_L2, List.getD_eq_getElem?_getD]
theorem size_l0 (xs : List (List Int)) (hx : xs.length < 9223372036854775807) (post : List (List Int)) : ∀ (pre : List (List Int)) (s : Nat), xs = pre ++ post → s + post.flatten.length < 9223372036854775808 → ∀ k, post.length < k →
    volume_Size.l0 k (s : Int) xs (xs.length : Int) (pre.length : Int) = some ((s + post.flatten.length : Nat) : Int) := by
  induction post with
  | nil =>
    intro pre s he hs k hk
    obtain ⟨k, rfl⟩ : ∃ m, k = m + 1 := ⟨k - 1, by omega⟩
    subst he
    simp [volume_Size.l0]
  | cons b post ih =>
    intro pre s he hs k hk
    obtain ⟨k, rfl⟩ : ∃ m, k = m + 1 := ⟨k - 1, by omega⟩
    have hl : pre.length < xs.length := by rw [he]; simp
    have hr : rd_L2 xs (pre.length : Int) = b := by rw [he]; exact rd_at pre b post
    simp only [List.flatten_cons, List.length_append, List.length_cons] at hs hk ⊢
    simp only [volume_Size.l0]
    rw [if_pos (by omega), if_pos (by omega), if_pos (by omega), hr, show wrap64 ((s : Int) + (b.length : Int)) = ((s + b.length : Nat) : Int) from w64 (s + b.length) (by omega),
      w64s pre b (by omega)]
    rw [ih (pre ++ [b]) (s + b.length) (by simp [he]) (by omega) k (by omega), Nat.add_assoc]
theorem size_ev (xs : List (List Int)) (hx : xs.length < 9223372036854775807) (hs : xs.flatten.length < 9223372036854775808) : ∀ k, xs.length < k → volume_Size.f k xs = some (xs.flatten.length : Int) := by
  intro k hk
  have := size_l0 xs hx xs [] 0 rfl (by omega) k hk
  simpa [volume_Size.f] using this
theorem join_l0 (xs : List (List Int)) (hx : xs.length < 9223372036854775807) (post : List (List Int)) : ∀ (pre : List (List Int)) (o : List Int), xs = pre ++ post → o.length + post.flatten.length < 140737488355328 → ∀ k, post.length < k →
    footlockerref01_Join.l0 k xs o (pre.length : Int) = some (o ++ post.flatten) := by
  induction post with
  | nil =>
    intro pre o he hs k hk
    obtain ⟨k, rfl⟩ : ∃ m, k = m + 1 := ⟨k - 1, by omega⟩
    subst he
    simp [footlockerref01_Join.l0]
  | cons b post ih =>
    intro pre o he hs k hk
    obtain ⟨k, rfl⟩ : ∃ m, k = m + 1 := ⟨k - 1, by omega⟩
    have hl : pre.length < xs.length := by rw [he]; simp
    have hr : rd_L2 xs (pre.length : Int) = b := by rw [he]; exact rd_at pre b post
    simp only [List.flatten_cons, List.length_append, List.length_cons] at hs hk ⊢
    simp only [footlockerref01_Join.l0]
    rw [if_pos (by omega), if_pos (by omega), hr, if_pos (by omega),
      w64s pre b (by omega)]
    rw [ih (pre ++ [b]) (o ++ b) (by simp [he]) (by rw [List.length_append]; omega) k (by omega), List.append_assoc]
theorem join_ev (xs : List (List Int)) (hx : xs.length < 9223372036854775807) (hs : xs.flatten.length < 140737488355328) : ∀ k, xs.length < k → footlockerref01_Join.f k xs = some xs.flatten := by
  intro k hk
  have := join_l0 xs hx xs [] [] rfl (by simpa using hs) k hk
  simpa [footlockerref01_Join.f] using this
theorem same_l0 (l : List Int) (hl : l.length < 9223372036854775807) (d : Nat) : ∀ i : Nat, i + d = l.length → ∀ k, d < k → footlockerref01_Same.l0 k l l (i : Int) = some true := by
  induction d with
  | zero =>
    intro i hi k hk
    obtain ⟨k, rfl⟩ : ∃ m, k = m + 1 := ⟨k - 1, by omega⟩
    simp only [footlockerref01_Same.l0]
    rw [if_neg (by omega)]
  | succ d ih =>
    intro i hi k hk
    obtain ⟨k, rfl⟩ : ∃ m, k = m + 1 := ⟨k - 1, by omega⟩
    simp only [footlockerref01_Same.l0]
    rw [if_pos (by omega), if_pos (by omega), if_pos (by omega), if_pos trivial, show wrap64 ((i : Int) + 1) = ((i + 1 : Nat) : Int) from w64 (i + 1) (by omega)]
    exact ih (i + 1) (by omega) k (by omega)
theorem same_ev (l : List Int) (hl : l.length < 9223372036854775807) : ∀ k, l.length < k → footlockerref01_Same.f k l l = some true := by
  intro k hk
  unfold footlockerref01_Same.f
  rw [if_pos rfl]
  exact same_l0 l hl l.length 0 (by omega) k hk
end Go.Proofs.Ytngifdhaiimikaa.Pure
