/- CrcParts: the sum of a row is that of its parts, however it is cut; the sums of its blocks, joined, are it: what is left of it without memory. -/
import Derived.Test.YtghnaoppelndkaaDoorQx6
import Derived.Test.YtghnaoppelndkaaDoorPb
namespace Go.Proofs.YtghnaoppelndkaaDoor.Pure
open Go.RowKit Go.Proofs.YtghnaoppelndkaaDoor.Q Go.Proofs.YtghnaoppelndkaaDoorW.PrintWords Go.Proofs.YtghnaoppelndkaaDoorW.PrintLast
set_option linter.unusedVariables false
theorem and_mask (x : Int) (m : Nat) (hm : m < 9223372036854775808) : ∃ n : Nat, Go.bits .and .i64 x (m : Int) = (n : Int) ∧ n ≤ m := by
  refine ⟨(BitVec.ofInt 64 x &&& BitVec.ofInt 64 (m : Int)).toNat, ?_, ?_⟩
  · show IntKind.i64.wrap _ = _
    have h : (BitVec.ofInt 64 x &&& BitVec.ofInt 64 (m : Int)).toNat ≤ m := by
      rw [BitVec.toNat_and, BitVec.ofInt_natCast, BitVec.toNat_ofNat, Nat.mod_eq_of_lt (by omega)]
      exact Nat.and_le_right
    rw [IntKind.wrap_i64]
    show (((BitVec.ofInt 64 x &&& BitVec.ofInt 64 (m : Int)).toNat : Int) + 9223372036854775808) % 18446744073709551616 - 9223372036854775808 = _
    omega
  · rw [BitVec.toNat_and, BitVec.ofInt_natCast, BitVec.toNat_ofNat, Nat.mod_eq_of_lt (by omega)]
    exact Nat.and_le_right
theorem tmod_nat (n m : Nat) : Int.tmod (n : Int) (m : Int) = ((n % m : Nat) : Int) := by rw [Int.tmod_eq_emod_of_nonneg (by omega)]; rfl
def blkP (l : List Int) (n m : Nat) : Int := updI 0 ((l.drop (m * n)).take n)
theorem parts_l0 (l : List Int) (hl : l.length ≤ 300) (n : Nat) (hn : 0 < n) (hn64 : n ≤ 64) (d : Nat) : ∀ i : Nat, i + d = cnt l.length n → ∀ k, d + 340 < k →
    footlockerlaw06_CrcParts.l0 k (n : Int) (updI 0 l) (updI 0 (l.take (i * n))) ((l.length - i * n : Nat) : Int) ((List.range (cnt l.length n)).map (blkP l n)) (cnt l.length n : Int) (i : Int) = some true := by
  induction d with
  | zero =>
    intro i hi k hk
    obtain ⟨k, rfl⟩ : ∃ q, k = q + 1 := ⟨k - 1, by omega⟩
    obtain rfl : i = cnt l.length n := by omega
    have h := (not_congr (cnt_lt (len := l.length) (n := n) (k := cnt l.length n) hn)).1 (by omega)
    simp only [footlockerlaw06_CrcParts.l0]
    rw [if_neg (by omega), if_pos (by omega), List.take_of_length_le (by omega)]
    simp
  | succ d ih =>
    intro i hi k hk
    obtain ⟨k, rfl⟩ : ∃ q, k = q + 1 := ⟨k - 1, by omega⟩
    have h : i * n < l.length := (cnt_lt hn).1 (by omega)
    have hs : (i + 1) * n = i * n + n := Nat.succ_mul i n
    simp only [footlockerlaw06_CrcParts.l0]
    have hrd : rd ((List.range (cnt l.length n)).map (blkP l n)) (i : Int) = blkP l n i := by
      have : i < cnt l.length n := by omega
      simp [rd, List.getD_eq_getElem?_getD, this]
    rw [if_pos (by omega), if_pos (by omega), if_pos (by simp; omega), hrd]
    have hmn : mn (n : Int) ((l.length - i * n : Nat) : Int) = ((min n (l.length - i * n) : Nat) : Int) := by
      unfold mn
      split <;> omega
    have hblk : (l.drop (i * n)).take n = (l.drop (i * n)).take (min n (l.length - i * n)) := by
      rcases Nat.le_total n (l.length - i * n) with e | e
      · rw [Nat.min_eq_left e]
      · rw [Nat.min_eq_right e, List.take_of_length_le (by simpa using e), List.take_of_length_le (by simp)]
    have hlenb : ((l.drop (i * n)).take (min n (l.length - i * n))).length = min n (l.length - i * n) := by
      rw [List.length_take, List.length_drop, Nat.min_assoc, Nat.min_self]
    have htake : l.take ((i + 1) * n) = l.take (i * n) ++ (l.drop (i * n)).take n := by rw [hs, List.take_add]
    have hjoin : crc_Join.f k (updI 0 (l.take (i * n))) (blkP l n i) ((min n (l.length - i * n) : Nat) : Int) = some (updI 0 (l.take ((i + 1) * n))) := by
      unfold blkP
      rw [upd_0, upd_0, join_ev _ _ _ (by omega) k (by omega), upd_0, htake, List.map_append, Crc.sum_join]
      rw [hblk, List.length_map, hlenb]
      rfl
    rw [hmn, hjoin, Option.bind_some]
    clear hjoin hmn hrd hblk htake
    have hw : wrap64 (((l.length - i * n : Nat) : Int) - ((min n (l.length - i * n) : Nat) : Int)) = ((l.length - (i + 1) * n : Nat) : Int) := by
      rw [hs]
      generalize i * n = q at *
      unfold wrap64
      omega
    rw [hw]
    clear hw
    have hw2 : wrap64 ((i : Int) + 1) = ((i + 1 : Nat) : Int) := by
      have : i ≤ i * n := Nat.le_mul_of_pos_right i hn
      have : i ≤ 300 := by omega
      unfold wrap64
      omega
    rw [hw2]
    clear hw2
    exact ih (i + 1) (by omega) k (by omega)
theorem CrcParts : footlockerlaw06_CrcParts.Pure := by
  intro l a1 a2 h0 h1 h2 h3 h4
  obtain ⟨K, hK⟩ := alive_ev
  refine ⟨K + 1000, ?_⟩
  unfold footlockerlaw06_CrcParts.f
  rw [hK _ (by omega), Option.bind_some, if_pos rfl]
  obtain ⟨k, hk⟩ : ∃ k, K + 1000 = k + 1 := ⟨K + 999, by omega⟩
  have hkb : 990 ≤ k := by omega
  rw [hk]
  clear h0 h1 h2 h3 h4 hK hk
  by_cases hl : (l.length : Int) > 300
  · rw [if_pos hl]
  · rw [if_neg hl]
    have hl' : l.length ≤ 300 := by omega
    obtain ⟨c0, hc0, hc1⟩ := and_mask a1 1023 (by decide)
    obtain ⟨s0, hs0, hs1⟩ := and_mask a2 63 (by decide)
    rw [show ((1023 : Nat) : Int) = 1023 from rfl] at hc0
    rw [show ((63 : Nat) : Int) = 63 from rfl] at hs0
    have hw : wrap64 ((l.length : Int) + 1) = ((l.length + 1 : Nat) : Int) := by unfold wrap64; omega
    have hw2 : wrap64 (1 + (s0 : Int)) = ((s0 + 1 : Nat) : Int) := by unfold wrap64; omega
    rw [hc0, hs0, hw, hw2, tmod_nat]
    clear hw hw2 hc0 hs0
    have hcut : c0 % (l.length + 1) ≤ l.length := by have := Nat.mod_lt c0 (show 0 < l.length + 1 by omega); omega
    generalize c0 % (l.length + 1) = c at *
    rw [if_neg (by omega)]
    have hw3 : wrap64 ((l.length : Int) - (c : Int)) = ((l.length - c : Nat) : Int) := by unfold wrap64; omega
    rw [hw3]
    clear hw3
    simp only [crc_Sum.f, crc_Update.f, Option.bind_some, Int.toNat_natCast]
    rw [if_pos (by omega), if_pos (by omega)]
    have hupd : updI (updI 0 (l.take c)) (l.drop c) = updI 0 l := by
      rw [upd_0, upd_I, upd_0, ← Crc.sum_append, ← List.map_append, List.take_append_drop]
    have hjoin : crc_Join.f (k + 1) (updI 0 (l.take c)) (updI 0 (l.drop c)) ((l.length - c : Nat) : Int) = some (updI 0 l) := by
      rw [upd_0, upd_0, join_ev _ _ _ (by omega) (k + 1) (by omega), upd_0]
      have := Crc.sum_join ((l.take c).map toN) ((l.drop c).map toN)
      rw [← List.map_append, List.take_append_drop, List.length_map, List.length_drop] at this
      rw [this]; rfl
    rw [if_pos hupd, hjoin, Option.bind_some]
    clear hupd hjoin
    simp only [footlockerlaw06_CrcParts.j0]
    rw [if_neg (by simp)]
    have hb : crc_Blocks.f k l ((s0 + 1 : Nat) : Int) = some ((List.range (cnt l.length (s0 + 1))).map (blkP l (s0 + 1))) := by
      unfold crc_Blocks.f
      rw [if_neg (by omega), if_pos ⟨by omega, by omega⟩, Int.toNat_natCast]
      rfl
    rw [hb, Option.bind_some]
    have hcn : cnt l.length (s0 + 1) ≤ l.length := by
      rcases Nat.lt_or_ge l.length (cnt l.length (s0 + 1)) with h | h
      · have := (cnt_lt (show 0 < s0 + 1 by omega)).1 h; have := Nat.le_mul_of_pos_right l.length (show 0 < s0 + 1 by omega); omega
      · exact h
    have := parts_l0 l hl' (s0 + 1) (by omega) (by omega) (cnt l.length (s0 + 1)) 0 (by omega) k (by omega)
    rw [show (0 : Nat) * (s0 + 1) = 0 from Nat.zero_mul _] at this
    rw [show updI 0 (l.take 0) = 0 by rw [List.take_zero]; decide +kernel] at this
    rw [List.length_map, List.length_range]
    exact this
end Go.Proofs.YtghnaoppelndkaaDoor.Pure
