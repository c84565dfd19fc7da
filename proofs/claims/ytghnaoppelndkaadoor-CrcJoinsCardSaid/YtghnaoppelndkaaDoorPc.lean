/- The document's answer for sums, bit by bit, is the sum; its blocks are the blocks. -/
import Derived.Test.YtghnaoppelndkaaDoorQx3
import Derived.Test.YtghnaoppelndkaaDoorPa
namespace Go.Proofs.YtghnaoppelndkaaDoor.Pure
open Go.RowKit Go.Proofs.YtghnaoppelndkaaDoor.Q Go.Proofs.YtghnaoppelndkaaDoorW.PrintWords Go.Proofs.YtghnaoppelndkaaDoorW.PrintLast
set_option linter.unusedVariables false

theorem tmod2 (r : Crc.W) : (Int.tmod (I r) 2 = 1) ↔ r.getLsbD 0 = true := by
  have h : Int.tmod (I r) 2 = I r % 2 := Int.tmod_eq_emod_of_nonneg (by unfold I; omega)
  rw [h]
  unfold I
  rw [BitVec.getLsbD, Nat.testBit_zero]
  simp
  omega
theorem w64 (n : Nat) (h : n < 9223372036854775808) : wrap64 (n : Int) = (n : Int) := by unfold wrap64; omega
theorem upd_l1 (l : List Int) (x6 : Int) (R : Option Int) (K : Nat) : ∀ (d i : Nat) (r : Crc.W), i + d = 8 →
    (∀ k, K < k → footlockerref06_Update.l0 k l (I (Crc.Xn d r)) (wrap64 (x6 + 1)) = R) → ∀ k, K + d + 1 < k → footlockerref06_Update.l1 k l (I r) x6 (i : Int) = R := by
  intro d
  induction d with
  | zero =>
    intro i r hi h k hk
    obtain ⟨k, rfl⟩ : ∃ m, k = m + 1 := ⟨k - 1, by omega⟩
    simp only [footlockerref06_Update.l1]
    rw [if_neg (by omega)]
    exact h k (by omega)
  | succ d ih =>
    intro i r hi h k hk
    obtain ⟨k, rfl⟩ : ∃ m, k = m + 1 := ⟨k - 1, by omega⟩
    simp only [footlockerref06_Update.l1]
    rw [if_pos (by omega), show wrap64 ((i : Int) + 1) = ((i + 1 : Nat) : Int) from w64 (i + 1) (by omega)]
    have hX := I_X r
    by_cases hb : r.getLsbD 0 = false
    · rw [if_pos ((I_low r).2 hb)] at hX
      rw [if_neg (fun e => by rw [(tmod2 r).1 e] at hb; cases hb), hX]
      exact ih (i + 1) (Crc.X r) (by omega) h k (by omega)
    · rw [if_neg (fun e => hb ((I_low r).1 e))] at hX
      rw [if_pos ((tmod2 r).2 (by simpa using hb)), hX]
      exact ih (i + 1) (Crc.X r) (by omega) h k (by omega)
theorem I_xorc (r : Crc.W) (c : Int) : Go.bits .xor .u32 (I r) (c % 4294967296) = I (r ^^^ BitVec.ofNat 32 (toN c)) := by
  rw [bits_xor_bv, I_ofInt, ofInt_toN]; rfl
theorem upd_l0 (l : List Int) (hl : l.length < 9223372036854775807) (d : Nat) : ∀ (i : Nat) (r : Crc.W), i + d = l.length → ∀ k, 10 * d + 1 ≤ k →
    footlockerref06_Update.l0 k l (I r) (i : Int) = some (I (~~~(Crc.reg r ((l.drop i).map toN)))) := by
  induction d with
  | zero =>
    intro i r hi k hk
    obtain ⟨k, rfl⟩ : ∃ m, k = m + 1 := ⟨k - 1, by omega⟩
    simp only [footlockerref06_Update.l0]
    rw [if_neg (by omega), I_not, List.drop_of_length_le (by omega)]
    rfl
  | succ d ih =>
    intro i r hi k hk
    obtain ⟨k, rfl⟩ : ∃ m, k = m + 1 := ⟨k - 1, by omega⟩
    simp only [footlockerref06_Update.l0]
    rw [if_pos (by omega), if_pos (by omega), I_xorc]
    have hlt : i < l.length := by omega
    have hd : (l.drop i).map toN = toN (rd l (i : Int)) :: (l.drop (i + 1)).map toN := by
      rw [List.drop_eq_getElem_cons hlt, List.map_cons]
      simp only [rd, List.getD_eq_getElem?_getD, Int.toNat_natCast, List.getElem?_eq_getElem hlt, Option.getD_some]
    rw [hd, Crc.reg]
    refine upd_l1 l (i : Int) _ (10 * d) 8 0 _ rfl (fun k' hk' => ?_) k (by omega)
    rw [show wrap64 ((i : Int) + 1) = ((i + 1 : Nat) : Int) from w64 (i + 1) (by omega)]
    exact ih (i + 1) _ (by omega) k' (by omega)
theorem refUpd_ev (a : Int) (l : List Int) (hl : l.length < 9223372036854775807) : ∀ k, 10 * l.length + 1 ≤ k → footlockerref06_Update.f k a l = some (updI a l) := by
  intro k hk
  unfold footlockerref06_Update.f
  rw [start_upd, show (((~~~(BitVec.ofInt 32 a)) : Crc.W).toNat : Int) = I (~~~(BitVec.ofInt 32 a)) from rfl]
  have := upd_l0 l hl l.length 0 (~~~(BitVec.ofInt 32 a)) (by omega) k hk
  rw [List.drop_zero] at this
  exact this
theorem refSum_ev (l : List Int) (hl : l.length < 9223372036854775807) : ∀ k, 10 * l.length + 1 ≤ k → footlockerref06_Sum.f k l = some (updI 0 l) := by
  intro k hk
  unfold footlockerref06_Sum.f
  rw [refUpd_ev 0 l hl k hk]; rfl
theorem same_l0 (l : List Int) (hl : l.length < 9223372036854775807) (d : Nat) : ∀ i : Nat, i + d = l.length → ∀ k, d < k → footlockerref06_Same.l0 k l l (i : Int) = some true := by
  induction d with
  | zero =>
    intro i hi k hk
    obtain ⟨k, rfl⟩ : ∃ m, k = m + 1 := ⟨k - 1, by omega⟩
    simp only [footlockerref06_Same.l0]
    rw [if_neg (by omega)]
  | succ d ih =>
    intro i hi k hk
    obtain ⟨k, rfl⟩ : ∃ m, k = m + 1 := ⟨k - 1, by omega⟩
    simp only [footlockerref06_Same.l0]
    rw [if_pos (by omega), if_pos (by omega), if_pos (by omega), if_pos trivial, show wrap64 ((i : Int) + 1) = ((i + 1 : Nat) : Int) from w64 (i + 1) (by omega)]
    exact ih (i + 1) (by omega) k (by omega)
theorem refSame_ev (l : List Int) (hl : l.length < 9223372036854775807) : ∀ k, l.length < k → footlockerref06_Same.f k l l = some true := by
  intro k hk
  unfold footlockerref06_Same.f
  rw [if_pos rfl]
  exact same_l0 l hl l.length 0 (by omega) k hk

def blk (l : List Int) (n m : Nat) : Int := updI 0 ((l.drop (m * n)).take n)
theorem cnt_of (len n m : Nat) (hn : 0 < n) (h1 : m * n < len) (h2 : len ≤ (m + 1) * n) : cnt len n = m + 1 := by
  have a := (cnt_lt (len := len) (n := n) (k := m) hn).2 h1
  have b := (not_congr (cnt_lt (len := len) (n := n) (k := m + 1) hn)).2 (by omega)
  omega
theorem ar4 (L m n : Nat) (h : ¬ (n : Int) > ((L - m * n : Nat) : Int)) (h1 : m * n < L) : (m + 1) * n ≤ L := by
  rw [Nat.succ_mul]
  generalize m * n = q at *
  omega
theorem ar5 (m n : Nat) : m * n ≤ (m + 1) * n := by rw [Nat.succ_mul]; omega
theorem refBlocks_l0 (l : List Int) (hl : l.length ≤ 300) (n : Nat) (hn : 0 < n) (hnm : n ≤ 9223372036854775807) (d : Nat) : ∀ m : Nat, m + d = cnt l.length n → ∀ k, 10 * l.length + 2 * d + 3 ≤ k →
    footlockerref06_Blocks.l0 k l (n : Int) ((List.range m).map (blk l n)) ((m * n : Nat) : Int) = some ((List.range (cnt l.length n)).map (blk l n)) := by
  induction d with
  | zero =>
    intro m hm k hk
    obtain ⟨k, rfl⟩ : ∃ q, k = q + 2 := ⟨k - 2, by omega⟩
    simp only [footlockerref06_Blocks.l0]
    have h : ¬ m * n < l.length := fun h => by have := (cnt_lt (len := l.length) (n := n) (k := m) hn).2 h; omega
    rw [if_pos (by omega), decide_eq_false (by omega)]
    simp only [footlockerref06_Blocks.j1]
    rw [if_neg (by simp)]
    rw [show m = cnt l.length n by omega]
  | succ d ih =>
    intro m hm k hk
    obtain ⟨k, rfl⟩ : ∃ q, k = q + 2 := ⟨k - 2, by omega⟩
    simp only [footlockerref06_Blocks.l0]
    have h : m * n < l.length := (cnt_lt hn).1 (by omega)
    have hs : (m + 1) * n = m * n + n := Nat.succ_mul m n
    rw [if_pos (by omega), decide_eq_true (by omega)]
    simp only [footlockerref06_Blocks.j1]
    rw [if_pos trivial]
    have hw : wrap64 ((l.length : Int) - ((m * n : Nat) : Int)) = ((l.length - m * n : Nat) : Int) := by rw [show (l.length : Int) - ((m * n : Nat) : Int) = ((l.length - m * n : Nat) : Int) by omega]; exact w64 _ (by omega)
    rw [hw]
    have hmm : m ≤ m * n := Nat.le_mul_of_pos_right m hn
    have hroom : ((List.range m).map (blk l n)).length < 35184372088832 := by
      rw [List.length_map, List.length_range]
      exact Nat.lt_of_le_of_lt (Nat.le_trans hmm (Nat.le_trans (Nat.le_of_lt h) hl)) (by decide)
    by_cases hbig : (n : Int) > ((l.length - m * n : Nat) : Int)
    · rw [if_pos hbig, if_pos (by omega), if_pos (by omega), Int.toNat_natCast, refSum_ev (l.drop (m * n)) (by rw [List.length_drop]; omega) k (by rw [List.length_drop]; omega), Option.bind_some]
      rw [if_pos hroom]
      have hc := cnt_of l.length n m hn h (by omega)
      rw [hc, List.range_succ, List.map_append]
      congr 2
      simp only [List.map_cons, List.map_nil, blk]
      rw [List.take_of_length_le (by rw [List.length_drop]; omega)]
    · rw [if_neg hbig]
      have hw2 : wrap64 (((m * n : Nat) : Int) + (n : Int)) = (((m + 1) * n : Nat) : Int) := by rw [hs, show ((m * n : Nat) : Int) + (n : Int) = ((m * n + n : Nat) : Int) from rfl]; exact w64 _ (by have h4 := ar4 l.length m n hbig h; rw [hs] at h4; exact Nat.lt_of_le_of_lt (Nat.le_trans h4 hl) (by decide))
      have h4 := ar4 l.length m n hbig h
      have h5 := ar5 m n
      rw [hw2, if_pos (Int.natCast_nonneg _), if_pos (Int.ofNat_le.2 h5), if_pos (Int.ofNat_le.2 h4), Int.toNat_natCast, Int.toNat_natCast]
      have he : (l.take ((m + 1) * n)).drop (m * n) = (l.drop (m * n)).take n := by rw [List.drop_take, hs, Nat.add_sub_cancel_left]
      have hlt : ((l.drop (m * n)).take n).length ≤ l.length := Nat.le_trans (List.length_take_le' _ _) (by rw [List.length_drop]; exact Nat.sub_le _ _)
      rw [he, refSum_ev ((l.drop (m * n)).take n) (Nat.lt_of_le_of_lt (Nat.le_trans hlt hl) (by decide)) k (by clear hw hw2 he hnm; omega), Option.bind_some]
      rw [if_pos hroom]
      have := ih (m + 1) (by omega) k (by omega)
      rw [List.range_succ, List.map_append] at this
      exact this
theorem refBlocks_ev (l : List Int) (hl : l.length ≤ 300) (a : Int) (ha : a ≤ 9223372036854775807) : ∀ k, 10 * l.length + 2 * l.length + 5 ≤ k → ∃ r, footlockerref06_Blocks.f k l a = some r ∧ crc_Blocks.f k l a = some r ∧ r.length ≤ l.length := by
  intro k hk
  unfold footlockerref06_Blocks.f crc_Blocks.f
  by_cases h : a < 1
  · refine ⟨[], ?_, by rw [if_pos h], by simp⟩
    obtain ⟨k, rfl⟩ : ∃ q, k = q + 2 := ⟨k - 2, by omega⟩
    simp only [footlockerref06_Blocks.l0]
    rw [if_neg (by omega)]
    simp only [footlockerref06_Blocks.j1]
    rw [if_neg (by simp)]
  · obtain ⟨n, rfl⟩ := Int.eq_ofNat_of_zero_le (show 0 ≤ a by omega)
    have hn : 0 < n := by omega
    have hc : cnt l.length n ≤ l.length := by
      rcases Nat.lt_or_ge l.length (cnt l.length n) with h | h
      · have := (cnt_lt hn).1 h; have := Nat.le_mul_of_pos_right l.length hn; omega
      · exact h
    refine ⟨(List.range (cnt l.length n)).map (blk l n), ?_, ?_, by simpa using hc⟩
    · have := refBlocks_l0 l hl n hn (by omega) (cnt l.length n) 0 (by omega) k (by omega)
      simpa using this
    · rw [if_neg h, if_pos ⟨ha, by omega⟩, Int.toNat_natCast]
      rfl
end Go.Proofs.YtghnaoppelndkaaDoor.Pure
