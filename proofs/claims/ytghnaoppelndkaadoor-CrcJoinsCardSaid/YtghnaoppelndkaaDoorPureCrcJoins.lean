/- CrcJoins: the sum of both of two rows, by both sums, and of noughts behind one, is as the document says: what is left of it without memory. -/
import Derived.Test.YtghnaoppelndkaaDoorQx4
import Derived.Test.YtghnaoppelndkaaDoorPc
import Derived.Test.YtghnaoppelndkaaDoorPb
namespace Go.Proofs.YtghnaoppelndkaaDoor.Pure
open Go.RowKit Go.Proofs.YtghnaoppelndkaaDoor.Q Go.Proofs.YtghnaoppelndkaaDoorW.PrintWords Go.Proofs.YtghnaoppelndkaaDoorW.PrintLast Go.Proofs.YtghnaoppelndkaaDoorW.PrintMore
set_option linter.unusedVariables false
theorem wf_u32j {a : Int} (h : (Lit.int .u32 a).wf = true) : 0 ≤ a ∧ a < 4294967296 := by
  simp [Lit.wf, IntKind.min, IntKind.max, IntKind.bits, IntKind.signed] at h
  omega
theorem held_max (a : Int) (h : a ≤ 1099511627776) : crc_held.f a = some ((a.toNat : Nat) : Int) := by
  unfold crc_held.f mn mx
  congr 1
  (repeat' split) <;> omega
theorem held_top (a : Int) (h : 1099511627776 < a) : crc_held.f a = some ((1099511627776 : Nat) : Int) := by
  unfold crc_held.f mn mx
  congr 1
  (repeat' split) <;> omega
theorem held_mn (a : Int) : crc_held.f (mn a 1099511627776) = crc_held.f a := by
  unfold crc_held.f mn mx
  congr 1
  (repeat' split) <;> omega
theorem held_some (a : Int) : ∃ n : Nat, n ≤ 1099511627776 ∧ crc_held.f a = some (n : Int) := by
  rcases Int.lt_or_le 1099511627776 a with h | h
  · exact ⟨_, Nat.le_refl _, held_top a h⟩
  · exact ⟨a.toNat, by omega, held_max a h⟩
theorem join_mn (k : Nat) (x y a : Int) : crc_Join.f k x y (mn a 1099511627776) = crc_Join.f k x y a := by
  unfold crc_Join.f
  rw [held_mn]
theorem join_some (s : Crc.W) (a : Int) : ∀ k, 1099511627776 + 33 < k → ∃ t, crc_Join.f k (I s) 0 a = some t := by
  intro k hk
  obtain ⟨n, hn, hh⟩ := held_some a
  unfold crc_Join.f
  rw [hh, Option.bind_some, power_ev n (by omega) k (by omega), Option.bind_some, times_ev _ _ k (by omega), Option.bind_some]
  exact ⟨_, rfl⟩
theorem zeros_any (s : Crc.W) (a : Int) (h : a ≤ 300) : ∀ k, 400 < k → crc_Zeros.f k (I s) a = some (I (Crc.sum s (List.replicate a.toNat 0))) := by
  intro k hk
  have hz := zeros_ev s a.toNat (by omega) k (by omega)
  unfold crc_Zeros.f at hz ⊢
  rw [held_ev a.toNat (by omega)] at hz
  rw [held_max a (by omega)]
  exact hz
theorem j1_true (s : Crc.W) (a3 : Int) (k : Nat) (hk : 4000 < k) : footlockerlaw06_CrcJoins.j1 k (I s) a3 false = some true := by
  obtain ⟨k, rfl⟩ : ∃ q, k = q + 1 := ⟨k - 1, by omega⟩
  simp only [footlockerlaw06_CrcJoins.j1]
  rw [if_neg (by simp)]
  by_cases h : a3 > 300
  · rw [if_pos h]
  · rw [if_neg h, zeros_any s a3 (by omega) k (by omega), Option.bind_some]
    have hm : mx a3 0 = ((a3.toNat : Nat) : Int) := by unfold mx; split <;> omega
    have ha : a3.toNat ≤ 300 := by omega
    rw [hm, Int.toNat_natCast]
    generalize a3.toNat = n at *
    rw [if_pos (by omega), if_pos (by omega), refUpd_ev _ _ (by simp; omega) k (by simp; omega), Option.bind_some, upd_I, List.map_replicate]
    rw [show toN 0 = 0 from rfl]
    simp
theorem CrcJoins : footlockerlaw06_CrcJoins.Pure := by
  intro l0 l1 a2 a3 h0 h1 h2 h3 h4 h5 h6 h7
  obtain ⟨K, hK⟩ := alive_ev
  have ht := wf_u32j h6
  obtain ⟨s, rfl⟩ : ∃ t : Crc.W, a2 = I t := ⟨BitVec.ofInt 32 a2, by
    unfold I
    obtain ⟨n, rfl⟩ := Int.eq_ofNat_of_zero_le ht.1
    rw [BitVec.ofInt_natCast, BitVec.toNat_ofNat]
    omega⟩
  refine ⟨K + 1099511627776 + 10000, ?_⟩
  unfold footlockerlaw06_CrcJoins.f
  rw [hK _ (by omega), Option.bind_some, if_pos rfl]
  obtain ⟨k, hk⟩ : ∃ k, K + 1099511627776 + 10000 = k + 1 := ⟨K + 1099511627776 + 9999, by omega⟩
  have hkb : 1099511627776 + 9000 < k := by omega
  rw [hk]
  clear h0 h1 h2 h3 h4 h5 h6 h7 ht hK hk
  have hT : ∀ x3, footlockerlaw06_CrcJoins.j0 (k + 1) l0 l1 (I s) x3 true = some true := fun x3 => by simp only [footlockerlaw06_CrcJoins.j0]; rw [if_pos trivial]
  by_cases hl0 : (l0.length : Int) > 300
  · rw [if_pos hl0]; exact hT _
  rw [if_neg hl0]
  by_cases hl1 : (l1.length : Int) > 300
  · rw [if_pos hl1]; exact hT _
  rw [if_neg hl1]
  have hF : footlockerlaw06_CrcJoins.j0 (k + 1) l0 l1 (I s) a3 false = some true := by
    simp only [footlockerlaw06_CrcJoins.j0]
    rw [if_neg (by simp)]
    have e1 : slices_Chunk_byte_byte.f l0 l1 = some (l0 ++ l1) := by
      unfold slices_Chunk_byte_byte.f
      rw [if_pos (by omega)]
    have hj : crc_Join.f k (updI 0 l0) (updI 0 l1) (l1.length : Int) = some (updI 0 (l0 ++ l1)) := by
      rw [upd_0, upd_0, join_ev _ _ _ (by omega) k (by omega), upd_0, List.map_append, Crc.sum_join, List.length_map]
      rfl
    rw [e1, Option.bind_some]
    simp only [crc_Sum.f, Option.bind_some]
    rw [hj, Option.bind_some, refSum_ev _ (by rw [List.length_append]; omega) k (by rw [List.length_append]; omega), Option.bind_some, if_pos rfl]
    have hz := zeros_any s (-1) (by decide) k (by omega)
    have hs : Crc.sum s (List.replicate (Int.toNat (-1)) 0) = s := by
      show Crc.sum s [] = s
      simp [Crc.sum, Crc.reg]
    rw [hs] at hz
    rw [hz, Option.bind_some, if_pos rfl]
    obtain ⟨t, htt⟩ := join_some s a3 k (by omega)
    rw [join_mn, htt, Option.bind_some, Option.bind_some]
    rw [show (t != t) = false by simp]
    exact j1_true s a3 k (by omega)
  by_cases h3 : a3 > 300
  · rw [if_pos h3]
    by_cases h4 : a3 < 1099511627776
    · rw [decide_eq_true h4]; exact hT _
    · rw [decide_eq_false h4]; exact hF
  · rw [if_neg h3]; exact hF
end Go.Proofs.YtghnaoppelndkaaDoor.Pure
