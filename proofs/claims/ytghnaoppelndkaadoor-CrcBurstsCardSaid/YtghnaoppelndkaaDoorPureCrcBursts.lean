/- CrcBursts: bytes turned within 32 bits have another sum: what is left of it without memory. -/
import Derived.Test.YtghnaoppelndkaaDoorQx4
import Derived.Test.YtghnaoppelndkaaDoorPb
import Derived.Laws.BitsAllLaws
namespace Go.Proofs.YtghnaoppelndkaaDoor.Pure
open Go.RowKit Go.Proofs.YtghnaoppelndkaaDoor.Q Go.Proofs.YtghnaoppelndkaaDoorW.PrintWords Go.Proofs.YtghnaoppelndkaaDoorW.PrintLast Go.Proofs.YtghnaoppelndkaaDoorW.PrintMore
set_option linter.unusedVariables false
theorem and_mask' (x : Int) (m : Nat) (hm : m < 9223372036854775808) : ∃ n : Nat, Go.bits .and .i64 x (m : Int) = (n : Int) ∧ n ≤ m := by
  refine ⟨(BitVec.ofInt 64 x &&& BitVec.ofInt 64 (m : Int)).toNat, ?_, ?_⟩
  · show IntKind.i64.wrap _ = _
    have h : (BitVec.ofInt 64 x &&& BitVec.ofInt 64 (m : Int)).toNat ≤ m := by
      rw [BitVec.toNat_and, BitVec.ofInt_natCast, BitVec.toNat_ofNat, Nat.mod_eq_of_lt (by omega)]
      exact Nat.and_le_right
    rw [IntKind.wrap_i64]
    show (((BitVec.ofInt 64 x &&& BitVec.ofInt 64 (m : Int)).toNat : Int) + 9223372036854775808) % 18446744073709551616 - 9223372036854775808 = _
    omega
  · rw [BitVec.toNat_and, BitVec.ofInt_natCast, BitVec.toNat_ofNat, Nat.mod_eq_of_lt (by omega)]
    exact Nat.and_le_right
theorem tmod_nat' (n m : Nat) : Int.tmod (n : Int) (m : Int) = ((n % m : Nat) : Int) := by rw [Int.tmod_eq_emod_of_nonneg (by omega)]; rfl
theorem tdiv_nat (n m : Nat) : Int.tdiv (n : Int) (m : Int) = ((n / m : Nat) : Int) := by rw [Int.tdiv_eq_ediv_of_nonneg (by omega)]; rfl
theorem wf_u8' {a : Int} (h : (Lit.int .u8 a).wf = true) : 0 ≤ a ∧ a < 256 := by
  simp [Lit.wf, IntKind.min, IntKind.max, IntKind.bits, IntKind.signed] at h
  omega
theorem wf_u32 {a : Int} (h : (Lit.int .u32 a).wf = true) : 0 ≤ a ∧ a < 4294967296 := by
  simp [Lit.wf, IntKind.min, IntKind.max, IntKind.bits, IntKind.signed] at h
  omega
/-- one bit of a word -/
theorem bit_of (t : Crc.W) (i : Nat) (hi : i < 32) : (Go.bits .and .u32 (shr .u32 (I t) (i : Int)) 1 = 1) ↔ t.getLsbD i = true := by
  have hs : shr .u32 (I t) (i : Int) = I (t >>> i) := by
    unfold shr I
    rw [Int.toNat_natCast, show min i IntKind.u32.bits = i from Nat.min_eq_left (by show i ≤ 32; omega), BitVec.toNat_ushiftRight, Nat.shiftRight_eq_div_pow]
    simp
  rw [hs]
  have h := I_low (t >>> i)
  have h2 : Go.bits .and .u32 (I (t >>> i)) 1 = 0 ∨ Go.bits .and .u32 (I (t >>> i)) 1 = 1 := by
    rw [bits_and_bv, I_ofInt, show BitVec.ofInt 32 1 = 1#32 from rfl, BitVec.toNat_and, show (1#32 : Crc.W).toNat = 1 from rfl, Nat.and_one_is_mod]
    omega
  have h3 : (t >>> i).getLsbD 0 = t.getLsbD i := by rw [BitVec.getLsbD_ushiftRight, Nat.add_zero]
  rw [h3] at h
  constructor
  · intro e
    by_cases hf : t.getLsbD i = false
    · rw [h.2 hf] at e; cases e
    · simpa using hf
  · intro e
    rcases h2 with h2 | h2
    · rw [h.1 h2] at e; cases e
    · exact h2
theorem set_map (l : List Int) (j : Nat) (v : Int) : (l.set j v).map toN = (l.map toN).set j (toN v) := by rw [List.map_set]
theorem flip_val (x : Int) (h0 : 0 ≤ x) (h1 : x < 256) (q : Nat) (hq : q < 8) : Go.bits .xor .u8 x (shl .u8 1 (q : Int)) = ((x.toNat ^^^ 2 ^ q : Nat) : Int) ∧ x.toNat ^^^ 2 ^ q < 256 := by
  have hp : 2 ^ q < 256 := Nat.pow_lt_pow_right (by decide) hq
  have hs : shl .u8 1 (q : Int) = ((2 ^ q : Nat) : Int) := by
    unfold shl
    rw [Int.toNat_natCast, show min q IntKind.u8.bits = q from Nat.min_eq_left (by show q ≤ 8; omega), IntKind.wrap_u8, Int.one_mul]
    rw [show ((2 : Int) ^ q) = ((2 ^ q : Nat) : Int) by simp]
    generalize 2 ^ q = p at *
    omega
  have hlt : x.toNat ^^^ 2 ^ q < 256 := Nat.xor_lt_two_pow (n := 8) (by omega) hp
  refine ⟨?_, hlt⟩
  rw [hs, Go.u8_xor x ((2 ^ q : Nat) : Int) h0 h1 (Int.natCast_nonneg _) (Int.ofNat_lt.2 hp), Int.toNat_natCast]
theorem bursts_l0 (l : List Int) (hl5 : 5 ≤ l.length) (hl : l.length ≤ 300) (t : Crc.W) (at_ : Nat) (hat : at_ + 32 ≤ 8 * l.length) (R : Option Bool) (K : Nat)
    (hR : ∀ m : List Int, m.map toN = Crc.turned 32 t at_ (l.map toN) → ∀ k, K ≤ k → footlockerlaw06_CrcBursts.l0 (k + 1) l (at_ : Int) (I t) m 32 = R) (d : Nat) :
    ∀ (i : Nat) (m : List Int), i + d = 32 → m.map toN = Crc.turned i t at_ (l.map toN) → (∀ x ∈ m, 0 ≤ x ∧ x < 256) → ∀ k, K + d ≤ k → footlockerlaw06_CrcBursts.l0 (k + 1) l (at_ : Int) (I t) m (i : Int) = R := by
  induction d with
  | zero =>
    intro i m hi hm _ k hk
    obtain rfl : i = 32 := by omega
    exact hR m hm k (by omega)
  | succ d ih =>
    intro i m hi hm hx k hk
    obtain ⟨k, rfl⟩ : ∃ q, k = q + 1 := ⟨k - 1, by omega⟩
    have hlen : m.length = l.length := by
      have := congrArg List.length hm
      rw [List.length_map, Crc.turned_length, List.length_map] at this
      exact this
    have hw1 : wrap64 ((i : Int) + 1) = ((i + 1 : Nat) : Int) := by unfold wrap64; omega
    have hw2 : wrap64 ((at_ : Int) + (i : Int)) = ((at_ + i : Nat) : Int) := by unfold wrap64; omega
    have hdiv : (at_ + i) / 8 < l.length := by omega
    have hw3 : wrap64 (((at_ + i) / 8 : Nat) : Int) = (((at_ + i) / 8 : Nat) : Int) := by
      generalize (at_ + i) / 8 = q at *
      unfold wrap64
      omega
    simp only [footlockerlaw06_CrcBursts.l0]
    rw [hw1, hw2, show (8 : Int) = ((8 : Nat) : Int) from rfl, tdiv_nat, hw3, tmod_nat', Int.toNat_natCast]
    clear hw1 hw2 hw3
    rw [if_pos (by omega), if_pos (by omega)]
    by_cases hb : t.getLsbD i = true
    · rw [if_pos ((bit_of t i (by omega)).2 hb), if_pos (by omega), if_pos (by rw [hlen]; omega), if_pos (by omega)]
      have hj : (at_ + i) / 8 < m.length := by omega
      have hrd : rd m (((at_ + i) / 8 : Nat) : Int) = m[(at_ + i) / 8] := by simp only [rd, Int.toNat_natCast, List.getD_eq_getElem?_getD, List.getElem?_eq_getElem hj, Option.getD_some]
      have hxr := hx _ (List.getElem_mem hj)
      rw [← hrd] at hxr
      obtain ⟨hv, hvlt⟩ := flip_val (rd m (((at_ + i) / 8 : Nat) : Int)) hxr.1 hxr.2 ((at_ + i) % 8) (Nat.mod_lt _ (by decide))
      rw [hv]
      refine ih (i + 1) _ (by omega) ?_ ?_ k (by omega)
      · rw [set_map, Crc.turned, hb, if_pos rfl, ← hm]
        congr 1
        have e1 : toN (((rd m (((at_ + i) / 8 : Nat) : Int)).toNat ^^^ 2 ^ ((at_ + i) % 8) : Nat) : Int) = (rd m (((at_ + i) / 8 : Nat) : Int)).toNat ^^^ 2 ^ ((at_ + i) % 8) := by
          generalize (rd m (((at_ + i) / 8 : Nat) : Int)).toNat ^^^ 2 ^ ((at_ + i) % 8) = q at *
          unfold toN
          omega
        rw [e1]
        congr 1
        rw [hrd] at hxr ⊢
        rw [List.getD_eq_getElem?_getD, List.getElem?_map, List.getElem?_eq_getElem hj]
        simp only [Option.map_some, Option.getD_some]
        unfold toN
        omega
      · intro x hxm
        rcases List.mem_or_eq_of_mem_set hxm with h | h
        · exact hx x h
        · subst h
          exact ⟨Int.natCast_nonneg _, Int.ofNat_lt.2 hvlt⟩
    · rw [if_neg (fun e => hb ((bit_of t i (by omega)).1 e))]
      refine ih (i + 1) m (by omega) ?_ hx k (by omega)
      rw [hm, Crc.turned, if_neg hb]
theorem CrcBursts : footlockerlaw06_CrcBursts.Pure := by
  intro l a1 a2 h0 h1 h2 h3 h4
  obtain ⟨K, hK⟩ := alive_ev
  have ht := wf_u32 h4
  obtain ⟨t, rfl⟩ : ∃ t : Crc.W, a2 = I t := ⟨BitVec.ofInt 32 a2, by
    unfold I
    obtain ⟨n, rfl⟩ := Int.eq_ofNat_of_zero_le ht.1
    rw [BitVec.ofInt_natCast, BitVec.toNat_ofNat]
    omega⟩
  refine ⟨K + 100, ?_⟩
  unfold footlockerlaw06_CrcBursts.f
  rw [hK _ (by omega), Option.bind_some, if_pos rfl]
  obtain ⟨k, hk⟩ : ∃ k, K + 100 = k + 2 := ⟨K + 98, by omega⟩
  have hkb : 90 ≤ k := by omega
  rw [hk]
  clear h0 h1 h3 h4 ht hK hk
  by_cases hl5 : (l.length : Int) < 5
  · rw [if_pos hl5]; rfl
  rw [if_neg hl5]
  by_cases hl : (l.length : Int) > 300
  · rw [if_pos hl]; rfl
  rw [if_neg hl]
  simp only [footlockerlaw06_CrcBursts.j0]
  by_cases h0 : I t = 0
  · rw [if_pos (beq_iff_eq.2 h0)]
  rw [if_neg (fun e => h0 (beq_iff_eq.1 e))]
  have hl5' : 5 ≤ l.length := by omega
  have hl' : l.length ≤ 300 := by omega
  obtain ⟨c0, hc0, hc1⟩ := and_mask' a1 4095 (by decide)
  rw [show ((4095 : Nat) : Int) = 4095 from rfl] at hc0
  have hw1 : wrap64 ((l.length : Int) - 4) = ((l.length - 4 : Nat) : Int) := by unfold wrap64; omega
  have hw2 : wrap64 (8 * ((l.length - 4 : Nat) : Int)) = ((8 * (l.length - 4) : Nat) : Int) := by unfold wrap64; omega
  rw [hc0, hw1, hw2, tmod_nat']
  clear hw1 hw2 hc0
  have hat : c0 % (8 * (l.length - 4)) < 8 * (l.length - 4) := Nat.mod_lt _ (by omega)
  generalize c0 % (8 * (l.length - 4)) = c at *
  rw [if_neg (by omega)]
  have hcopy : footlockerref01_Copy.f l = some l := by
    unfold footlockerref01_Copy.f
    rw [Option.bind_some, if_pos (by simp; omega)]
    simp
  rw [hcopy, Option.bind_some]
  refine bursts_l0 l hl5' hl' t c (by omega) (some true) 0 (fun m hm k' _ => ?_) 32 0 l (by omega) rfl (fun x hx => wf_u8' (h2 x hx)) k (by omega)
  simp only [footlockerlaw06_CrcBursts.l0]
  rw [if_neg (by decide)]
  simp only [crc_Sum.f, Option.bind_some]
  rw [upd_0, upd_0, hm]
  have hne := Crc.sum_turned t (fun e => h0 ((I_zero t).2 e)) c (l.map toN) (by rw [List.length_map]; omega) 0#32
  have : I (Crc.sum 0#32 (Crc.turned 32 t c (l.map toN))) ≠ I (Crc.sum 0#32 (l.map toN)) := fun e => hne (I_inj.1 e)
  simp [this]
end Go.Proofs.YtghnaoppelndkaaDoor.Pure
