/- What the printed functions of crc come to, in words of 32 bits: products, powers, joins, noughts. -/
import Derived.Test.YtghnaoppelndkaaDoorQx1
namespace Go.Proofs.YtghnaoppelndkaaDoor.Pure
open Go.RowKit Go.Proofs.YtghnaoppelndkaaDoor.Q Go.Proofs.YtghnaoppelndkaaDoorW.PrintWords Go.Proofs.YtghnaoppelndkaaDoorW.PrintLast
set_option linter.unusedVariables false

/-- a word as a number -/
def I (r : Crc.W) : Int := (r.toNat : Int)
theorem I_ofInt (r : Crc.W) : BitVec.ofInt 32 (I r) = r := ofInt_toNat r
theorem I_xor (a b : Crc.W) : Go.bits .xor .u32 (I a) (I b) = I (a ^^^ b) := by rw [bits_xor_bv, I_ofInt, I_ofInt]; rfl
theorem I_not (a : Crc.W) : Go.bits .xor .u32 IntKind.u32.max (I a) = I (~~~a) := by rw [start_upd, I_ofInt]; rfl
theorem I_zero (a : Crc.W) : I a = 0 ↔ a = 0#32 := by
  unfold I
  constructor
  · intro h; exact BitVec.eq_of_toNat_eq (by simp; omega)
  · intro h; subst h; rfl
theorem I_inj {a b : Crc.W} : I a = I b ↔ a = b := by
  unfold I
  constructor
  · intro h; exact BitVec.eq_of_toNat_eq (by omega)
  · intro h; subst h; rfl
theorem I_shl (a : Crc.W) : (I a * (2 : Int)) % (4294967296 : Int) = I (a <<< (1 : Nat)) := by
  unfold I
  rw [BitVec.toNat_shiftLeft, Nat.shiftLeft_eq]
  omega
theorem I_shr (a : Crc.W) : I a / (2 : Int) = I (a >>> (1 : Nat)) := by
  unfold I
  rw [BitVec.toNat_ushiftRight, Nat.shiftRight_eq_div_pow]
  omega
theorem I_low (b : Crc.W) : Go.bits .and .u32 (I b) 1 = 0 ↔ b.getLsbD 0 = false := by
  rw [bits_and_bv, I_ofInt, show BitVec.ofInt 32 1 = 1#32 from rfl]
  rw [show ((b &&& 1#32).toNat : Int) = I (b &&& 1#32) from rfl, I_zero]
  constructor
  · intro h
    have := congrArg (fun v => v.getLsbD 0) h
    simpa using this
  · intro h
    apply BitVec.eq_of_getLsbD_eq
    intro i hi
    rw [BitVec.getLsbD_and]
    cases i with
    | zero => rw [h]; simp
    | succ i => simp [BitVec.getLsbD_one]
theorem I_top (b : Crc.W) : Go.bits .and .u32 (I b) 2147483648 = 0 ↔ b.getLsbD 31 = false := by
  rw [bits_and_bv, I_ofInt, show BitVec.ofInt 32 2147483648 = Crc.one from rfl]
  rw [show ((b &&& Crc.one).toNat : Int) = I (b &&& Crc.one) from rfl, I_zero]
  have hone : ∀ i, i < 32 → Crc.one.getLsbD i = decide (i = 31) := by decide
  constructor
  · intro h
    have := congrArg (fun v => v.getLsbD 31) h
    rw [BitVec.getLsbD_and, hone 31 (by decide)] at this
    simpa using this
  · intro h
    apply BitVec.eq_of_getLsbD_eq
    intro i hi
    rw [BitVec.getLsbD_and, hone i hi]
    by_cases e : i = 31
    · subst e; rw [h]; simp
    · simp [e]
theorem I_X (b : Crc.W) : (if Go.bits .and .u32 (I b) 1 = 0 then I b / 2 else Go.bits .xor .u32 (I b / 2) 3988292384) = I (Crc.X b) := by
  rw [show (3988292384 : Int) = I Crc.P from rfl, I_shr, I_xor]
  unfold Crc.X
  by_cases h : b.getLsbD 0 = false
  · rw [if_pos ((I_low b).2 h), h]; simp
  · rw [if_neg (fun e => h ((I_low b).1 e))]
    simp only [Bool.not_eq_false] at h
    rw [h]; rfl

theorem times_l0 (n : Nat) : ∀ (a b out : Crc.W), a <<< n = 0#32 → ∀ k, n < k → crc_times.l0 k (I a) (I b) (I out) = some (I (out ^^^ Crc.mulN n a b)) := by
  induction n with
  | zero =>
    intro a b out ha k hk
    obtain ⟨k, rfl⟩ : ∃ m, k = m + 1 := ⟨k - 1, by omega⟩
    have ha' : I a = 0 := (I_zero a).2 (by simpa using ha)
    simp only [crc_times.l0]
    rw [if_pos ha']
    simp [Crc.mulN]
  | succ n ih =>
    intro a b out ha k hk
    obtain ⟨k, rfl⟩ : ∃ m, k = m + 1 := ⟨k - 1, by omega⟩
    simp only [crc_times.l0]
    by_cases h0 : I a = 0
    · rw [if_pos h0, (I_zero a).1 h0, Crc.mulN_zero_l]; simp
    · rw [if_neg h0]
      have hs : (a <<< 1) <<< n = 0#32 := by rw [← BitVec.shiftLeft_add, Nat.add_comm]; exact ha
      have hX := I_X b
      have key : ∀ o : Crc.W, (if Go.bits .and .u32 (I b) 1 = 0 then crc_times.l0 k ((I a * 2) % 4294967296) (I b / 2) (I o) else crc_times.l0 k ((I a * 2) % 4294967296) (Go.bits .xor .u32 (I b / 2) 3988292384) (I o)) = some (I (o ^^^ Crc.mulN n (a <<< 1) (Crc.X b))) := by
        intro o
        rw [I_shl, ← ih (a <<< 1) (Crc.X b) o hs k (by omega), ← hX]
        split <;> rfl
      by_cases ht : a.getLsbD 31 = false
      · rw [if_pos ((I_top a).2 ht), key, Crc.mulN, ht]
        simp
      · rw [if_neg (fun e => ht ((I_top a).1 e)), I_xor, key, Crc.mulN]
        simp only [Bool.not_eq_false] at ht
        rw [ht, if_pos rfl]
        congr 2
        simp [BitVec.xor_assoc]
theorem shl32 (a : Crc.W) : a <<< 32 = 0#32 := by
  apply BitVec.eq_of_getLsbD_eq
  intro i hi
  simp
theorem times_ev (a b : Crc.W) : ∀ k, 32 < k → crc_times.f k (I a) (I b) = some (I (Crc.mul a b)) := by
  intro k hk
  unfold crc_times.f
  have := times_l0 32 a b 0#32 (shl32 a) k hk
  rw [BitVec.zero_xor] at this
  exact this

/-- x to the n-th -/
def pw (n : Nat) : Crc.W := Crc.Xn n Crc.one
theorem and1 (n : Nat) (hn : n < 9223372036854775808) : Go.bits .and .i64 (n : Int) 1 = ((n % 2 : Nat) : Int) := by
  have h := bits_nat .i64 63 (by decide) (fun x h0 h1 => by rw [IntKind.wrap_i64]; omega) n 1 (by omega) (by decide)
  have h1 := h.1
  rw [show ((1 : Nat) : Int) = 1 from rfl] at h1
  rw [h1, Nat.and_one_is_mod]
theorem power_l0 (n : Nat) : ∀ (A B : Nat), n < 9223372036854775808 → ∀ k, n + 33 < k → crc_power.l0 k (n : Int) (I (pw A)) (I (pw B)) = some (I (pw (A + n * B))) := by
  induction n using Nat.strongRecOn with
  | ind n ih =>
    intro A B hn k hk
    obtain ⟨k, rfl⟩ : ∃ m, k = m + 1 := ⟨k - 1, by omega⟩
    simp only [crc_power.l0]
    by_cases h0 : n = 0
    · subst h0
      rw [if_neg (by omega)]
      simp
    · rw [if_pos (by omega), and1 n hn]
      have hd : ((n : Int) / 2) = ((n / 2 : Nat) : Int) := rfl
      have hBB : crc_times.f k (I (pw B)) (I (pw B)) = some (I (pw (B + B))) := by rw [times_ev _ _ k (by omega)]; unfold pw; rw [Crc.pow_pow]
      have hAB : crc_times.f k (I (pw A)) (I (pw B)) = some (I (pw (A + B))) := by rw [times_ev _ _ k (by omega)]; unfold pw; rw [Crc.pow_pow]
      by_cases h1 : n % 2 = 0
      · rw [if_pos (by omega), hBB, Option.bind_some, hd, ih (n / 2) (by omega) A (B + B) (by omega) k (by omega)]
        congr 3
        have : n = 2 * (n / 2) := by omega
        rw [this]
        simp only [Nat.mul_div_cancel_left _ (show 0 < 2 by decide)]
        rw [Nat.mul_comm 2 (n / 2), Nat.mul_assoc, Nat.two_mul]
      · rw [if_neg (by omega), hAB, Option.bind_some, hBB, Option.bind_some, hd, ih (n / 2) (by omega) (A + B) (B + B) (by omega) k (by omega)]
        congr 3
        have : n = 2 * (n / 2) + 1 := by omega
        generalize n / 2 = q at this
        subst this
        rw [Nat.add_mul, Nat.mul_comm 2 q, Nat.mul_assoc, Nat.two_mul, Nat.one_mul]; omega
theorem power_ev (n : Nat) (hn : n < 9223372036854775808) : ∀ k, n + 33 < k → crc_power.f k (n : Int) = some (I (pw (8 * n))) := by
  intro k hk
  unfold crc_power.f
  have := power_l0 n 0 8 hn k hk
  rw [show I (pw 0) = 2147483648 from rfl, show I (pw 8) = 8388608 from by decide +kernel] at this
  rw [this]
  congr 3
  omega
theorem held_ev (n : Nat) (hn : n ≤ 1099511627776) : crc_held.f (n : Int) = some (n : Int) := by
  unfold crc_held.f
  congr 1
  unfold mn mx
  (repeat' split) <;> omega
theorem join_ev (a b : Crc.W) (n : Nat) (hn : n ≤ 1099511627776) : ∀ k, n + 33 < k → crc_Join.f k (I a) (I b) (n : Int) = some (I (Crc.mul a (pw (8 * n)) ^^^ b)) := by
  intro k hk
  unfold crc_Join.f
  rw [held_ev n hn, Option.bind_some, power_ev n (by omega) k hk, Option.bind_some, times_ev _ _ k (by omega), Option.bind_some, I_xor]
theorem zeros_ev (a : Crc.W) (n : Nat) (hn : n ≤ 1099511627776) : ∀ k, n + 33 < k → crc_Zeros.f k (I a) (n : Int) = some (I (Crc.sum a (List.replicate n 0))) := by
  intro k hk
  unfold crc_Zeros.f
  rw [held_ev n hn, Option.bind_some, power_ev n (by omega) k hk, Option.bind_some, I_not, times_ev _ _ k (by omega), Option.bind_some, I_not]
  rw [← Crc.sum_zeros]; rfl
theorem upd_I (s : Crc.W) (l : List Int) : updI (I s) l = I (Crc.sum s (l.map toN)) := by unfold updI; rw [I_ofInt]; rfl
theorem upd_0 (l : List Int) : updI 0 l = I (Crc.sum 0#32 (l.map toN)) := upd_I 0#32 l
end Go.Proofs.YtghnaoppelndkaaDoor.Pure
