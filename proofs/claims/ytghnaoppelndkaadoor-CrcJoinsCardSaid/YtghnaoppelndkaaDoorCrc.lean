/- What sums are: words of 32 bits as polynomials, and the sums of bytes. -/
namespace Crc
abbrev W := BitVec 32
def P : W := 0xEDB88320#32
/-- one bit: times x -/
def X (r : W) : W := (r >>> 1) ^^^ (if r.getLsbD 0 then P else 0#32)
def Xn : Nat → W → W
  | 0, r => r
  | n + 1, r => Xn n (X r)

theorem X_xor (a b : W) : X (a ^^^ b) = X a ^^^ X b := by
  unfold X
  rw [BitVec.getLsbD_xor, BitVec.ushiftRight_xor_distrib]
  cases a.getLsbD 0 <;> cases b.getLsbD 0 <;> simp
  · ac_rfl
  · ac_rfl
  · rw [show a >>> 1 ^^^ P ^^^ (b >>> 1 ^^^ P) = a >>> 1 ^^^ b >>> 1 ^^^ (P ^^^ P) by ac_rfl]; simp
theorem X_zero : X 0#32 = 0#32 := by decide
theorem Xn_xor (n : Nat) : ∀ a b : W, Xn n (a ^^^ b) = Xn n a ^^^ Xn n b := by
  induction n with
  | zero => intro a b; rfl
  | succ n ih => intro a b; simp only [Xn, X_xor, ih]
theorem Xn_zero (n : Nat) : Xn n 0#32 = 0#32 := by
  induction n with
  | zero => rfl
  | succ n ih => rw [Xn, X_zero, ih]
theorem Xn_add (m n : Nat) : ∀ a : W, Xn (m + n) a = Xn n (Xn m a) := by
  induction m with
  | zero => intro a; rw [Nat.zero_add]; rfl
  | succ m ih => intro a; rw [Nat.succ_add]; simp only [Xn, ih]
theorem Xn_succ' (n : Nat) (a : W) : Xn (n + 1) a = X (Xn n a) := Xn_add n 1 a

theorem X_msb (r : W) : (X r).getLsbD 31 = r.getLsbD 0 := by
  unfold X
  rw [BitVec.getLsbD_xor, BitVec.getLsbD_ushiftRight]
  cases h : r.getLsbD 0
  · simp
  · simp [P]
theorem X_inj (r : W) (h : X r = 0#32) : r = 0#32 := by
  have h0 : r.getLsbD 0 = false := by rw [← X_msb, h]; simp
  unfold X at h
  rw [h0] at h
  simp only [Bool.false_eq_true, if_false, BitVec.xor_zero] at h
  apply BitVec.eq_of_getLsbD_eq
  intro i hi
  rw [BitVec.getLsbD_zero]
  cases i with
  | zero => exact h0
  | succ i =>
    have := congrArg (fun v => v.getLsbD i) h
    simpa [BitVec.getLsbD_ushiftRight, Nat.add_comm] using this
theorem Xn_inj (n : Nat) : ∀ r : W, Xn n r = 0#32 → r = 0#32 := by
  induction n with
  | zero => intro r h; exact h
  | succ n ih => intro r h; exact X_inj _ (ih _ h)

/-- times: a's bits from the top. -/
def mulN : Nat → W → W → W
  | 0, _, _ => 0#32
  | n + 1, a, b => (if a.getLsbD 31 then b else 0#32) ^^^ mulN n (a <<< 1) (X b)
def mul (a b : W) : W := mulN 32 a b

theorem shl_xor (a b : W) : (a ^^^ b) <<< 1 = (a <<< 1) ^^^ (b <<< 1) := BitVec.shiftLeft_xor_distrib ..

theorem mulN_xor_l (n : Nat) : ∀ a c b : W, mulN n (a ^^^ c) b = mulN n a b ^^^ mulN n c b := by
  induction n with
  | zero => intro a c b; simp [mulN]
  | succ n ih =>
    intro a c b
    simp only [mulN, shl_xor, ih, BitVec.getLsbD_xor]
    cases a.getLsbD 31 <;> cases c.getLsbD 31 <;> simp
    · ac_rfl
    · ac_rfl
    · generalize mulN n (a <<< 1) (X b) = u; generalize mulN n (c <<< 1) (X b) = v; rw [show b ^^^ u ^^^ (b ^^^ v) = u ^^^ v ^^^ (b ^^^ b) by ac_rfl]; simp
theorem mulN_xor_r (n : Nat) : ∀ a b c : W, mulN n a (b ^^^ c) = mulN n a b ^^^ mulN n a c := by
  induction n with
  | zero => intro a c b; simp [mulN]
  | succ n ih =>
    intro a b c
    simp only [mulN, ih, X_xor]
    cases a.getLsbD 31 <;> simp <;> ac_rfl
theorem mulN_X_r (n : Nat) : ∀ a b : W, mulN n a (X b) = X (mulN n a b) := by
  induction n with
  | zero => intro a b; simp [mulN, X_zero]
  | succ n ih =>
    intro a b
    simp only [mulN, ih, X_xor]
    cases a.getLsbD 31 <;> simp [X_zero]
theorem mulN_zero_l (n : Nat) : ∀ b : W, mulN n 0#32 b = 0#32 := by
  induction n with
  | zero => intro b; rfl
  | succ n ih => intro b; simp [mulN, ih]

theorem mul_xor_l (a c b : W) : mul (a ^^^ c) b = mul a b ^^^ mul c b := mulN_xor_l ..
theorem mul_xor_r (a b c : W) : mul a (b ^^^ c) = mul a b ^^^ mul a c := mulN_xor_r ..
theorem mul_X_r (a b : W) : mul a (X b) = X (mul a b) := mulN_X_r ..
theorem mul_Xn_r (n : Nat) : ∀ (a b : W), mul a (Xn n b) = Xn n (mul a b) := by
  induction n with
  | zero => intro a b; rfl
  | succ n ih => intro a b; simp only [Xn, ih, mul_X_r]
def one : W := 0x80000000#32

/-- a word is a sum of bits -/
def bit (i : Nat) : W := (1#32) <<< i
def sumBits : Nat → W → W
  | 0, _ => 0#32
  | n + 1, a => sumBits n a ^^^ (if a.getLsbD n then bit n else 0#32)
theorem sumBits_get (n : Nat) (hn : n ≤ 32) (a : W) (i : Nat) : (sumBits n a).getLsbD i = (decide (i < n) && a.getLsbD i) := by
  induction n with
  | zero => simp [sumBits]
  | succ n ih =>
    rw [sumBits, BitVec.getLsbD_xor, ih (by omega)]
    cases h : a.getLsbD n
    · simp only [Bool.false_eq_true, if_false, BitVec.getLsbD_zero, Bool.xor_false]
      by_cases e : i = n
      · subst e; simp [h]
      · have : decide (i < n + 1) = decide (i < n) := by simp; omega
        rw [this]
    · simp only [if_true]
      have hb : (bit n).getLsbD i = decide (i = n) := by
        unfold bit
        rw [BitVec.getLsbD_shiftLeft]
        by_cases e : i = n
        · subst e; simp; omega
        · simp [e]; omega
      rw [hb]
      by_cases e : i = n
      · subst e; simp [h]
      · have : decide (i < n + 1) = decide (i < n) := by simp; omega
        rw [this]; simp [e]
theorem sumBits_all (a : W) : sumBits 32 a = a := by
  apply BitVec.eq_of_getLsbD_eq
  intro i hi
  rw [sumBits_get 32 (by omega)]
  simp [hi]
/-- two additive maps that agree on the bits agree -/
theorem lin_ext (f g : W → W) (hf : ∀ a b, f (a ^^^ b) = f a ^^^ f b) (hg : ∀ a b, g (a ^^^ b) = g a ^^^ g b)
    (h : ∀ i, i < 32 → f (bit i) = g (bit i)) (a : W) : f a = g a := by
  have f0 : f 0#32 = 0#32 := by have := hf 0#32 0#32; simpa using this
  have g0 : g 0#32 = 0#32 := by have := hg 0#32 0#32; simpa using this
  have key : ∀ n, n ≤ 32 → f (sumBits n a) = g (sumBits n a) := by
    intro n
    induction n with
    | zero => intro _; simp [sumBits, f0, g0]
    | succ n ih =>
      intro hn
      rw [sumBits, hf, hg, ih (by omega)]
      cases a.getLsbD n
      · simp [f0, g0]
      · simp [h n (by omega)]
  have := key 32 (by omega)
  rwa [sumBits_all] at this

theorem mul_one (a : W) : mul a one = a := lin_ext (fun a => mul a one) id (fun a b => mul_xor_l a b one) (fun _ _ => rfl) (by decide +kernel) a
theorem mul_pow (a : W) (n : Nat) : mul a (Xn n one) = Xn n a := by rw [mul_Xn_r, mul_one]
theorem pow_pow (m n : Nat) : mul (Xn m one) (Xn n one) = Xn (m + n) one := by rw [mul_pow, Xn_add]

/-- what four bits come to -/
def tab : Nat → W
  | 0 => 0x00000000#32 | 1 => 0x1DB71064#32 | 2 => 0x3B6E20C8#32 | 3 => 0x26D930AC#32
  | 4 => 0x76DC4190#32 | 5 => 0x6B6B51F4#32 | 6 => 0x4DB26158#32 | 7 => 0x5005713C#32
  | 8 => 0xEDB88320#32 | 9 => 0xF00F9344#32 | 10 => 0xD6D6A3E8#32 | 11 => 0xCB61B38C#32
  | 12 => 0x9B64C2B0#32 | 13 => 0x86D3D2D4#32 | 14 => 0xA00AE278#32 | _ => 0xBDBDF21C#32
theorem tab_xor : ∀ x, x < 16 → ∀ y, y < 16 → tab (x ^^^ y) = tab x ^^^ tab y := by decide +kernel
def nib (r : W) : W := (r >>> 4) ^^^ tab (r.toNat % 16)
theorem nib_xor (a b : W) : nib (a ^^^ b) = nib a ^^^ nib b := by
  unfold nib
  rw [BitVec.ushiftRight_xor_distrib, BitVec.toNat_xor, show (16 : Nat) = 2 ^ 4 from rfl, Nat.xor_mod_two_pow]
  rw [tab_xor _ (Nat.mod_lt _ (by decide)) _ (Nat.mod_lt _ (by decide))]
  ac_rfl
theorem nib_eq (r : W) : nib r = Xn 4 r := lin_ext nib (Xn 4) nib_xor (Xn_xor 4) (by decide +kernel) r
theorem nib2_eq (r : W) : nib (nib r) = Xn 8 r := by rw [nib_eq, nib_eq, ← Xn_add]

/-- the register behind bytes -/
def reg : W → List Nat → W
  | r, [] => r
  | r, c :: l => reg (Xn 8 (r ^^^ BitVec.ofNat 32 c)) l
theorem reg_append (l m : List Nat) : ∀ r, reg r (l ++ m) = reg (reg r l) m := by
  induction l with
  | nil => intro r; rfl
  | cons c l ih => intro r; simp only [List.cons_append, reg, ih]
/-- the linear part -/
theorem reg_lin (l : List Nat) : ∀ r s : W, reg (r ^^^ s) l = reg r l ^^^ Xn (8 * l.length) s := by
  induction l with
  | nil => intro r s; rfl
  | cons c l ih =>
    intro r s
    simp only [reg]
    rw [show r ^^^ s ^^^ BitVec.ofNat 32 c = (r ^^^ BitVec.ofNat 32 c) ^^^ s by ac_rfl, Xn_xor, ih, ← Xn_add, List.length_cons]
    congr 2; omega
def sum (s : W) (l : List Nat) : W := ~~~(reg (~~~s) l)
theorem sum_append (s : W) (l m : List Nat) : sum s (l ++ m) = sum (sum s l) m := by simp [sum, reg_append]
theorem not_eq (a : W) : ~~~a = a ^^^ 0xFFFFFFFF#32 := by
  apply BitVec.eq_of_getLsbD_eq
  intro i hi
  rw [BitVec.getLsbD_not, BitVec.getLsbD_xor, show (0xFFFFFFFF#32 : W) = BitVec.allOnes 32 from rfl, BitVec.getLsbD_allOnes]
  simp [hi]
theorem not_xor (a b : W) : ~~~(a ^^^ b) = ~~~a ^^^ b := by simp only [not_eq]; ac_rfl
/-- sums of one row, from any two sums -/
theorem sum_lin (s t : W) (l : List Nat) : sum (s ^^^ t) l = sum s l ^^^ Xn (8 * l.length) t := by
  unfold sum
  rw [not_xor, reg_lin, not_xor]
/-- the sum of both by both sums -/
theorem sum_join (l m : List Nat) : sum 0#32 (l ++ m) = mul (sum 0#32 l) (Xn (8 * m.length) one) ^^^ sum 0#32 m := by
  rw [sum_append, mul_pow]
  have := sum_lin 0#32 (sum 0#32 l) m
  rw [BitVec.zero_xor] at this
  rw [this]; ac_rfl
theorem reg_zeros (n : Nat) : ∀ r, reg r (List.replicate n 0) = Xn (8 * n) r := by
  induction n with
  | zero => intro r; rfl
  | succ n ih =>
    intro r
    rw [List.replicate_succ, reg, ih, show BitVec.ofNat 32 0 = 0#32 from rfl, BitVec.xor_zero, ← Xn_add]
    congr 1; omega
theorem sum_zeros (s : W) (n : Nat) : ~~~(mul (~~~s) (Xn (8 * n) one)) = sum s (List.replicate n 0) := by
  rw [sum, reg_zeros, mul_pow]
def xorl : List Nat → List Nat → List Nat
  | a :: l, b :: m => (a ^^^ b) :: xorl l m
  | _, _ => []
theorem ofNat_xor (a b : Nat) : BitVec.ofNat 32 (a ^^^ b) = BitVec.ofNat 32 a ^^^ BitVec.ofNat 32 b := by
  apply BitVec.eq_of_toNat_eq
  simp only [BitVec.toNat_ofNat, BitVec.toNat_xor]
  exact Nat.xor_mod_two_pow
theorem reg_xorl (l : List Nat) : ∀ (m : List Nat), l.length = m.length → ∀ r s, reg (r ^^^ s) (xorl l m) = reg r l ^^^ reg s m := by
  induction l with
  | nil => intro m h r s; cases m with
    | nil => rfl
    | cons => simp at h
  | cons a l ih => intro m h r s; cases m with
    | nil => simp at h
    | cons b m =>
      simp only [xorl, reg]
      rw [← ih m (by simpa using h), ← Xn_xor, ofNat_xor]
      congr 2; ac_rfl
/-- sums of rows that are as long add up, with that of noughts -/
theorem sum_adds (l m : List Nat) (h : l.length = m.length) : sum 0#32 (xorl l m) = sum 0#32 l ^^^ sum 0#32 m ^^^ sum 0#32 (List.replicate l.length 0) := by
  have h1 := reg_xorl l m h (~~~0#32) 0#32
  rw [BitVec.xor_zero] at h1
  have h2 := reg_lin m 0#32 (~~~0#32)
  rw [BitVec.zero_xor] at h2
  unfold sum
  rw [h1, h2, reg_zeros, ← h]
  simp only [not_eq]
  generalize reg _ l = u
  generalize reg _ m = v
  generalize Xn _ _ = w
  rw [show u ^^^ 0xFFFFFFFF#32 ^^^ (v ^^^ w ^^^ 0xFFFFFFFF#32) ^^^ (w ^^^ 0xFFFFFFFF#32) = u ^^^ v ^^^ 0xFFFFFFFF#32 ^^^ (w ^^^ w) ^^^ (0xFFFFFFFF#32 ^^^ 0xFFFFFFFF#32) by ac_rfl]
  simp
/-- four bytes of a word, the lowest first -/
def bytes4 (s : W) : List Nat := [s.toNat % 256, s.toNat / 256 % 256, s.toNat / 65536 % 256, s.toNat / 16777216 % 256]
theorem reg4 (r a b c d : W) : Xn 8 (Xn 8 (Xn 8 (Xn 8 (r ^^^ a) ^^^ b) ^^^ c) ^^^ d) = Xn 32 r ^^^ (Xn 32 a ^^^ Xn 24 b ^^^ Xn 16 c ^^^ Xn 8 d) := by
  simp only [Xn_xor, ← Xn_add, Nat.reduceAdd]
  ac_rfl
def parts (s : W) : W := Xn 32 (BitVec.ofNat 32 (s.toNat % 256)) ^^^ Xn 24 (BitVec.ofNat 32 (s.toNat / 256 % 256)) ^^^ Xn 16 (BitVec.ofNat 32 (s.toNat / 65536 % 256)) ^^^ Xn 8 (BitVec.ofNat 32 (s.toNat / 16777216 % 256))
theorem byte_xor (k : Nat) (a b : W) : (a ^^^ b).toNat / 2 ^ k % 256 = (a.toNat / 2 ^ k % 256) ^^^ (b.toNat / 2 ^ k % 256) := by
  rw [BitVec.toNat_xor, show (256 : Nat) = 2 ^ 8 from rfl, ← Nat.xor_mod_two_pow, ← Nat.xor_div_two_pow]
theorem parts_eq (s : W) : parts s = Xn 32 s := by
  apply lin_ext parts (Xn 32) _ (Xn_xor 32) (by decide +kernel) s
  intro a b
  unfold parts
  have h0 := byte_xor 0 a b
  have h1 := byte_xor 8 a b
  have h2 := byte_xor 16 a b
  have h3 := byte_xor 24 a b
  simp only [Nat.reducePow, Nat.div_one] at h0 h1 h2 h3
  rw [h0, h1, h2, h3]
  simp only [ofNat_xor, Xn_xor]
  ac_rfl
theorem sum_own (s : W) : sum s (bytes4 s) = 0x2144DF1C#32 := by
  unfold sum bytes4
  simp only [reg]
  rw [reg4]
  have : ∀ p : W, p = Xn 32 s → ~~~(Xn 32 (~~~s) ^^^ p) = 0x2144DF1C#32 := by
    intro p hp
    rw [hp, ← Xn_xor, not_eq s, show s ^^^ 0xFFFFFFFF#32 ^^^ s = (s ^^^ s) ^^^ 0xFFFFFFFF#32 by ac_rfl, BitVec.xor_self]
    decide +kernel
  exact this _ (parts_eq s)

/-- one bit turned, the k-th of a row -/
theorem reg_set (l : List Nat) (i : Nat) (hi : i < l.length) (v : Nat) : ∀ r, reg r (l.set i (l.getD i 0 ^^^ v)) = reg r l ^^^ Xn (8 * (l.length - i)) (BitVec.ofNat 32 v) := by
  induction l generalizing i with
  | nil => simp at hi
  | cons c l ih =>
    intro r
    cases i with
    | zero =>
      simp only [List.set_cons_zero, reg, List.getD_cons_zero]
      rw [ofNat_xor, show r ^^^ (BitVec.ofNat 32 c ^^^ BitVec.ofNat 32 v) = (r ^^^ BitVec.ofNat 32 c) ^^^ BitVec.ofNat 32 v by ac_rfl, Xn_xor, reg_lin, ← Xn_add]
      congr 2; simp; omega
    | succ i =>
      simp only [List.set_cons_succ, reg, List.getD_cons_succ]
      rw [ih i (by simpa using hi)]
      congr 2; simp
theorem low_bit : ∀ j, j < 8 → Xn j (BitVec.ofNat 32 (2 ^ j)) = 1#32 := by decide +kernel
theorem bit_down : ∀ i, i < 32 → Xn i (bit i) = 1#32 := by decide +kernel
theorem reg_flip (l : List Nat) (k : Nat) (hk : k / 8 < l.length) (r : W) : reg r (l.set (k / 8) (l.getD (k / 8) 0 ^^^ 2 ^ (k % 8))) = reg r l ^^^ Xn (8 * l.length - k) 1#32 := by
  rw [reg_set _ _ hk, show 8 * (l.length - k / 8) = k % 8 + (8 * l.length - k) by omega, Xn_add, low_bit _ (Nat.mod_lt _ (by decide))]
/-- what is turned from a place on, so many bits of a word -/
def turned : Nat → W → Nat → List Nat → List Nat
  | 0, _, _, l => l
  | n + 1, t, at_, l => let m := turned n t at_ l; if t.getLsbD n then m.set ((at_ + n) / 8) (m.getD ((at_ + n) / 8) 0 ^^^ 2 ^ ((at_ + n) % 8)) else m
theorem turned_length (n : Nat) (t : W) (at_ : Nat) (l : List Nat) : (turned n t at_ l).length = l.length := by
  induction n with
  | zero => rfl
  | succ n ih => simp only [turned]; split <;> simp [ih]
theorem reg_turned (n : Nat) (hn : n ≤ 32) (t : W) (at_ : Nat) (l : List Nat) (h : at_ + 32 ≤ 8 * l.length) (r : W) :
    reg r (turned n t at_ l) = reg r l ^^^ Xn (8 * l.length - at_) (sumBits n t) := by
  induction n with
  | zero => simp [turned, sumBits, Xn_zero]
  | succ n ih =>
    simp only [turned, sumBits]
    cases ht : t.getLsbD n
    · simp only [Bool.false_eq_true, if_false, BitVec.xor_zero]; exact ih (by omega)
    · simp only [if_true]
      rw [reg_flip _ _ (by rw [turned_length]; omega), ih (by omega), turned_length, Xn_xor, BitVec.xor_assoc]
      congr 2
      rw [show 8 * l.length - at_ = n + (8 * l.length - (at_ + n)) by omega, Xn_add, bit_down n (by omega)]
theorem sum_turned (t : W) (ht : t ≠ 0#32) (at_ : Nat) (l : List Nat) (h : at_ + 32 ≤ 8 * l.length) (s : W) : sum s (turned 32 t at_ l) ≠ sum s l := by
  intro e
  unfold sum at e
  have e := congrArg (fun v => ~~~v) e
  simp only [BitVec.not_not] at e
  rw [reg_turned 32 (by omega) t at_ l h, sumBits_all] at e
  have := congrArg (fun v => reg (~~~s) l ^^^ v) e
  simp only [← BitVec.xor_assoc, BitVec.xor_self, BitVec.zero_xor] at this
  exact ht (Xn_inj _ _ this)
end Crc
