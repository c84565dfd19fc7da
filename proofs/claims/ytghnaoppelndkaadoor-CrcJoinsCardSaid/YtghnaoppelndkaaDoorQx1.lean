/- Laid by a program of this session's (wip/tools), out of Lean's print of the loaded functions. -/
import Derived.Test.YtghnaoppelndkaaDoorQx0
import Derived.Test.YtghnaoppelndkaaDoorHb
namespace Go.Proofs.YtghnaoppelndkaaDoor.Q
open Go.RowKit Go.Proofs.YtghnaoppelndkaaDoorW.PrintWords Go.Proofs.YtghnaoppelndkaaDoorW.PrintLast Go.Proofs.YtghnaoppelndkaaDoorW.PrintMore
attribute [local go_sem] max2_int min2_int max_two min_two max_three min_three max_four min_four   -- for this text's walks alone
set_option linter.unusedVariables false
set_option linter.unusedSimpArgs false

/-! ### crc_times: function 21 -/
def crc_times.l0 : Nat → Int → Int → Int → Option (Int)
  | 0, _, _, _ => none
  | k + 1, x0, x1, x5 => if x0 = 0 then (some x5) else (if (Go.bits .and .u32 x0 2147483648) = 0 then (if (Go.bits .and .u32 x1 1) = 0 then (crc_times.l0 k ((x0 * 2) % 4294967296) (x1 / 2) x5) else (crc_times.l0 k ((x0 * 2) % 4294967296) (Go.bits .xor .u32 (x1 / 2) 3988292384) x5)) else (if (Go.bits .and .u32 x1 1) = 0 then (crc_times.l0 k ((x0 * 2) % 4294967296) (x1 / 2) (Go.bits .xor .u32 x5 x1)) else (crc_times.l0 k ((x0 * 2) % 4294967296) (Go.bits .xor .u32 (x1 / 2) 3988292384) (Go.bits .xor .u32 x5 x1))))
def crc_times.f (k : Nat) (a0 : Int) (a1 : Int) : Option (Int) := crc_times.l0 k a0 a1 0
theorem crc_times.mono_l : ∀ k, (∀ y0 y1 y2, LeO (crc_times.l0 k y0 y1 y2) (crc_times.l0 (k + 1) y0 y1 y2))
  | 0 => fun _ _ _ r h => by simp [crc_times.l0] at h
  | k + 1 => by
    have ih0 := crc_times.mono_l k
    · intro y0 y1 y2
      unfold crc_times.l0
      repeat' first
      | (with_reducible exact ih0 _ _ _)
      | (with_reducible exact LeO.refl _)
      | (with_reducible exact LeO.none _)
      | (with_reducible refine LeO.ite ?_ ?_)
      | (with_reducible refine LeO.bind ?_ (fun _ => ?_))
      | exact ih0 _ _ _
      | exact LeO.none _
      | refine LeO.ite ?_ ?_
      | refine LeO.bind ?_ (fun _ => ?_)
theorem crc_times.mono : ∀ a0 a1 k, LeO (crc_times.f k a0 a1) (crc_times.f (k + 1) a0 a1) := by
  intro a0 a1 k
  have ih0 := crc_times.mono_l k
  unfold crc_times.f
  repeat' first
      | (with_reducible exact ih0 _ _ _)
      | (with_reducible exact LeO.refl _)
      | (with_reducible exact LeO.none _)
      | (with_reducible refine LeO.ite ?_ ?_)
      | (with_reducible refine LeO.bind ?_ (fun _ => ?_))
      | exact ih0 _ _ _
      | exact LeO.none _
      | refine LeO.ite ?_ ?_
      | refine LeO.bind ?_ (fun _ => ?_)
set_option maxHeartbeats 8000000 in
set_option maxRecDepth 100000 in
theorem crc_times.calls (k : Nat) (a0 : Int) (a1 : Int) (r : Int) (w : World) (h : crc_times.f k a0 a1 = some r) :
    Calls Tryd.prog 21 #[.int .u32 a0, .int .u32 a1] w fun e w' => e = .returned (.int .u32 r) ∧ Drawn0 w w' := by
  have H : (crc_times.l0 k a0 a1 0) = some r := h
  clear h
  have H' := Aside0.mk H
  clear H
  go_enter Tryd.func21, Tryd.ntmps21
  go_wp2
  go_loopg [0, 1, 5] k (fun kq v0 v1 v5 w' => ∃ (x0_1 : Int) (x1_1 : Int) (x5_1 : Int), v0 = .int .u32 x0_1 ∧ v1 = .int .u32 x1_1 ∧ v5 = .int .u32 x5_1 ∧ Aside0 (crc_times.l0 kq x0_1 x1_1 x5_1 = some r) ∧ Aside0 (kq ≤ k) ∧ Drawn0 w w')
  case atStart => exact ⟨(a0), (a1), (0), (by first | rfl | (simp; done) | (simp [*]; done)), (by first | rfl | (simp; done) | (simp [*]; done)), (by first | rfl | (simp; done) | (simp [*]; done)), H', ⟨Nat.le_refl _⟩, by repeat (first | exact Drawn0.refl _ | apply Drawn0.step)⟩
  case round =>
    clear H'
    try clear c2
    try clear p2
    obtain ⟨x0_1, x1_1, x5_1, rfl, rfl, rfl, HA, HK1, ⟨m1, rfl⟩⟩ := hrel
    cases gk with
    | zero => exact absurd HA.out (by simp [crc_times.l0])
    | succ k1 =>
      have H := HA.out
      clear HA
      simp only [crc_times.l0] at H
      by_cases c3 : x0_1 = 0
      · rw [if_pos c3] at H
        have c3b0 : (x0_1 == 0) = true := beq_iff_eq.mpr c3
        have c3b1 : (x0_1 != 0) = false := bne_eq_false_iff_eq.mpr c3
        clear c3
        obtain rfl := Option.some.inj H
        go_wp2
        go_ret
        exact ⟨by first | rfl | (simp; done) | (simp [*]; done), by repeat (first | exact Drawn0.refl _ | apply Drawn0.step)⟩
      · rw [if_neg c3] at H
        have c3b0 : (x0_1 == 0) = false := beq_eq_false_iff_ne.mpr c3
        have c3b1 : (x0_1 != 0) = true := bne_iff_ne.mpr c3
        by_cases c4 : (Go.bits .and .u32 x0_1 2147483648) = 0
        · rw [if_pos c4] at H
          have c4b0 : ((Go.bits .and .u32 x0_1 2147483648) == 0) = true := beq_iff_eq.mpr c4
          have c4b1 : ((Go.bits .and .u32 x0_1 2147483648) != 0) = false := bne_eq_false_iff_eq.mpr c4
          clear c4
          by_cases c5 : (Go.bits .and .u32 x1_1 1) = 0
          · rw [if_pos c5] at H
            have c5b0 : ((Go.bits .and .u32 x1_1 1) == 0) = true := beq_iff_eq.mpr c5
            have c5b1 : ((Go.bits .and .u32 x1_1 1) != 0) = false := bne_eq_false_iff_eq.mpr c5
            clear c5
            have H' := Aside0.mk H
            clear H
            go_wp2
            go_roundg k1
            case measure => have := HK1.out; omega
            case rel => exact ⟨((x0_1 * 2) % 4294967296), (x1_1 / 2), (x5_1), (by first | rfl | (simp; done) | (simp [*]; done)), (by first | rfl | (simp; done) | (simp [*]; done)), (by first | rfl | (simp; done) | (simp [*]; done)), H', ⟨by have := HK1.out; omega⟩, by repeat (first | exact Drawn0.refl _ | apply Drawn0.step)⟩
          · rw [if_neg c5] at H
            have c5b0 : ((Go.bits .and .u32 x1_1 1) == 0) = false := beq_eq_false_iff_ne.mpr c5
            have c5b1 : ((Go.bits .and .u32 x1_1 1) != 0) = true := bne_iff_ne.mpr c5
            have H' := Aside0.mk H
            clear H
            go_wp2
            go_roundg k1
            case measure => have := HK1.out; omega
            case rel => exact ⟨((x0_1 * 2) % 4294967296), (Go.bits .xor .u32 (x1_1 / 2) 3988292384), (x5_1), (by first | rfl | (simp; done) | (simp [*]; done)), (by first | rfl | (simp; done) | (simp [*]; done)), (by first | rfl | (simp; done) | (simp [*]; done)), H', ⟨by have := HK1.out; omega⟩, by repeat (first | exact Drawn0.refl _ | apply Drawn0.step)⟩
        · rw [if_neg c4] at H
          have c4b0 : ((Go.bits .and .u32 x0_1 2147483648) == 0) = false := beq_eq_false_iff_ne.mpr c4
          have c4b1 : ((Go.bits .and .u32 x0_1 2147483648) != 0) = true := bne_iff_ne.mpr c4
          by_cases c6 : (Go.bits .and .u32 x1_1 1) = 0
          · rw [if_pos c6] at H
            have c6b0 : ((Go.bits .and .u32 x1_1 1) == 0) = true := beq_iff_eq.mpr c6
            have c6b1 : ((Go.bits .and .u32 x1_1 1) != 0) = false := bne_eq_false_iff_eq.mpr c6
            clear c6
            have H' := Aside0.mk H
            clear H
            go_wp2
            go_roundg k1
            case measure => have := HK1.out; omega
            case rel => exact ⟨((x0_1 * 2) % 4294967296), (x1_1 / 2), (Go.bits .xor .u32 x5_1 x1_1), (by first | rfl | (simp; done) | (simp [*]; done)), (by first | rfl | (simp; done) | (simp [*]; done)), (by first | rfl | (simp; done) | (simp [*]; done)), H', ⟨by have := HK1.out; omega⟩, by repeat (first | exact Drawn0.refl _ | apply Drawn0.step)⟩
          · rw [if_neg c6] at H
            have c6b0 : ((Go.bits .and .u32 x1_1 1) == 0) = false := beq_eq_false_iff_ne.mpr c6
            have c6b1 : ((Go.bits .and .u32 x1_1 1) != 0) = true := bne_iff_ne.mpr c6
            have H' := Aside0.mk H
            clear H
            go_wp2
            go_roundg k1
            case measure => have := HK1.out; omega
            case rel => exact ⟨((x0_1 * 2) % 4294967296), (Go.bits .xor .u32 (x1_1 / 2) 3988292384), (Go.bits .xor .u32 x5_1 x1_1), (by first | rfl | (simp; done) | (simp [*]; done)), (by first | rfl | (simp; done) | (simp [*]; done)), (by first | rfl | (simp; done) | (simp [*]; done)), H', ⟨by have := HK1.out; omega⟩, by repeat (first | exact Drawn0.refl _ | apply Drawn0.step)⟩

/-! ### crc_power: function 22 -/
def crc_power.l0 : Nat → Int → Int → Int → Option (Int)
  | 0, _, _, _ => none
  | k + 1, x0, x3, x4 => if x0 > 0 then (if (Go.bits .and .i64 x0 1) = 0 then ((crc_times.f k x4 x4).bind fun t125 => (crc_power.l0 k (x0 / 2) x3 t125)) else ((crc_times.f k x3 x4).bind fun t126 => ((crc_times.f k x4 x4).bind fun t127 => (crc_power.l0 k (x0 / 2) t126 t127)))) else (some x3)
def crc_power.f (k : Nat) (a0 : Int) : Option (Int) := crc_power.l0 k a0 2147483648 8388608
theorem crc_power.mono_l : ∀ k, (∀ y0 y1 y2, LeO (crc_power.l0 k y0 y1 y2) (crc_power.l0 (k + 1) y0 y1 y2))
  | 0 => fun _ _ _ r h => by simp [crc_power.l0] at h
  | k + 1 => by
    have ih0 := crc_power.mono_l k
    · intro y0 y1 y2
      unfold crc_power.l0
      repeat' first
      | (with_reducible exact ih0 _ _ _)
      | (with_reducible exact crc_times.mono _ _ _)
      | (with_reducible exact LeO.refl _)
      | (with_reducible exact LeO.none _)
      | (with_reducible refine LeO.ite ?_ ?_)
      | (with_reducible refine LeO.bind ?_ (fun _ => ?_))
      | exact ih0 _ _ _
      | exact crc_times.mono _ _ _
      | exact LeO.none _
      | refine LeO.ite ?_ ?_
      | refine LeO.bind ?_ (fun _ => ?_)
theorem crc_power.mono : ∀ a0 k, LeO (crc_power.f k a0) (crc_power.f (k + 1) a0) := by
  intro a0 k
  have ih0 := crc_power.mono_l k
  unfold crc_power.f
  repeat' first
      | (with_reducible exact ih0 _ _ _)
      | (with_reducible exact crc_times.mono _ _ _)
      | (with_reducible exact LeO.refl _)
      | (with_reducible exact LeO.none _)
      | (with_reducible refine LeO.ite ?_ ?_)
      | (with_reducible refine LeO.bind ?_ (fun _ => ?_))
      | exact ih0 _ _ _
      | exact crc_times.mono _ _ _
      | exact LeO.none _
      | refine LeO.ite ?_ ?_
      | refine LeO.bind ?_ (fun _ => ?_)
set_option maxHeartbeats 8000000 in
set_option maxRecDepth 100000 in
theorem crc_power.calls (k : Nat) (a0 : Int) (r : Int) (w : World) (h : crc_power.f k a0 = some r) :
    Calls Tryd.prog 22 #[.int .i64 a0] w fun e w' => e = .returned (.int .u32 r) ∧ Drawn0 w w' := by
  have H : (crc_power.l0 k a0 2147483648 8388608) = some r := h
  clear h
  have H' := Aside0.mk H
  clear H
  go_enter Tryd.func22, Tryd.ntmps22
  go_wp2
  go_loopg [0, 3, 4] k (fun kq v0 v3 v4 w' => ∃ (x0_1 : Int) (x3_1 : Int) (x4_1 : Int), v0 = .int .i64 x0_1 ∧ v3 = .int .u32 x3_1 ∧ v4 = .int .u32 x4_1 ∧ Aside0 (crc_power.l0 kq x0_1 x3_1 x4_1 = some r) ∧ Aside0 (kq ≤ k) ∧ Drawn0 w w')
  case atStart => exact ⟨(a0), (2147483648), (8388608), (by first | rfl | (simp; done) | (simp [*]; done)), (by first | rfl | (simp; done) | (simp [*]; done)), (by first | rfl | (simp; done) | (simp [*]; done)), H', ⟨Nat.le_refl _⟩, by repeat (first | exact Drawn0.refl _ | apply Drawn0.step)⟩
  case round =>
    clear H'
    obtain ⟨x0_1, x3_1, x4_1, rfl, rfl, rfl, HA, HK1, ⟨m1, rfl⟩⟩ := hrel
    cases gk with
    | zero => exact absurd HA.out (by simp [crc_power.l0])
    | succ k1 =>
      have H := HA.out
      clear HA
      simp only [crc_power.l0] at H
      by_cases c2 : x0_1 > 0
      · rw [if_pos c2] at H
        have c2b0 : decide (0 < x0_1) = true := decide_eq_true c2
        clear c2
        by_cases c3 : (Go.bits .and .i64 x0_1 1) = 0
        · rw [if_pos c3] at H
          have c3b0 : ((Go.bits .and .i64 x0_1 1) == 0) = true := beq_iff_eq.mpr c3
          have c3b1 : ((Go.bits .and .i64 x0_1 1) != 0) = false := bne_eq_false_iff_eq.mpr c3
          clear c3
          replace H := Option.bind_eq_some_iff.mp H
          obtain ⟨t125, A40, H⟩ := H
          replace H : (crc_power.l0 k1 (x0_1 / 2) x3_1 t125) = some r := H
          have A4 := Aside0.mk A40
          clear A40
          have H' := Aside0.mk H
          clear H
          go_wp2_with (first | ((with_reducible refine gate_callee (f := 21) rfl ?_); refine goesL_ (some 17) rfl rfl Tryd.func21 (by kernel_rfl) rfl #[.int .u32 x4_1, .int .u32 x4_1] rfl (by (try simp only [List.map_toArray, List.map_cons, List.map_nil]); first | done | rfl | (simp only [List.length_drop, List.length_take]; rfl)) ?_; (with_reducible refine (crc_times.calls k1 x4_1 x4_1 t125 _ A4.out).mono ?_); rintro e w' ⟨rfl, ⟨nd, rfl⟩⟩; refine ⟨_, rfl, ?_⟩))
          go_roundg k1
          case measure => have := HK1.out; omega
          case rel => exact ⟨(x0_1 / 2), (x3_1), (t125), (by first | rfl | (simp; done) | (simp [*]; done)), (by first | rfl | (simp; done) | (simp [*]; done)), (by first | rfl | (simp; done) | (simp [*]; done)), H', ⟨by have := HK1.out; omega⟩, by repeat (first | exact Drawn0.refl _ | apply Drawn0.step)⟩
        · rw [if_neg c3] at H
          have c3b0 : ((Go.bits .and .i64 x0_1 1) == 0) = false := beq_eq_false_iff_ne.mpr c3
          have c3b1 : ((Go.bits .and .i64 x0_1 1) != 0) = true := bne_iff_ne.mpr c3
          replace H := Option.bind_eq_some_iff.mp H
          obtain ⟨t126, A50, H⟩ := H
          replace H : ((crc_times.f k1 x4_1 x4_1).bind fun t127 => (crc_power.l0 k1 (x0_1 / 2) t126 t127)) = some r := H
          have A5 := Aside0.mk A50
          clear A50
          replace H := Option.bind_eq_some_iff.mp H
          obtain ⟨t127, A60, H⟩ := H
          replace H : (crc_power.l0 k1 (x0_1 / 2) t126 t127) = some r := H
          have A6 := Aside0.mk A60
          clear A60
          have H' := Aside0.mk H
          clear H
          go_wp2_with (first | ((with_reducible refine gate_callee (f := 21) rfl ?_); refine goesL_ (some 14) rfl rfl Tryd.func21 (by kernel_rfl) rfl #[.int .u32 x3_1, .int .u32 x4_1] rfl (by (try simp only [List.map_toArray, List.map_cons, List.map_nil]); first | done | rfl | (simp only [List.length_drop, List.length_take]; rfl)) ?_; (with_reducible refine (crc_times.calls k1 x3_1 x4_1 t126 _ A5.out).mono ?_); rintro e w' ⟨rfl, ⟨nd, rfl⟩⟩; refine ⟨_, rfl, ?_⟩) | ((with_reducible refine gate_callee (f := 21) rfl ?_); refine goesL_ (some 17) rfl rfl Tryd.func21 (by kernel_rfl) rfl #[.int .u32 x4_1, .int .u32 x4_1] rfl (by (try simp only [List.map_toArray, List.map_cons, List.map_nil]); first | done | rfl | (simp only [List.length_drop, List.length_take]; rfl)) ?_; (with_reducible refine (crc_times.calls k1 x4_1 x4_1 t127 _ A6.out).mono ?_); rintro e w' ⟨rfl, ⟨nd, rfl⟩⟩; refine ⟨_, rfl, ?_⟩))
          go_roundg k1
          case measure => have := HK1.out; omega
          case rel => exact ⟨(x0_1 / 2), (t126), (t127), (by first | rfl | (simp; done) | (simp [*]; done)), (by first | rfl | (simp; done) | (simp [*]; done)), (by first | rfl | (simp; done) | (simp [*]; done)), H', ⟨by have := HK1.out; omega⟩, by repeat (first | exact Drawn0.refl _ | apply Drawn0.step)⟩
      · rw [if_neg c2] at H
        have c2b0 : decide (0 < x0_1) = false := decide_eq_false c2
        clear c2
        obtain rfl := Option.some.inj H
        go_wp2
        go_ret
        exact ⟨by first | rfl | (simp; done) | (simp [*]; done), by repeat (first | exact Drawn0.refl _ | apply Drawn0.step)⟩

/-! ### crc_held: function 23 -/
def crc_held.f (a0 : Int) : Option (Int) := some (mn (mx a0 0) 1099511627776)
set_option maxHeartbeats 8000000 in
set_option maxRecDepth 100000 in
theorem crc_held.calls (a0 : Int) (r : Int) (w : World) (h : crc_held.f a0 = some r) :
    Calls Tryd.prog 23 #[.int .i64 a0] w fun e w' => e = .returned (.int .i64 r) ∧ Below w.heap.size w w' := by
  have HB := Aside0.mk (Below.refl w.heap.size w)
  have H : (some (mn (mx a0 0) 1099511627776)) = some r := h
  clear h
  obtain ⟨ji2, hji2⟩ : ∃ j_ : Int, (mx a0 0) = j_ := ⟨_, rfl⟩
  replace H : (some (mn (ji2) 1099511627776)) = some r := by first | (rw [hji2] at H; exact H) | (simp only [hji2] at H ⊢; exact H)
  (try (have hji2l : 0 ≤ ji2 := by (rw [← hji2]; unfold mx; (repeat' split) <;> omega)))
  (try (have hji2m : 0 ≤ ji2 := by omega))
  have hji2_ : (if a0 < 0 then 0 else a0) = ji2 := hji2
  obtain ⟨ji3, hji3⟩ : ∃ j_ : Int, (mn (ji2) 1099511627776) = j_ := ⟨_, rfl⟩
  replace H : (some ji3) = some r := by first | (rw [hji3] at H; exact H) | (simp only [hji3] at H ⊢; exact H)
  have hji3_ : (if 1099511627776 < (ji2) then 1099511627776 else (ji2)) = ji3 := hji3
  obtain rfl := Option.some.inj H
  go_enter Tryd.func23, Tryd.ntmps23
  go_wp2
  go_ret
  exact ⟨by first | rfl | (simp [errW_none, errW_some] <;> rfl) | (simp only [← hji2, ← hji3]; first | rfl | (simp [errW_none, errW_some] <;> rfl)) | (simp [*, errW_none, errW_some] <;> rfl), by repeat (first | (with_reducible first | exact HB.out | apply below_alloc | apply pw_below_drewN | apply below_drew1) | exact HB.out)⟩

/-! ### crc_Join: function 17 -/
def crc_Join.f (k : Nat) (a0 : Int) (a1 : Int) (a2 : Int) : Option (Int) := (crc_held.f a2).bind fun t128 => ((crc_power.f k t128).bind fun t129 => ((crc_times.f k a0 t129).bind fun t130 => (some (Go.bits .xor .u32 t130 a1))))
theorem crc_Join.mono : ∀ a0 a1 a2 k, LeO (crc_Join.f k a0 a1 a2) (crc_Join.f (k + 1) a0 a1 a2) := by
  intro a0 a1 a2 k
  unfold crc_Join.f
  repeat' first
      | (with_reducible exact crc_power.mono _ _)
      | (with_reducible exact crc_times.mono _ _ _)
      | (with_reducible exact LeO.refl _)
      | (with_reducible exact LeO.none _)
      | (with_reducible refine LeO.ite ?_ ?_)
      | (with_reducible refine LeO.bind ?_ (fun _ => ?_))
      | exact crc_power.mono _ _
      | exact crc_times.mono _ _ _
      | exact LeO.none _
      | refine LeO.ite ?_ ?_
      | refine LeO.bind ?_ (fun _ => ?_)
set_option maxHeartbeats 8000000 in
set_option maxRecDepth 100000 in
theorem crc_Join.calls (k : Nat) (a0 : Int) (a1 : Int) (a2 : Int) (r : Int) (w : World) (h : crc_Join.f k a0 a1 a2 = some r) :
    Calls Tryd.prog 17 #[.int .u32 a0, .int .u32 a1, .int .i64 a2] w fun e w' => e = .returned (.int .u32 r) ∧ Below w.heap.size w w' := by
  have HB := Aside0.mk (Below.refl w.heap.size w)
  have H : ((crc_held.f a2).bind fun t128 => ((crc_power.f k t128).bind fun t129 => ((crc_times.f k a0 t129).bind fun t130 => (some (Go.bits .xor .u32 t130 a1))))) = some r := h
  clear h
  replace H := Option.bind_eq_some_iff.mp H
  obtain ⟨t128, A40, H⟩ := H
  replace H : ((crc_power.f k t128).bind fun t129 => ((crc_times.f k a0 t129).bind fun t130 => (some (Go.bits .xor .u32 t130 a1)))) = some r := H
  have A4 := Aside0.mk A40
  clear A40
  replace H := Option.bind_eq_some_iff.mp H
  obtain ⟨t129, A50, H⟩ := H
  replace H : ((crc_times.f k a0 t129).bind fun t130 => (some (Go.bits .xor .u32 t130 a1))) = some r := H
  have A5 := Aside0.mk A50
  clear A50
  replace H := Option.bind_eq_some_iff.mp H
  obtain ⟨t130, A60, H⟩ := H
  replace H : (some (Go.bits .xor .u32 t130 a1)) = some r := H
  have A6 := Aside0.mk A60
  clear A60
  obtain rfl := Option.some.inj H
  go_enter Tryd.func17, Tryd.ntmps17
  go_wp2_with (first | ((with_reducible refine gate_callee (f := 23) rfl ?_); refine goesL_ (some 9) rfl rfl Tryd.func23 (by kernel_rfl) rfl #[.int .i64 a2] rfl (by (try simp only [List.map_toArray, List.map_cons, List.map_nil]); first | done | rfl | (simp only [List.length_drop, List.length_take]; rfl)) ?_; (with_reducible refine (crc_held.calls a2 t128 _ A4.out).mono ?_); rintro e w7 ⟨rfl, hb⟩; refine ⟨_, rfl, ?_⟩; have n0_ := Aside0.mk (below_step (by repeat (first | (with_reducible first | exact HB.out | apply below_alloc | apply pw_below_drewN | apply below_drew1) | exact HB.out)) hb); clear HB; have HB := n0_; clear n0_; (try clear hb); (try clear hb2); (try clear hk); (try clear hi)) | ((with_reducible refine gate_callee (f := 22) rfl ?_); refine goesL_ (some 10) rfl rfl Tryd.func22 (by kernel_rfl) rfl #[.int .i64 t128] rfl (by (try simp only [List.map_toArray, List.map_cons, List.map_nil]); first | done | rfl | (simp only [List.length_drop, List.length_take]; rfl)) ?_; (with_reducible refine (crc_power.calls k t128 t129 _ A5.out).mono ?_); rintro e w' ⟨rfl, ⟨nd, rfl⟩⟩; refine ⟨_, rfl, ?_⟩) | ((with_reducible refine gate_callee (f := 21) rfl ?_); refine goesL_ (some 11) rfl rfl Tryd.func21 (by kernel_rfl) rfl #[.int .u32 a0, .int .u32 t129] rfl (by (try simp only [List.map_toArray, List.map_cons, List.map_nil]); first | done | rfl | (simp only [List.length_drop, List.length_take]; rfl)) ?_; (with_reducible refine (crc_times.calls k a0 t129 t130 _ A6.out).mono ?_); rintro e w' ⟨rfl, ⟨nd, rfl⟩⟩; refine ⟨_, rfl, ?_⟩))
  go_ret
  exact ⟨by first | rfl | (simp [errW_none, errW_some] <;> rfl) | (simp [*, errW_none, errW_some] <;> rfl), by repeat (first | (with_reducible first | exact HB.out | apply below_alloc | apply pw_below_drewN | apply below_drew1) | exact HB.out)⟩

/-! ### crc_Zeros: function 18 -/
def crc_Zeros.f (k : Nat) (a0 : Int) (a1 : Int) : Option (Int) := (crc_held.f a1).bind fun t131 => ((crc_power.f k t131).bind fun t132 => ((crc_times.f k (Go.bits .xor .u32 IntKind.u32.max a0) t132).bind fun t133 => (some (Go.bits .xor .u32 IntKind.u32.max t133))))
theorem crc_Zeros.mono : ∀ a0 a1 k, LeO (crc_Zeros.f k a0 a1) (crc_Zeros.f (k + 1) a0 a1) := by
  intro a0 a1 k
  unfold crc_Zeros.f
  repeat' first
      | (with_reducible exact crc_power.mono _ _)
      | (with_reducible exact crc_times.mono _ _ _)
      | (with_reducible exact LeO.refl _)
      | (with_reducible exact LeO.none _)
      | (with_reducible refine LeO.ite ?_ ?_)
      | (with_reducible refine LeO.bind ?_ (fun _ => ?_))
      | exact crc_power.mono _ _
      | exact crc_times.mono _ _ _
      | exact LeO.none _
      | refine LeO.ite ?_ ?_
      | refine LeO.bind ?_ (fun _ => ?_)
set_option maxHeartbeats 8000000 in
set_option maxRecDepth 100000 in
theorem crc_Zeros.calls (k : Nat) (a0 : Int) (a1 : Int) (r : Int) (w : World) (h : crc_Zeros.f k a0 a1 = some r) :
    Calls Tryd.prog 18 #[.int .u32 a0, .int .i64 a1] w fun e w' => e = .returned (.int .u32 r) ∧ Below w.heap.size w w' := by
  have HB := Aside0.mk (Below.refl w.heap.size w)
  have H : ((crc_held.f a1).bind fun t131 => ((crc_power.f k t131).bind fun t132 => ((crc_times.f k (Go.bits .xor .u32 IntKind.u32.max a0) t132).bind fun t133 => (some (Go.bits .xor .u32 IntKind.u32.max t133))))) = some r := h
  clear h
  replace H := Option.bind_eq_some_iff.mp H
  obtain ⟨t131, A30, H⟩ := H
  replace H : ((crc_power.f k t131).bind fun t132 => ((crc_times.f k (Go.bits .xor .u32 IntKind.u32.max a0) t132).bind fun t133 => (some (Go.bits .xor .u32 IntKind.u32.max t133)))) = some r := H
  have A3 := Aside0.mk A30
  clear A30
  replace H := Option.bind_eq_some_iff.mp H
  obtain ⟨t132, A40, H⟩ := H
  replace H : ((crc_times.f k (Go.bits .xor .u32 IntKind.u32.max a0) t132).bind fun t133 => (some (Go.bits .xor .u32 IntKind.u32.max t133))) = some r := H
  have A4 := Aside0.mk A40
  clear A40
  replace H := Option.bind_eq_some_iff.mp H
  obtain ⟨t133, A50, H⟩ := H
  replace H : (some (Go.bits .xor .u32 IntKind.u32.max t133)) = some r := H
  have A5 := Aside0.mk A50
  clear A50
  obtain rfl := Option.some.inj H
  go_enter Tryd.func18, Tryd.ntmps18
  go_wp2_with (first | ((with_reducible refine gate_callee (f := 23) rfl ?_); refine goesL_ (some 8) rfl rfl Tryd.func23 (by kernel_rfl) rfl #[.int .i64 a1] rfl (by (try simp only [List.map_toArray, List.map_cons, List.map_nil]); first | done | rfl | (simp only [List.length_drop, List.length_take]; rfl)) ?_; (with_reducible refine (crc_held.calls a1 t131 _ A3.out).mono ?_); rintro e w6 ⟨rfl, hb⟩; refine ⟨_, rfl, ?_⟩; have n0_ := Aside0.mk (below_step (by repeat (first | (with_reducible first | exact HB.out | apply below_alloc | apply pw_below_drewN | apply below_drew1) | exact HB.out)) hb); clear HB; have HB := n0_; clear n0_; (try clear hb); (try clear hb2); (try clear hk); (try clear hi)) | ((with_reducible refine gate_callee (f := 22) rfl ?_); refine goesL_ (some 9) rfl rfl Tryd.func22 (by kernel_rfl) rfl #[.int .i64 t131] rfl (by (try simp only [List.map_toArray, List.map_cons, List.map_nil]); first | done | rfl | (simp only [List.length_drop, List.length_take]; rfl)) ?_; (with_reducible refine (crc_power.calls k t131 t132 _ A4.out).mono ?_); rintro e w' ⟨rfl, ⟨nd, rfl⟩⟩; refine ⟨_, rfl, ?_⟩) | ((with_reducible refine gate_callee (f := 21) rfl ?_); refine goesL_ (some 10) rfl rfl Tryd.func21 (by kernel_rfl) rfl #[.int .u32 (Go.bits .xor .u32 IntKind.u32.max a0), .int .u32 t132] rfl (by (try simp only [List.map_toArray, List.map_cons, List.map_nil]); first | done | rfl | (simp only [List.length_drop, List.length_take]; rfl)) ?_; (with_reducible refine (crc_times.calls k (Go.bits .xor .u32 IntKind.u32.max a0) t132 t133 _ A5.out).mono ?_); rintro e w' ⟨rfl, ⟨nd, rfl⟩⟩; refine ⟨_, rfl, ?_⟩))
  go_ret
  exact ⟨by first | rfl | (simp [errW_none, errW_some] <;> rfl) | (simp [*, errW_none, errW_some] <;> rfl), by repeat (first | (with_reducible first | exact HB.out | apply below_alloc | apply pw_below_drewN | apply below_drew1) | exact HB.out)⟩

end Go.Proofs.YtghnaoppelndkaaDoor.Q
