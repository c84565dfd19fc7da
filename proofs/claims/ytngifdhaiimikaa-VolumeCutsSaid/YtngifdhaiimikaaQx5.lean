/- Laid by a program of this session's (wip/tools), out of Lean's print of the loaded functions. -/
import Derived.Test.YtngifdhaiimikaaQx0
namespace Go.Proofs.Ytngifdhaiimikaa.Q
open Go.RowKit Go.Proofs.YtngifdhaiimikaaW.PrintWords Go.Proofs.YtngifdhaiimikaaW.PrintLast Go.Proofs.YtngifdhaiimikaaW.PrintMore
attribute [local go_sem] max2_int min2_int max_two min_two max_three min_three max_four min_four   -- for this text's walks alone
set_option linter.unusedVariables false
set_option linter.unusedSimpArgs false

/-! ### footlockerlaw21_few: function 8 -/
def footlockerlaw21_few.l0 : Nat → List (List Int) → List (List Int) → Int → Int → Option (Bool)
  | 0, _, _, _, _ => none
  | k + 1, x0, x5, x6, x7 => if x7 < x6 then (if 0 ≤ x7 then (if x7 < (x5.length : Int) then (if ((rd_L2 x5 x7).length : Int) > 60 then (some false) else (footlockerlaw21_few.l0 k x0 x5 x6 (wrap64 (x7 + 1)))) else (none)) else (none)) else (some (decide ((x0.length : Int) ≤ 20)))
def footlockerlaw21_few.f (k : Nat) (l0 : List (List Int)) : Option (Bool) := footlockerlaw21_few.l0 k l0 l0 (l0.length : Int) 0
theorem footlockerlaw21_few.mono_l : ∀ k, (∀ y0 y1 y2 y3, LeO (footlockerlaw21_few.l0 k y0 y1 y2 y3) (footlockerlaw21_few.l0 (k + 1) y0 y1 y2 y3))
  | 0 => fun _ _ _ _ r h => by simp [footlockerlaw21_few.l0] at h
  | k + 1 => by
    have ih0 := footlockerlaw21_few.mono_l k
    · intro y0 y1 y2 y3
      unfold footlockerlaw21_few.l0
      repeat' first
      | (with_reducible exact ih0 _ _ _ _)
      | (with_reducible exact LeO.refl _)
      | (with_reducible exact LeO.none _)
      | (with_reducible refine LeO.ite ?_ ?_)
      | (with_reducible refine LeO.bind ?_ (fun _ => ?_))
      | exact ih0 _ _ _ _
      | exact LeO.none _
      | refine LeO.ite ?_ ?_
      | refine LeO.bind ?_ (fun _ => ?_)
theorem footlockerlaw21_few.mono : ∀ a0 k, LeO (footlockerlaw21_few.f k a0) (footlockerlaw21_few.f (k + 1) a0) := by
  intro a0 k
  have ih0 := footlockerlaw21_few.mono_l k
  unfold footlockerlaw21_few.f
  repeat' first
      | (with_reducible exact ih0 _ _ _ _)
      | (with_reducible exact LeO.refl _)
      | (with_reducible exact LeO.none _)
      | (with_reducible refine LeO.ite ?_ ?_)
      | (with_reducible refine LeO.bind ?_ (fun _ => ?_))
      | exact ih0 _ _ _ _
      | exact LeO.none _
      | refine LeO.ite ?_ ?_
      | refine LeO.bind ?_ (fun _ => ?_)
set_option maxHeartbeats 8000000 in
set_option maxRecDepth 100000 in
theorem footlockerlaw21_few.calls (k : Nat) (A0 : Option Addr) (c0 : Nat) (l0 : List (List Int)) (r : Bool) (w : World) (hr0 : Kd.C (Kd.slice 5 (Kd.int .u8)) w A0 l0.length l0) (hc0 : l0.length ≤ c0) (h : footlockerlaw21_few.f k l0 = some r) :
    Calls Try.prog 8 #[.slice A0 l0.length c0] w fun e w' => e = .returned (.bool r) ∧ Drawn0 w w' := by
  have HR0 := Aside0.mk hr0
  have HC0 := Aside0.mk hc0
  clear hr0 hc0
  have H : (footlockerlaw21_few.l0 k l0 l0 (l0.length : Int) 0) = some r := h
  clear h
  have H' := Aside0.mk H
  clear H
  go_enter Try.func8, Try.ntmps8
  go_wp2
  go_loopg [7] k (fun kq v7 w' => ∃ (x7_1 : Int), v7 = .int .i64 x7_1 ∧ Aside0 (footlockerlaw21_few.l0 kq l0 l0 (l0.length : Int) x7_1 = some r) ∧ Aside0 (kq ≤ k) ∧ Drawn0 w w')
  case atStart => exact ⟨(0), (by first | rfl | (simp; done) | (simp [*]; done)), H', ⟨Nat.le_refl _⟩, by repeat (first | exact Drawn0.refl _ | apply Drawn0.step)⟩
  case round =>
    clear H'
    obtain ⟨x7_1, rfl, HA, HK1, ⟨m1, rfl⟩⟩ := hrel
    cases gk with
    | zero => exact absurd HA.out (by simp [footlockerlaw21_few.l0])
    | succ k1 =>
      have H := HA.out
      clear HA
      simp only [footlockerlaw21_few.l0] at H
      by_cases c2 : x7_1 < (l0.length : Int)
      · rw [if_pos c2] at H
        have c2b0 : decide (x7_1 < (l0.length : Int)) = true := decide_eq_true c2
        clear c2
        by_cases c3 : 0 ≤ x7_1
        · rw [if_pos c3] at H
          have c3b0 : decide (0 ≤ x7_1) = true := decide_eq_true c3
          clear c3
          by_cases c4 : x7_1 < (l0.length : Int)
          · rw [if_pos c4] at H
            have c4b0 : decide (x7_1 < (l0.length : Int)) = true := decide_eq_true c4
            clear c4
            by_cases c5 : ((rd_L2 l0 x7_1).length : Int) > 60
            · rw [if_pos c5] at H
              have c5b0 : decide (60 < ((rd_L2 l0 x7_1).length : Int)) = true := decide_eq_true c5
              have c5b1 : decide (60 < (rd_L2 l0 x7_1).length) = true := decide_eq_true (by omega)
              clear c5
              obtain rfl := Option.some.inj H
              have p214 : 0 ≤ (x7_1 : Int) := of_decide_eq_true (by first | (with_reducible assumption) | assumption)
              have q214 : x7_1 < (l0.length : Int) := of_decide_eq_true (by first | (with_reducible assumption) | assumption)
              obtain ⟨ad214, A214_0, c214_0, e214, hx214_0, hl214_0, hi214_0⟩ := at_L2 HR0.out x7_1 p214 q214
              cases e214
              have HR214_0 := Aside0.mk hi214_0
              have HC214_0 := Aside0.mk hl214_0
              clear hi214_0 hl214_0
              replace p214 := eq_true p214
              replace q214 := eq_true q214
              go_wp2
              go_ret
              exact ⟨by first | rfl | (simp; done) | (simp [*]; done), by repeat (first | exact Drawn0.refl _ | apply Drawn0.step)⟩
            · rw [if_neg c5] at H
              have c5b0 : decide (60 < ((rd_L2 l0 x7_1).length : Int)) = false := decide_eq_false c5
              have c5b1 : decide (60 < (rd_L2 l0 x7_1).length) = false := decide_eq_false (by omega)
              clear c5
              have H' := Aside0.mk H
              clear H
              have p214 : 0 ≤ (x7_1 : Int) := of_decide_eq_true (by first | (with_reducible assumption) | assumption)
              have q214 : x7_1 < (l0.length : Int) := of_decide_eq_true (by first | (with_reducible assumption) | assumption)
              obtain ⟨ad214, A214_0, c214_0, e214, hx214_0, hl214_0, hi214_0⟩ := at_L2 HR0.out x7_1 p214 q214
              cases e214
              have HR214_0 := Aside0.mk hi214_0
              have HC214_0 := Aside0.mk hl214_0
              clear hi214_0 hl214_0
              replace p214 := eq_true p214
              replace q214 := eq_true q214
              go_wp2
              go_roundg k1
              case measure => have := HK1.out; omega
              case rel => exact ⟨(wrap64 (x7_1 + 1)), (by first | rfl | (simp; done) | (simp [*]; done)), H', ⟨by have := HK1.out; omega⟩, by repeat (first | exact Drawn0.refl _ | apply Drawn0.step)⟩
          · rw [if_neg c4] at H
            exact absurd H (by simp)
        · rw [if_neg c3] at H
          exact absurd H (by simp)
      · rw [if_neg c2] at H
        have c2b0 : decide (x7_1 < (l0.length : Int)) = false := decide_eq_false c2
        clear c2
        obtain rfl := Option.some.inj H
        go_wp2
        go_ret
        exact ⟨by first | rfl | (simp; done) | (simp [*]; done), by repeat (first | exact Drawn0.refl _ | apply Drawn0.step)⟩

/-! ### footlockerref21_Row: function 10 -/
mutual
def footlockerref21_Row.j0 : Nat → List (S27) → Int → Bool → Option ((List (List Int)) × Int)
  | 0, _, _, _ => none
  | k + 1, x0, x1, x15 => if x15 = true then (some (([] : List (List Int)), 1)) else (footlockerref21_Row.l0 k x0 x1 (([] : List (List Int))) 0)
def footlockerref21_Row.l0 : Nat → List (S27) → Int → List (List Int) → Int → Option ((List (List Int)) × Int)
  | 0, _, _, _, _ => none
  | k + 1, x0, x1, x6, x7 => if x7 < x1 then (if 0 ≤ x7 then (if x7 < (x0.length : Int) then (if ((rd_T27 x0 x7).f0 = true) then (if (((rd_T27 x0 x7).f1).length : Int) = 0 then (some (([] : List (List Int)), 20)) else (if x6.length < 5864062014805 then (footlockerref21_Row.l0 k x0 x1 (x6 ++ [(rd_T27 x0 x7).f1]) (wrap64 (x7 + 1))) else (none))) else (some (([] : List (List Int)), 52))) else (none)) else (none)) else (some (x6, 0))
end
def footlockerref21_Row.f (k : Nat) (l0 : List (S27)) (a1 : Int) : Option ((List (List Int)) × Int) := if a1 < 1 then (footlockerref21_Row.j0 k l0 a1 true) else (footlockerref21_Row.j0 k l0 a1 (decide (a1 > (l0.length : Int))))
theorem footlockerref21_Row.mono_l : ∀ k, (∀ y0 y1 y2, LeO (footlockerref21_Row.j0 k y0 y1 y2) (footlockerref21_Row.j0 (k + 1) y0 y1 y2)) ∧ (∀ y0 y1 y2 y3, LeO (footlockerref21_Row.l0 k y0 y1 y2 y3) (footlockerref21_Row.l0 (k + 1) y0 y1 y2 y3))
  | 0 => ⟨fun _ _ _ r h => by simp [footlockerref21_Row.j0] at h, fun _ _ _ _ r h => by simp [footlockerref21_Row.l0] at h⟩
  | k + 1 => by
    obtain ⟨ih0, ih1⟩ := footlockerref21_Row.mono_l k
    refine ⟨?_, ?_⟩
    · intro y0 y1 y2
      unfold footlockerref21_Row.j0
      repeat' first
      | (with_reducible exact ih0 _ _ _)
      | (with_reducible exact ih1 _ _ _ _)
      | (with_reducible exact LeO.refl _)
      | (with_reducible exact LeO.none _)
      | (with_reducible refine LeO.ite ?_ ?_)
      | (with_reducible refine LeO.bind ?_ (fun _ => ?_))
      | exact ih0 _ _ _
      | exact ih1 _ _ _ _
      | exact LeO.none _
      | refine LeO.ite ?_ ?_
      | refine LeO.bind ?_ (fun _ => ?_)
    · intro y0 y1 y2 y3
      unfold footlockerref21_Row.l0
      repeat' first
      | (with_reducible exact ih0 _ _ _)
      | (with_reducible exact ih1 _ _ _ _)
      | (with_reducible exact LeO.refl _)
      | (with_reducible exact LeO.none _)
      | (with_reducible refine LeO.ite ?_ ?_)
      | (with_reducible refine LeO.bind ?_ (fun _ => ?_))
      | exact ih0 _ _ _
      | exact ih1 _ _ _ _
      | exact LeO.none _
      | refine LeO.ite ?_ ?_
      | refine LeO.bind ?_ (fun _ => ?_)
theorem footlockerref21_Row.mono : ∀ a0 a1 k, LeO (footlockerref21_Row.f k a0 a1) (footlockerref21_Row.f (k + 1) a0 a1) := by
  intro a0 a1 k
  obtain ⟨ih0, ih1⟩ := footlockerref21_Row.mono_l k
  unfold footlockerref21_Row.f
  repeat' first
      | (with_reducible exact ih0 _ _ _)
      | (with_reducible exact ih1 _ _ _ _)
      | (with_reducible exact LeO.refl _)
      | (with_reducible exact LeO.none _)
      | (with_reducible refine LeO.ite ?_ ?_)
      | (with_reducible refine LeO.bind ?_ (fun _ => ?_))
      | exact ih0 _ _ _
      | exact ih1 _ _ _ _
      | exact LeO.none _
      | refine LeO.ite ?_ ?_
      | refine LeO.bind ?_ (fun _ => ?_)
set_option maxHeartbeats 8000000 in
set_option maxRecDepth 100000 in
theorem footlockerref21_Row.calls (k : Nat) (P0_ : Nat → Prop) (A0 : Option Addr) (c0 : Nat) (l0 : List (S27)) (a1 : Int) (r1 : List (List Int)) (r2 : Int) (w : World) (hs0 : Kd.V k27 27 w w.heap.size (fun k_ => P0_ k_) (.slice A0 l0.length c0) l0) (h : footlockerref21_Row.f k l0 a1 = some (r1, r2)) :
    Calls Try.prog 10 #[.slice A0 l0.length c0, .int .i64 a1] w fun e w' => ∃ v0_ : Value, e = .returned (.tuple #[v0_, .int .i64 r2]) ∧ Kd.N (Kd.slice 5 (Kd.int .u8)) 25 w' w.heap.size (fun k_ => (P0_ k_ ∨ w.heap.size ≤ k_)) v0_ r1 ∧ Below w.heap.size w w' := by
  have HO0 := Aside0.mk (show Kd.V k27 27 w w.heap.size (fun k_ => (P0_ k_ ∨ w.heap.size ≤ k_)) (.slice A0 l0.length c0) l0 from Kd.V_mono hs0 (fun k_ hk => .inl hk))
  have HB := Aside0.mk (Below.refl w.heap.size w)
  have H : (if a1 < 1 then (footlockerref21_Row.j0 k l0 a1 true) else (footlockerref21_Row.j0 k l0 a1 (decide (a1 > (l0.length : Int))))) = some (r1, r2) := h
  clear h
  have HC3 := Aside0.mk H
  clear H
  go_enter Try.func10, Try.ntmps10
  go_upto_region 1 with (fail)
  go_cut [15] (fun v15 wc => ∃ (kq : Nat) (x15_2 : Bool), v15 = .bool x15_2 ∧ Aside0 (footlockerref21_Row.j0 kq l0 a1 x15_2 = some (r1, r2)) ∧ Aside0 (kq ≤ k) ∧ Aside0 (Kd.V k27 27 wc w.heap.size (fun k_ => (P0_ k_ ∨ w.heap.size ≤ k_)) (.slice A0 l0.length c0) l0) ∧ Aside0 (Below w.heap.size w wc))
  case first =>
    have H := HC3.out
    clear HC3
    by_cases c4 : a1 < 1
    · rw [if_pos c4] at H
      have c4b0 : decide (a1 < 1) = true := decide_eq_true c4
      clear c4
      (first | rw [c4b0] | (simp only [i64_w, i32_w]; rw [c4b0]) | skip)
      have H' := Aside0.mk H
      clear H
      go_wp2
      go_meet
      case rel => exact ⟨_, (true), (by first | rfl | (simp; done) | (simp [*]; done)), H', ⟨by first | omega | exact Nat.le_refl _⟩, ⟨by (with_reducible repeat (first | apply Kd.V_alloc | apply Kd.V_drewN | apply Kd.V_drew)); exact HO0.out⟩, ⟨by repeat (first | (with_reducible first | exact HB.out | apply below_alloc | apply pw_below_drewN | apply below_drew1) | exact HB.out)⟩⟩
    · rw [if_neg c4] at H
      have c4b0 : decide (a1 < 1) = false := decide_eq_false c4
      clear c4
      (first | rw [c4b0] | (simp only [i64_w, i32_w]; rw [c4b0]) | skip)
      have H' := Aside0.mk H
      clear H
      go_wp2
      go_meet
      case rel => exact ⟨_, (decide (a1 > (l0.length : Int))), (by first | rfl | (simp; done) | (simp [*]; done)), H', ⟨by first | omega | exact Nat.le_refl _⟩, ⟨by (with_reducible repeat (first | apply Kd.V_alloc | apply Kd.V_drewN | apply Kd.V_drew)); exact HO0.out⟩, ⟨by repeat (first | (with_reducible first | exact HB.out | apply below_alloc | apply pw_below_drewN | apply below_drew1) | exact HB.out)⟩⟩
  case rest =>
    clear HC3
    try clear c1
    try clear p2
    try clear c4
    try clear c4b0
    obtain ⟨kq, x15_2, rfl, HA, HJ2, HO_0, HB⟩ := hcut
    cases kq with
    | zero => exact absurd HA.out (by simp [footlockerref21_Row.j0])
    | succ kj2 =>
      have H := HA.out
      clear HA
      simp only [footlockerref21_Row.j0] at H
      by_cases c5 : x15_2 = true
      · subst c5
        have H1 : (some (([] : List (List Int)), 1)) = some (r1, r2) := by rw [if_pos rfl] at H; exact H
        clear H
        have H := H1
        clear H1
        simp only [Option.some.injEq, Prod.mk.injEq] at H
        obtain ⟨rfl, rfl⟩ := H
        go_wp2
        go_ret2
        exact ⟨_, by first | rfl | (simp [errW_none, errW_some] <;> rfl) | (simp [*, errW_none, errW_some] <;> rfl), by first | exact Kd.S_nil _ _ _ _ _ | exact Kd.N_nil _ _ _ _ _ | exact Kd.V_nil _ _ _ _ _ | exact Kd.Q_nil _ _ _ _ _ | exact Kd.R_nil _ _ _ _ _, by repeat (first | (with_reducible first | exact HB.out | apply below_alloc | apply pw_below_drewN | apply below_drew1) | exact HB.out)⟩
      · replace c5 := Bool.eq_false_iff.mpr c5
        subst c5
        have H1 : (footlockerref21_Row.l0 kj2 l0 a1 (([] : List (List Int))) 0) = some (r1, r2) := by rw [if_neg (show ¬ (false = true) by decide)] at H; exact H
        clear H
        have H := H1
        clear H1
        obtain ⟨y215, hy215⟩ : ∃ y_ : List (List Int), y_ = (([] : List (List Int))) := ⟨_, rfl⟩
        replace H : (footlockerref21_Row.l0 kj2 l0 a1 y215 0) = some (r1, r2) := by first | (rw [hy215]; with_reducible exact H) | (have H2_ := (Option.bind_some _ _).symm.trans H; rw [hy215]; with_reducible exact H2_) | (have H2_ := (Option.bind_some _ _).symm.trans H; with_reducible exact H2_) | with_reducible exact H | (rw [hy215]; exact H) | exact H
        have Ny215 := Aside0.mk hy215
        clear hy215
        have H' := Aside0.mk H
        clear H
        go_wp2_with (first | ((with_reducible refine gate_dst (N := 16) rfl ?_); (try (refine gate_guard (by rfl) ?_; dsimp only)); refine Kd.N_lit (Kd.slice 5 (Kd.int .u8)) _ 25 ?hg (N' := 16) ?hd (xs := ([] : List (List Int))) (inner := []) (ok := (fun k_ => (P0_ k_ ∨ w.heap.size ≤ k_))) (okp := (fun k_ => (P0_ k_ ∨ w.heap.size ≤ k_))) ?hr ?hp (fun _ hk => hk) ((show ∀ k_, wc.heap.size ≤ k_ → (fun k_ => (P0_ k_ ∨ w.heap.size ≤ k_)) k_ from fun k_ hk => (.inr (Nat.le_trans (below_size (by repeat (first | (with_reducible first | exact HB.out | apply below_alloc | apply pw_below_drewN | apply below_drew1) | exact HB.out))) hk))) _ (Nat.le_refl _)) (Below.refl _ _) (Nat.le_refl _) (by simp) ?_; (case hd => rfl); (case hg => rfl); (case hr => first | (go_simp; done) | (go_simp; rfl)); (case hp => exact (Reps.none _ _)); intro v216 w6 ho7 hb hg_ hnew_; clear hg_ hnew_; (first | rw [← Ny215.out] at ho7 | (simp only [Int.reduceToNat] at ho7; rw [← Ny215.out] at ho7)); have n0_ := Aside0.mk (Kd.V_elder' (by (with_reducible repeat (first | apply Kd.V_alloc | apply Kd.V_drewN | apply Kd.V_drew)); exact HO_0.out) (Kd.N_base ho7) hb); have n1_ := Aside0.mk (Kd.N_lower ho7 (below_size (by repeat (first | (with_reducible first | exact HB.out | apply below_alloc | apply pw_below_drewN | apply below_drew1) | exact HB.out)))); have n2_ := Aside0.mk (below_step (by repeat (first | (with_reducible first | exact HB.out | apply below_alloc | apply pw_below_drewN | apply below_drew1) | exact HB.out)) hb); clear HO_0; clear HB; have HO_0 := n0_; have HO217 := n1_; have HB := n2_; clear n0_ n1_ n2_; clear hb ho7))
        go_loopg [6, 7] kj2 (fun kq v6 v7 w' => ∃ (x6_2 : List (List Int)) (x7_2 : Int), v7 = .int .i64 x7_2 ∧ Aside0 (footlockerref21_Row.l0 kq l0 a1 x6_2 x7_2 = some (r1, r2)) ∧ Aside0 (kq ≤ kj2) ∧ Aside0 (Kd.V k27 27 w' w.heap.size (fun k_ => (P0_ k_ ∨ w.heap.size ≤ k_) ∧ some k_ ≠ (v6 : Value).ownBlock) (.slice A0 l0.length c0) l0) ∧ Aside0 (Kd.N (Kd.slice 5 (Kd.int .u8)) 25 w' w.heap.size (fun k_ => (P0_ k_ ∨ w.heap.size ≤ k_)) v6 x6_2) ∧ Aside0 (Below w.heap.size w w'))
        case atStart => exact ⟨(y215), (0), (by first | rfl | (simp; done) | (simp [*]; done)), H', ⟨Nat.le_refl _⟩, ⟨by (with_reducible repeat (first | apply Kd.V_alloc | apply Kd.V_drewN | apply Kd.V_drew)); exact HO_0.out⟩, ⟨by (with_reducible repeat (first | apply Kd.N_alloc | apply Kd.N_drewN | apply Kd.N_drew)); exact HO217.out⟩, ⟨by repeat (first | (with_reducible first | exact HB.out | apply below_alloc | apply pw_below_drewN | apply below_drew1) | exact HB.out)⟩⟩
        case round =>
          clear H'
          try clear c1
          try clear p2
          try clear c4
          try clear c4b0
          try clear c5
          try clear p2
          obtain ⟨x6_2, x7_2, rfl, HA, HK2, HO_0, HO_6, HB⟩ := hrel
          cases gk with
          | zero => exact absurd HA.out (by simp [footlockerref21_Row.l0])
          | succ k2 =>
            have H := HA.out
            clear HA
            simp only [footlockerref21_Row.l0] at H
            by_cases c8 : x7_2 < a1
            · rw [if_pos c8] at H
              have c8b0 : decide (x7_2 < a1) = true := decide_eq_true c8
              clear c8
              by_cases c9 : 0 ≤ x7_2
              · rw [if_pos c9] at H
                have c9b0 : decide (0 ≤ x7_2) = true := decide_eq_true c9
                clear c9
                by_cases c10 : x7_2 < (l0.length : Int)
                · rw [if_pos c10] at H
                  have c10b0 : decide (x7_2 < (l0.length : Int)) = true := decide_eq_true c10
                  clear c10
                  obtain ⟨bq11, hbq11⟩ : ∃ b_ : Bool, b_ = ((rd_T27 l0 x7_2).f0) := ⟨_, rfl⟩
                  replace H : (if (bq11 = true) then (if (((rd_T27 l0 x7_2).f1).length : Int) = 0 then (some (([] : List (List Int)), 20)) else (if x6_2.length < 5864062014805 then (footlockerref21_Row.l0 k2 l0 a1 (x6_2 ++ [(rd_T27 l0 x7_2).f1]) (wrap64 (x7_2 + 1))) else (none))) else (some (([] : List (List Int)), 52))) = some (r1, r2) := by rw [← hbq11] at H; exact H
                  (try rw [← hbq11] at c9b0)
                  (try rw [← hbq11] at c10b0)
                  have Nbq11 := Aside0.mk hbq11
                  clear hbq11
                  by_cases c12 : (bq11 = true)
                  · subst c12
                    have H1 : (if (((rd_T27 l0 x7_2).f1).length : Int) = 0 then (some (([] : List (List Int)), 20)) else (if x6_2.length < 5864062014805 then (footlockerref21_Row.l0 k2 l0 a1 (x6_2 ++ [(rd_T27 l0 x7_2).f1]) (wrap64 (x7_2 + 1))) else (none))) = some (r1, r2) := by rw [if_pos rfl] at H; exact H
                    clear H
                    have H := H1
                    clear H1
                    by_cases c13 : (((rd_T27 l0 x7_2).f1).length : Int) = 0
                    · rw [if_pos c13] at H
                      have c13b0 : ((((rd_T27 l0 x7_2).f1).length : Int) == 0) = true := beq_iff_eq.mpr c13
                      have c13b1 : ((((rd_T27 l0 x7_2).f1).length : Int) != 0) = false := bne_eq_false_iff_eq.mpr c13
                      clear c13
                      simp only [Option.some.injEq, Prod.mk.injEq] at H
                      obtain ⟨rfl, rfl⟩ := H
                      have p218 : 0 ≤ (x7_2 : Int) := of_decide_eq_true (by first | (with_reducible assumption) | assumption)
                      have q218 : x7_2 < (l0.length : Int) := of_decide_eq_true (by first | (with_reducible assumption) | assumption)
                      obtain ⟨ad218, A218_1, c218_1, e218, hx218_0, hx218_1, hl218_1, hi218_1⟩ := at_T27 (Kd.V_reads' HO_0.out).2.2 x7_2 p218 q218
                      (try rw [← Nbq11.out] at hx218_0); (try rw [← Nbq11.out] at hw218_0)
                      cases e218
                      obtain ⟨ce218, hce218, hMe218, hcc218⟩ := Kd.V_get HO_0.out z27 x7_2 p218 (by first | exact q218 | exact of_decide_eq_true (by first | (with_reducible assumption) | assumption) | (have e_ := (Kd.V_reads' HO_0.out).1; omega))
                      obtain ⟨ua218_1, uc218_1, rfl, ul218_1, ge218_1⟩ := k27_openF hMe218
                      have hv218_1 := hcc218 1 _ rfl
                      rw [add_field _ _ 1 (by omega)] at hv218_1
                      replace hv218_1 := Option.some.inj (hv218_1.symm.trans hx218_1)
                      injection hv218_1 with hva_ hvn_ hvc_
                      rw [hva_] at ge218_1
                      rw [hvc_] at ul218_1
                      have HL218_1 := Aside0.mk (show Kd.V (Kd.int .u8) 5 _ w.heap.size _ _ ((rd_T27 l0 x7_2).f1) from Kd.V_mk ul218_1 ge218_1)
                      clear hva_ hvn_ hvc_ ge218_1 ul218_1
                      clear hcc218 hce218
                      have HR218_1 := Aside0.mk hi218_1
                      have HC218_1 := Aside0.mk hl218_1
                      clear hi218_1 hl218_1
                      replace p218 := eq_true p218
                      replace q218 := eq_true q218
                      have p219 : 0 ≤ (x7_2 : Int) := of_decide_eq_true (by first | (with_reducible assumption) | assumption)
                      have q219 : x7_2 < (l0.length : Int) := of_decide_eq_true (by first | (with_reducible assumption) | assumption)
                      obtain ⟨ad219, A219_1, c219_1, e219, hx219_0, hx219_1, hl219_1, hi219_1⟩ := at_T27 (Kd.V_reads' HO_0.out).2.2 x7_2 p219 q219
                      (try rw [← Nbq11.out] at hx219_0); (try rw [← Nbq11.out] at hw219_0)
                      obtain rfl : ad218 = ad219 := (by injection e219)
                      obtain ⟨ce219, hce219, hMe219, hcc219⟩ := Kd.V_get HO_0.out z27 x7_2 p219 (by first | exact q219 | exact of_decide_eq_true (by first | (with_reducible assumption) | assumption) | (have e_ := (Kd.V_reads' HO_0.out).1; omega))
                      obtain ⟨ua219_1, uc219_1, rfl, ul219_1, ge219_1⟩ := k27_openF hMe219
                      have hv219_1 := hcc219 1 _ rfl
                      rw [add_field _ _ 1 (by omega)] at hv219_1
                      replace hv219_1 := Option.some.inj (hv219_1.symm.trans hx219_1)
                      injection hv219_1 with hva_ hvn_ hvc_
                      rw [hva_] at ge219_1
                      rw [hvc_] at ul219_1
                      have HL219_1 := Aside0.mk (show Kd.V (Kd.int .u8) 5 _ w.heap.size _ _ ((rd_T27 l0 x7_2).f1) from Kd.V_mk ul219_1 ge219_1)
                      clear hva_ hvn_ hvc_ ge219_1 ul219_1
                      clear hcc219 hce219
                      have HR219_1 := Aside0.mk hi219_1
                      have HC219_1 := Aside0.mk hl219_1
                      clear hi219_1 hl219_1
                      replace p219 := eq_true p219
                      replace q219 := eq_true q219
                      have ea_ := Option.some.inj (hx218_1.symm.trans hx219_1)
                      injection ea_ with ea_ en_ ec_
                      subst ea_
                      subst ec_
                      clear en_
                      go_wp2
                      go_ret2
                      exact ⟨_, by first | rfl | (simp [errW_none, errW_some] <;> rfl) | (simp [*, errW_none, errW_some] <;> rfl), by first | exact Kd.S_nil _ _ _ _ _ | exact Kd.N_nil _ _ _ _ _ | exact Kd.V_nil _ _ _ _ _ | exact Kd.Q_nil _ _ _ _ _ | exact Kd.R_nil _ _ _ _ _, by repeat (first | (with_reducible first | exact HB.out | apply below_alloc | apply pw_below_drewN | apply below_drew1) | exact HB.out)⟩
                    · rw [if_neg c13] at H
                      have c13b0 : ((((rd_T27 l0 x7_2).f1).length : Int) == 0) = false := beq_eq_false_iff_ne.mpr c13
                      have c13b1 : ((((rd_T27 l0 x7_2).f1).length : Int) != 0) = true := bne_iff_ne.mpr c13
                      have c13b2 : ¬ (((rd_T27 l0 x7_2).f1) = []) := fun h_ => c13 (by rw [h_]; rfl)
                      by_cases c14 : x6_2.length < 5864062014805
                      · rw [if_pos c14] at H
                        have LMc14 := Aside0.mk c14
                        clear c14
                        obtain ⟨y221, hy221⟩ : ∃ y_ : List (List Int), y_ = (x6_2 ++ [(rd_T27 l0 x7_2).f1]) := ⟨_, rfl⟩
                        replace H : (footlockerref21_Row.l0 k2 l0 a1 y221 (wrap64 (x7_2 + 1))) = some (r1, r2) := by first | (rw [hy221]; with_reducible exact H) | (have H2_ := (Option.bind_some _ _).symm.trans H; rw [hy221]; with_reducible exact H2_) | (have H2_ := (Option.bind_some _ _).symm.trans H; with_reducible exact H2_) | with_reducible exact H | (rw [hy221]; exact H) | exact H
                        have Ny221 := Aside0.mk hy221
                        clear hy221
                        have H' := Aside0.mk H
                        clear H
                        have p218 : 0 ≤ (x7_2 : Int) := of_decide_eq_true (by first | (with_reducible assumption) | assumption)
                        have q218 : x7_2 < (l0.length : Int) := of_decide_eq_true (by first | (with_reducible assumption) | assumption)
                        obtain ⟨ad218, A218_1, c218_1, e218, hx218_0, hx218_1, hl218_1, hi218_1⟩ := at_T27 (Kd.V_reads' HO_0.out).2.2 x7_2 p218 q218
                        (try rw [← Nbq11.out] at hx218_0); (try rw [← Nbq11.out] at hw218_0)
                        cases e218
                        obtain ⟨ce218, hce218, hMe218, hcc218⟩ := Kd.V_get HO_0.out z27 x7_2 p218 (by first | exact q218 | exact of_decide_eq_true (by first | (with_reducible assumption) | assumption) | (have e_ := (Kd.V_reads' HO_0.out).1; omega))
                        obtain ⟨ua218_1, uc218_1, rfl, ul218_1, ge218_1⟩ := k27_openF hMe218
                        have hv218_1 := hcc218 1 _ rfl
                        rw [add_field _ _ 1 (by omega)] at hv218_1
                        replace hv218_1 := Option.some.inj (hv218_1.symm.trans hx218_1)
                        injection hv218_1 with hva_ hvn_ hvc_
                        rw [hva_] at ge218_1
                        rw [hvc_] at ul218_1
                        have HL218_1 := Aside0.mk (show Kd.V (Kd.int .u8) 5 _ w.heap.size _ _ ((rd_T27 l0 x7_2).f1) from Kd.V_mk ul218_1 ge218_1)
                        clear hva_ hvn_ hvc_ ge218_1 ul218_1
                        clear hcc218 hce218
                        have HR218_1 := Aside0.mk hi218_1
                        have HC218_1 := Aside0.mk hl218_1
                        clear hi218_1 hl218_1
                        replace p218 := eq_true p218
                        replace q218 := eq_true q218
                        have p219 : 0 ≤ (x7_2 : Int) := of_decide_eq_true (by first | (with_reducible assumption) | assumption)
                        have q219 : x7_2 < (l0.length : Int) := of_decide_eq_true (by first | (with_reducible assumption) | assumption)
                        obtain ⟨ad219, A219_1, c219_1, e219, hx219_0, hx219_1, hl219_1, hi219_1⟩ := at_T27 (Kd.V_reads' HO_0.out).2.2 x7_2 p219 q219
                        (try rw [← Nbq11.out] at hx219_0); (try rw [← Nbq11.out] at hw219_0)
                        obtain rfl : ad218 = ad219 := (by injection e219)
                        obtain ⟨ce219, hce219, hMe219, hcc219⟩ := Kd.V_get HO_0.out z27 x7_2 p219 (by first | exact q219 | exact of_decide_eq_true (by first | (with_reducible assumption) | assumption) | (have e_ := (Kd.V_reads' HO_0.out).1; omega))
                        obtain ⟨ua219_1, uc219_1, rfl, ul219_1, ge219_1⟩ := k27_openF hMe219
                        have hv219_1 := hcc219 1 _ rfl
                        rw [add_field _ _ 1 (by omega)] at hv219_1
                        replace hv219_1 := Option.some.inj (hv219_1.symm.trans hx219_1)
                        injection hv219_1 with hva_ hvn_ hvc_
                        rw [hva_] at ge219_1
                        rw [hvc_] at ul219_1
                        have HL219_1 := Aside0.mk (show Kd.V (Kd.int .u8) 5 _ w.heap.size _ _ ((rd_T27 l0 x7_2).f1) from Kd.V_mk ul219_1 ge219_1)
                        clear hva_ hvn_ hvc_ ge219_1 ul219_1
                        clear hcc219 hce219
                        have HR219_1 := Aside0.mk hi219_1
                        have HC219_1 := Aside0.mk hl219_1
                        clear hi219_1 hl219_1
                        replace p219 := eq_true p219
                        replace q219 := eq_true q219
                        have ea_ := Option.some.inj (hx218_1.symm.trans hx219_1)
                        injection ea_ with ea_ en_ ec_
                        subst ea_
                        subst ec_
                        clear en_
                        have p220 : 0 ≤ (x7_2 : Int) := of_decide_eq_true (by first | (with_reducible assumption) | assumption)
                        have q220 : x7_2 < (l0.length : Int) := of_decide_eq_true (by first | (with_reducible assumption) | assumption)
                        obtain ⟨ad220, A220_1, c220_1, e220, hx220_0, hx220_1, hl220_1, hi220_1⟩ := at_T27 (Kd.V_reads' HO_0.out).2.2 x7_2 p220 q220
                        (try rw [← Nbq11.out] at hx220_0); (try rw [← Nbq11.out] at hw220_0)
                        obtain rfl : ad218 = ad220 := (by injection e220)
                        obtain ⟨ce220, hce220, hMe220, hcc220⟩ := Kd.V_get HO_0.out z27 x7_2 p220 (by first | exact q220 | exact of_decide_eq_true (by first | (with_reducible assumption) | assumption) | (have e_ := (Kd.V_reads' HO_0.out).1; omega))
                        obtain ⟨ua220_1, uc220_1, rfl, ul220_1, ge220_1⟩ := k27_openF hMe220
                        have hv220_1 := hcc220 1 _ rfl
                        rw [add_field _ _ 1 (by omega)] at hv220_1
                        replace hv220_1 := Option.some.inj (hv220_1.symm.trans hx220_1)
                        injection hv220_1 with hva_ hvn_ hvc_
                        rw [hva_] at ge220_1
                        rw [hvc_] at ul220_1
                        have HL220_1 := Aside0.mk (show Kd.V (Kd.int .u8) 5 _ w.heap.size _ _ ((rd_T27 l0 x7_2).f1) from Kd.V_mk ul220_1 ge220_1)
                        clear hva_ hvn_ hvc_ ge220_1 ul220_1
                        clear hcc220 hce220
                        have HR220_1 := Aside0.mk hi220_1
                        have HC220_1 := Aside0.mk hl220_1
                        clear hi220_1 hl220_1
                        replace p220 := eq_true p220
                        replace q220 := eq_true q220
                        have ea_ := Option.some.inj (hx218_1.symm.trans hx220_1)
                        injection ea_ with ea_ en_ ec_
                        subst ea_
                        subst ec_
                        clear en_
                        go_wp2_with (first | ((with_reducible refine gate_builtin (b := .append) (xs := #[.tmp 35, .tmp 41]) rfl ?_); (try (refine gate_guard (by rfl) ?_; dsimp only)); at_builtin; refine Kd.N_append (Kd.slice 5 (Kd.int .u8)) (w0 := w) w.heap.size rfl (.tmp 35) (.tmp 41) 24 25 (.slice none 0 0) 24 rfl Try.underlying24 info25 rfl (by decide) (by omega) u6 x6_2 ((rd_T27 l0 x7_2).f1) [.slice A218_1 ((rd_T27 l0 x7_2).f1).length c218_1] (fun k_ => (P0_ k_ ∨ w.heap.size ≤ k_)) (fun k_ => ((fun k_ => (P0_ k_ ∨ w.heap.size ≤ k_))) k_ ∧ some k_ ≠ (u6 : Value).ownBlock) rfl rfl ?aP (fun _ hk => hk) ?aF ?aO ?aB ?aS ?aL ?_; (case aP => exact (Kd.FK_slice_mk (Kd.V_reads' (Kd.V_mono (ok' := (fun k_ => ((fun k_ => (P0_ k_ ∨ w.heap.size ≤ k_))) k_ ∧ some k_ ≠ (u6 : Value).ownBlock)) (HL220_1.out) (fun k_ hk => ⟨hk.1, hk.2⟩))).2.1 (Kd.V_F (Kd.V_mono (ok' := (fun k_ => ((fun k_ => (P0_ k_ ∨ w.heap.size ≤ k_))) k_ ∧ some k_ ≠ (u6 : Value).ownBlock)) (HL220_1.out) (fun k_ hk => ⟨hk.1, hk.2⟩))))); (case aB => exact (by repeat (first | (with_reducible first | exact HB.out | apply below_alloc | apply pw_below_drewN | apply below_drew1) | exact HB.out))); (case aF => exact (fun k_ hk => (.inr (Nat.le_trans (below_size (by repeat (first | (with_reducible first | exact HB.out | apply below_alloc | apply pw_below_drewN | apply below_drew1) | exact HB.out))) hk)))); (case aO => exact (by (with_reducible repeat (first | apply Kd.N_alloc | apply Kd.N_drewN | apply Kd.N_drew)); exact HO_6.out)); (case aS => exact (below_size (by repeat (first | (with_reducible first | exact HB.out | apply below_alloc | apply pw_below_drewN | apply below_drew1) | exact HB.out)))); (case aL => have := LMc14.out; omega); intro v222 w15 ho hb hg hat; rw [← Ny221.out] at ho; have n0_ := Aside0.mk (Kd.V_afterv (ok := (fun k_ => (P0_ k_ ∨ w.heap.size ≤ k_))) (by (with_reducible repeat (first | apply Kd.V_alloc | apply Kd.V_drewN | apply Kd.V_drew)); exact HO_0.out) hg hat); have n1_ := Aside0.mk (Kd.V_afterv (ok := (fun k_ => (P0_ k_ ∨ w.heap.size ≤ k_))) (by (with_reducible repeat (first | apply Kd.V_alloc | apply Kd.V_drewN | apply Kd.V_drew)); exact HL218_1.out) hg hat); have n2_ := Aside0.mk (Kd.V_afterv (ok := (fun k_ => (P0_ k_ ∨ w.heap.size ≤ k_))) (by (with_reducible repeat (first | apply Kd.V_alloc | apply Kd.V_drewN | apply Kd.V_drew)); exact HL219_1.out) hg hat); have n3_ := Aside0.mk (Kd.V_afterv (ok := (fun k_ => (P0_ k_ ∨ w.heap.size ≤ k_))) (by (with_reducible repeat (first | apply Kd.V_alloc | apply Kd.V_drewN | apply Kd.V_drew)); exact HL220_1.out) hg hat); have n4_ := Aside0.mk (hb); have n5_ := Aside0.mk (ho); clear HO_0; clear HL218_1; clear HL219_1; clear HL220_1; clear HB; clear HO_6; have HO_0 := n0_; have HL218_1 := n1_; have HL219_1 := n2_; have HL220_1 := n3_; have HB := n4_; have HO223 := n5_; clear n0_ n1_ n2_ n3_ n4_ n5_; clear ho hb hg hat))
                        go_roundg k2
                        case measure => have := HJ2.out; have := HK2.out; omega
                        case rel => exact ⟨(y221), (wrap64 (x7_2 + 1)), (by first | rfl | (simp; done) | (simp [*]; done)), H', ⟨by have := HJ2.out; have := HK2.out; omega⟩, ⟨by (with_reducible repeat (first | apply Kd.V_alloc | apply Kd.V_drewN | apply Kd.V_drew)); exact HO_0.out⟩, ⟨by (with_reducible repeat (first | apply Kd.N_alloc | apply Kd.N_drewN | apply Kd.N_drew)); exact HO223.out⟩, ⟨by repeat (first | (with_reducible first | exact HB.out | apply below_alloc | apply pw_below_drewN | apply below_drew1) | exact HB.out)⟩⟩
                      · rw [if_neg c14] at H
                        exact absurd H (by simp)
                  · replace c12 := Bool.eq_false_iff.mpr c12
                    subst c12
                    have H1 : (some (([] : List (List Int)), 52)) = some (r1, r2) := by rw [if_neg (show ¬ (false = true) by decide)] at H; exact H
                    clear H
                    have H := H1
                    clear H1
                    simp only [Option.some.injEq, Prod.mk.injEq] at H
                    obtain ⟨rfl, rfl⟩ := H
                    have p218 : 0 ≤ (x7_2 : Int) := of_decide_eq_true (by first | (with_reducible assumption) | assumption)
                    have q218 : x7_2 < (l0.length : Int) := of_decide_eq_true (by first | (with_reducible assumption) | assumption)
                    obtain ⟨ad218, A218_1, c218_1, e218, hx218_0, hx218_1, hl218_1, hi218_1⟩ := at_T27 (Kd.V_reads' HO_0.out).2.2 x7_2 p218 q218
                    (try rw [← Nbq11.out] at hx218_0); (try rw [← Nbq11.out] at hw218_0)
                    cases e218
                    obtain ⟨ce218, hce218, hMe218, hcc218⟩ := Kd.V_get HO_0.out z27 x7_2 p218 (by first | exact q218 | exact of_decide_eq_true (by first | (with_reducible assumption) | assumption) | (have e_ := (Kd.V_reads' HO_0.out).1; omega))
                    obtain ⟨ua218_1, uc218_1, rfl, ul218_1, ge218_1⟩ := k27_openF hMe218
                    have hv218_1 := hcc218 1 _ rfl
                    rw [add_field _ _ 1 (by omega)] at hv218_1
                    replace hv218_1 := Option.some.inj (hv218_1.symm.trans hx218_1)
                    injection hv218_1 with hva_ hvn_ hvc_
                    rw [hva_] at ge218_1
                    rw [hvc_] at ul218_1
                    have HL218_1 := Aside0.mk (show Kd.V (Kd.int .u8) 5 _ w.heap.size _ _ ((rd_T27 l0 x7_2).f1) from Kd.V_mk ul218_1 ge218_1)
                    clear hva_ hvn_ hvc_ ge218_1 ul218_1
                    clear hcc218 hce218
                    have HR218_1 := Aside0.mk hi218_1
                    have HC218_1 := Aside0.mk hl218_1
                    clear hi218_1 hl218_1
                    replace p218 := eq_true p218
                    replace q218 := eq_true q218
                    go_wp2
                    go_ret2
                    exact ⟨_, by first | rfl | (simp [errW_none, errW_some] <;> rfl) | (simp [*, errW_none, errW_some] <;> rfl), by first | exact Kd.S_nil _ _ _ _ _ | exact Kd.N_nil _ _ _ _ _ | exact Kd.V_nil _ _ _ _ _ | exact Kd.Q_nil _ _ _ _ _ | exact Kd.R_nil _ _ _ _ _, by repeat (first | (with_reducible first | exact HB.out | apply below_alloc | apply pw_below_drewN | apply below_drew1) | exact HB.out)⟩
                · rw [if_neg c10] at H
                  exact absurd H (by simp)
              · rw [if_neg c9] at H
                exact absurd H (by simp)
            · rw [if_neg c8] at H
              have c8b0 : decide (x7_2 < a1) = false := decide_eq_false c8
              clear c8
              simp only [Option.some.injEq, Prod.mk.injEq] at H
              obtain ⟨rfl, rfl⟩ := H
              go_wp2
              go_ret2
              exact ⟨_, by first | rfl | (simp [errW_none, errW_some] <;> rfl) | (simp [*, errW_none, errW_some] <;> rfl), by (with_reducible repeat (first | apply Kd.N_alloc | apply Kd.N_drewN | apply Kd.N_drew)); exact HO_6.out, by repeat (first | (with_reducible first | exact HB.out | apply below_alloc | apply pw_below_drewN | apply below_drew1) | exact HB.out)⟩

/-! ### footlockerref01_Same: function 21 -/
def footlockerref01_Same.l0 : Nat → List Int → List Int → Int → Option (Bool)
  | 0, _, _, _ => none
  | k + 1, x0, x1, x5 => if x5 < (x0.length : Int) then (if 0 ≤ x5 then (if x5 < (x1.length : Int) then (if (rd x0 x5) = (rd x1 x5) then (footlockerref01_Same.l0 k x0 x1 (wrap64 (x5 + 1))) else (some false)) else (none)) else (none)) else (some true)
def footlockerref01_Same.f (k : Nat) (l0 : List Int) (l1 : List Int) : Option (Bool) := if (l0.length : Int) = (l1.length : Int) then (footlockerref01_Same.l0 k l0 l1 0) else (some false)
theorem footlockerref01_Same.mono_l : ∀ k, (∀ y0 y1 y2, LeO (footlockerref01_Same.l0 k y0 y1 y2) (footlockerref01_Same.l0 (k + 1) y0 y1 y2))
  | 0 => fun _ _ _ r h => by simp [footlockerref01_Same.l0] at h
  | k + 1 => by
    have ih0 := footlockerref01_Same.mono_l k
    · intro y0 y1 y2
      unfold footlockerref01_Same.l0
      repeat' first
      | (with_reducible exact ih0 _ _ _)
      | (with_reducible exact LeO.refl _)
      | (with_reducible exact LeO.none _)
      | (with_reducible refine LeO.ite ?_ ?_)
      | (with_reducible refine LeO.bind ?_ (fun _ => ?_))
      | exact ih0 _ _ _
      | exact LeO.none _
      | refine LeO.ite ?_ ?_
      | refine LeO.bind ?_ (fun _ => ?_)
theorem footlockerref01_Same.mono : ∀ a0 a1 k, LeO (footlockerref01_Same.f k a0 a1) (footlockerref01_Same.f (k + 1) a0 a1) := by
  intro a0 a1 k
  have ih0 := footlockerref01_Same.mono_l k
  unfold footlockerref01_Same.f
  repeat' first
      | (with_reducible exact ih0 _ _ _)
      | (with_reducible exact LeO.refl _)
      | (with_reducible exact LeO.none _)
      | (with_reducible refine LeO.ite ?_ ?_)
      | (with_reducible refine LeO.bind ?_ (fun _ => ?_))
      | exact ih0 _ _ _
      | exact LeO.none _
      | refine LeO.ite ?_ ?_
      | refine LeO.bind ?_ (fun _ => ?_)
set_option maxHeartbeats 8000000 in
set_option maxRecDepth 100000 in
theorem footlockerref01_Same.calls (k : Nat) (A0 : Option Addr) (c0 : Nat) (l0 : List Int) (A1 : Option Addr) (c1 : Nat) (l1 : List Int) (r : Bool) (w : World) (hr0 : Kd.C (Kd.int .u8) w A0 l0.length l0) (hc0 : l0.length ≤ c0) (hr1 : Kd.C (Kd.int .u8) w A1 l1.length l1) (hc1 : l1.length ≤ c1) (h : footlockerref01_Same.f k l0 l1 = some r) :
    Calls Try.prog 21 #[.slice A0 l0.length c0, .slice A1 l1.length c1] w fun e w' => e = .returned (.bool r) ∧ Drawn0 w w' := by
  have HR0 := Aside0.mk hr0
  have HC0 := Aside0.mk hc0
  clear hr0 hc0
  have HR1 := Aside0.mk hr1
  have HC1 := Aside0.mk hc1
  clear hr1 hc1
  have H : (if (l0.length : Int) = (l1.length : Int) then (footlockerref01_Same.l0 k l0 l1 0) else (some false)) = some r := h
  clear h
  by_cases c3 : (l0.length : Int) = (l1.length : Int)
  · rw [if_pos c3] at H
    have c3b0 : ((l0.length : Int) == (l1.length : Int)) = true := beq_iff_eq.mpr c3
    have c3b1 : ((l0.length : Int) != (l1.length : Int)) = false := bne_eq_false_iff_eq.mpr c3
    have c3b2 : (l0.length == l1.length) = true := by first | simpa using c3 | (simp at c3 ⊢; omega)
    clear c3
    have H' := Aside0.mk H
    clear H
    go_enter Try.func21, Try.ntmps21
    go_wp2
    repeat (go_quiet (fail); try go_wp2)
    go_loopg [5] k (fun kq v5 w' => ∃ (x5_1 : Int), v5 = .int .i64 x5_1 ∧ Aside0 (footlockerref01_Same.l0 kq l0 l1 x5_1 = some r) ∧ Aside0 (kq ≤ k) ∧ Drawn0 w w')
    case atStart => exact ⟨(0), (by first | rfl | (simp; done) | (simp [*]; done)), H', ⟨Nat.le_refl _⟩, by repeat (first | exact Drawn0.refl _ | apply Drawn0.step)⟩
    case round =>
      clear H'
      try clear c1
      try clear c2
      try clear p2
      try clear c3
      try clear c3b0
      try clear c3b1
      try clear c3b2
      obtain ⟨x5_1, rfl, HA, HK1, ⟨m1, rfl⟩⟩ := hrel
      cases gk with
      | zero => exact absurd HA.out (by simp [footlockerref01_Same.l0])
      | succ k1 =>
        have H := HA.out
        clear HA
        simp only [footlockerref01_Same.l0] at H
        by_cases c4 : x5_1 < (l0.length : Int)
        · rw [if_pos c4] at H
          have c4b0 : decide (x5_1 < (l0.length : Int)) = true := decide_eq_true c4
          clear c4
          by_cases c5 : 0 ≤ x5_1
          · rw [if_pos c5] at H
            have c5b0 : decide (0 ≤ x5_1) = true := decide_eq_true c5
            clear c5
            by_cases c6 : x5_1 < (l1.length : Int)
            · rw [if_pos c6] at H
              have c6b0 : decide (x5_1 < (l1.length : Int)) = true := decide_eq_true c6
              clear c6
              by_cases c7 : (rd l0 x5_1) = (rd l1 x5_1)
              · rw [if_pos c7] at H
                have c7b0 : ((rd l0 x5_1) == (rd l1 x5_1)) = true := beq_iff_eq.mpr c7
                have c7b1 : ((rd l0 x5_1) != (rd l1 x5_1)) = false := bne_eq_false_iff_eq.mpr c7
                clear c7
                have H' := Aside0.mk H
                clear H
                have p224 : 0 ≤ (x5_1 : Int) := of_decide_eq_true (by first | (with_reducible assumption) | assumption)
                have q224 : x5_1 < (l0.length : Int) := of_decide_eq_true (by first | (with_reducible assumption) | assumption)
                obtain ⟨ad224, e224, hx224_0⟩ := Kd.at_int HR0.out x5_1 p224 q224
                cases e224
                replace p224 := eq_true p224
                replace q224 := eq_true q224
                have p225 : 0 ≤ (x5_1 : Int) := of_decide_eq_true (by first | (with_reducible assumption) | assumption)
                have q225 : x5_1 < (l1.length : Int) := of_decide_eq_true (by first | (with_reducible assumption) | assumption)
                obtain ⟨ad225, e225, hx225_0⟩ := Kd.at_int HR1.out x5_1 p225 q225
                cases e225
                replace p225 := eq_true p225
                replace q225 := eq_true q225
                go_wp2
                repeat (go_quiet (fail); try go_wp2)
                go_roundg k1
                case measure => have := HK1.out; omega
                case rel => exact ⟨(wrap64 (x5_1 + 1)), (by first | rfl | (simp; done) | (simp [*]; done)), H', ⟨by have := HK1.out; omega⟩, by repeat (first | exact Drawn0.refl _ | apply Drawn0.step)⟩
              · rw [if_neg c7] at H
                have c7b0 : ((rd l0 x5_1) == (rd l1 x5_1)) = false := beq_eq_false_iff_ne.mpr c7
                have c7b1 : ((rd l0 x5_1) != (rd l1 x5_1)) = true := bne_iff_ne.mpr c7
                obtain rfl := Option.some.inj H
                have p224 : 0 ≤ (x5_1 : Int) := of_decide_eq_true (by first | (with_reducible assumption) | assumption)
                have q224 : x5_1 < (l0.length : Int) := of_decide_eq_true (by first | (with_reducible assumption) | assumption)
                obtain ⟨ad224, e224, hx224_0⟩ := Kd.at_int HR0.out x5_1 p224 q224
                cases e224
                replace p224 := eq_true p224
                replace q224 := eq_true q224
                have p225 : 0 ≤ (x5_1 : Int) := of_decide_eq_true (by first | (with_reducible assumption) | assumption)
                have q225 : x5_1 < (l1.length : Int) := of_decide_eq_true (by first | (with_reducible assumption) | assumption)
                obtain ⟨ad225, e225, hx225_0⟩ := Kd.at_int HR1.out x5_1 p225 q225
                cases e225
                replace p225 := eq_true p225
                replace q225 := eq_true q225
                go_wp2
                repeat (go_quiet (fail); try go_wp2)
                go_ret
                exact ⟨by first | rfl | (simp; done) | (simp [*]; done), by repeat (first | exact Drawn0.refl _ | apply Drawn0.step)⟩
            · rw [if_neg c6] at H
              exact absurd H (by simp)
          · rw [if_neg c5] at H
            exact absurd H (by simp)
        · rw [if_neg c4] at H
          have c4b0 : decide (x5_1 < (l0.length : Int)) = false := decide_eq_false c4
          clear c4
          obtain rfl := Option.some.inj H
          go_wp2
          repeat (go_quiet (fail); try go_wp2)
          go_ret
          exact ⟨by first | rfl | (simp; done) | (simp [*]; done), by repeat (first | exact Drawn0.refl _ | apply Drawn0.step)⟩
  · rw [if_neg c3] at H
    have c3b0 : ((l0.length : Int) == (l1.length : Int)) = false := beq_eq_false_iff_ne.mpr c3
    have c3b1 : ((l0.length : Int) != (l1.length : Int)) = true := bne_iff_ne.mpr c3
    have c3b2 : (l0.length == l1.length) = false := by first | simpa using c3 | (simp at c3 ⊢; omega)
    obtain rfl := Option.some.inj H
    go_enter Try.func21, Try.ntmps21
    go_wp2
    repeat (go_quiet (fail); try go_wp2)
    go_ret
    exact ⟨by first | rfl | (simp; done) | (simp [*]; done), by repeat (first | exact Drawn0.refl _ | apply Drawn0.step)⟩

/-! ### footlockerref21_Rows: function 11 -/
def footlockerref21_Rows.l0 : Nat → List (List Int) → List (List Int) → Int → Option (Bool)
  | 0, _, _, _ => none
  | k + 1, x0, x1, x5 => if x5 < (x0.length : Int) then (if 0 ≤ x5 then (if x5 < (x1.length : Int) then ((footlockerref01_Same.f k (rd_L2 x0 x5) (rd_L2 x1 x5)).bind fun t228 => (if t228 = true then (footlockerref21_Rows.l0 k x0 x1 (wrap64 (x5 + 1))) else (some false))) else (none)) else (none)) else (some true)
def footlockerref21_Rows.f (k : Nat) (l0 : List (List Int)) (l1 : List (List Int)) : Option (Bool) := if (l0.length : Int) = (l1.length : Int) then (footlockerref21_Rows.l0 k l0 l1 0) else (some false)
theorem footlockerref21_Rows.mono_l : ∀ k, (∀ y0 y1 y2, LeO (footlockerref21_Rows.l0 k y0 y1 y2) (footlockerref21_Rows.l0 (k + 1) y0 y1 y2))
  | 0 => fun _ _ _ r h => by simp [footlockerref21_Rows.l0] at h
  | k + 1 => by
    have ih0 := footlockerref21_Rows.mono_l k
    · intro y0 y1 y2
      unfold footlockerref21_Rows.l0
      repeat' first
      | (with_reducible exact ih0 _ _ _)
      | (with_reducible exact footlockerref01_Same.mono _ _ _)
      | (with_reducible exact LeO.refl _)
      | (with_reducible exact LeO.none _)
      | (with_reducible refine LeO.ite ?_ ?_)
      | (with_reducible refine LeO.bind ?_ (fun _ => ?_))
      | exact ih0 _ _ _
      | exact footlockerref01_Same.mono _ _ _
      | exact LeO.none _
      | refine LeO.ite ?_ ?_
      | refine LeO.bind ?_ (fun _ => ?_)
theorem footlockerref21_Rows.mono : ∀ a0 a1 k, LeO (footlockerref21_Rows.f k a0 a1) (footlockerref21_Rows.f (k + 1) a0 a1) := by
  intro a0 a1 k
  have ih0 := footlockerref21_Rows.mono_l k
  unfold footlockerref21_Rows.f
  repeat' first
      | (with_reducible exact ih0 _ _ _)
      | (with_reducible exact footlockerref01_Same.mono _ _ _)
      | (with_reducible exact LeO.refl _)
      | (with_reducible exact LeO.none _)
      | (with_reducible refine LeO.ite ?_ ?_)
      | (with_reducible refine LeO.bind ?_ (fun _ => ?_))
      | exact ih0 _ _ _
      | exact footlockerref01_Same.mono _ _ _
      | exact LeO.none _
      | refine LeO.ite ?_ ?_
      | refine LeO.bind ?_ (fun _ => ?_)
set_option maxHeartbeats 8000000 in
set_option maxRecDepth 100000 in
theorem footlockerref21_Rows.calls (k : Nat) (A0 : Option Addr) (c0 : Nat) (l0 : List (List Int)) (A1 : Option Addr) (c1 : Nat) (l1 : List (List Int)) (r : Bool) (w : World) (hr0 : Kd.C (Kd.slice 5 (Kd.int .u8)) w A0 l0.length l0) (hc0 : l0.length ≤ c0) (hr1 : Kd.C (Kd.slice 5 (Kd.int .u8)) w A1 l1.length l1) (hc1 : l1.length ≤ c1) (h : footlockerref21_Rows.f k l0 l1 = some r) :
    Calls Try.prog 11 #[.slice A0 l0.length c0, .slice A1 l1.length c1] w fun e w' => e = .returned (.bool r) ∧ Drawn0 w w' := by
  have HR0 := Aside0.mk hr0
  have HC0 := Aside0.mk hc0
  clear hr0 hc0
  have HR1 := Aside0.mk hr1
  have HC1 := Aside0.mk hc1
  clear hr1 hc1
  have H : (if (l0.length : Int) = (l1.length : Int) then (footlockerref21_Rows.l0 k l0 l1 0) else (some false)) = some r := h
  clear h
  by_cases c3 : (l0.length : Int) = (l1.length : Int)
  · rw [if_pos c3] at H
    have c3b0 : ((l0.length : Int) == (l1.length : Int)) = true := beq_iff_eq.mpr c3
    have c3b1 : ((l0.length : Int) != (l1.length : Int)) = false := bne_eq_false_iff_eq.mpr c3
    have c3b2 : (l0.length == l1.length) = true := by first | simpa using c3 | (simp at c3 ⊢; omega)
    clear c3
    have H' := Aside0.mk H
    clear H
    go_enter Try.func11, Try.ntmps11
    go_wp2
    repeat (go_quiet (fail); try go_wp2)
    go_loopg [5] k (fun kq v5 w' => ∃ (x5_1 : Int), v5 = .int .i64 x5_1 ∧ Aside0 (footlockerref21_Rows.l0 kq l0 l1 x5_1 = some r) ∧ Aside0 (kq ≤ k) ∧ Drawn0 w w')
    case atStart => exact ⟨(0), (by first | rfl | (simp; done) | (simp [*]; done)), H', ⟨Nat.le_refl _⟩, by repeat (first | exact Drawn0.refl _ | apply Drawn0.step)⟩
    case round =>
      clear H'
      try clear c1
      try clear p2
      try clear c3
      try clear c3b0
      try clear c3b1
      try clear c3b2
      obtain ⟨x5_1, rfl, HA, HK1, ⟨m1, rfl⟩⟩ := hrel
      cases gk with
      | zero => exact absurd HA.out (by simp [footlockerref21_Rows.l0])
      | succ k1 =>
        have H := HA.out
        clear HA
        simp only [footlockerref21_Rows.l0] at H
        by_cases c4 : x5_1 < (l0.length : Int)
        · rw [if_pos c4] at H
          have c4b0 : decide (x5_1 < (l0.length : Int)) = true := decide_eq_true c4
          clear c4
          by_cases c5 : 0 ≤ x5_1
          · rw [if_pos c5] at H
            have c5b0 : decide (0 ≤ x5_1) = true := decide_eq_true c5
            clear c5
            by_cases c6 : x5_1 < (l1.length : Int)
            · rw [if_pos c6] at H
              have c6b0 : decide (x5_1 < (l1.length : Int)) = true := decide_eq_true c6
              clear c6
              replace H := Option.bind_eq_some_iff.mp H
              obtain ⟨t228, A70, H⟩ := H
              replace H : (if t228 = true then (footlockerref21_Rows.l0 k1 l0 l1 (wrap64 (x5_1 + 1))) else (some false)) = some r := H
              have A7 := Aside0.mk A70
              clear A70
              by_cases c8 : t228 = true
              · subst c8
                have H1 : (footlockerref21_Rows.l0 k1 l0 l1 (wrap64 (x5_1 + 1))) = some r := by rw [if_pos rfl] at H; exact H
                clear H
                have H := H1
                clear H1
                have H' := Aside0.mk H
                clear H
                have p226 : 0 ≤ (x5_1 : Int) := of_decide_eq_true (by first | (with_reducible assumption) | assumption)
                have q226 : x5_1 < (l0.length : Int) := of_decide_eq_true (by first | (with_reducible assumption) | assumption)
                obtain ⟨ad226, A226_0, c226_0, e226, hx226_0, hl226_0, hi226_0⟩ := at_L2 HR0.out x5_1 p226 q226
                cases e226
                have HR226_0 := Aside0.mk hi226_0
                have HC226_0 := Aside0.mk hl226_0
                clear hi226_0 hl226_0
                replace p226 := eq_true p226
                replace q226 := eq_true q226
                have p227 : 0 ≤ (x5_1 : Int) := of_decide_eq_true (by first | (with_reducible assumption) | assumption)
                have q227 : x5_1 < (l1.length : Int) := of_decide_eq_true (by first | (with_reducible assumption) | assumption)
                obtain ⟨ad227, A227_0, c227_0, e227, hx227_0, hl227_0, hi227_0⟩ := at_L2 HR1.out x5_1 p227 q227
                cases e227
                have HR227_0 := Aside0.mk hi227_0
                have HC227_0 := Aside0.mk hl227_0
                clear hi227_0 hl227_0
                replace p227 := eq_true p227
                replace q227 := eq_true q227
                go_wp2_with (first | (go_at_call 21; (with_reducible refine (footlockerref01_Same.calls k1 _ _ (rd_L2 l0 x5_1) _ _ (rd_L2 l1 x5_1) true _ ?side1 ?side2 ?side3 ?side4 A7.out).mono ?_); (case side1 => repeat (first | exact HR226_0.out | (with_reducible refine Kd.C_alloc ?_ _) | (with_reducible refine Kd.C_drewN ?_ _) | (with_reducible refine Kd.C_drew ?_))); (case side2 => exact HC226_0.out); (case side3 => repeat (first | exact HR227_0.out | (with_reducible refine Kd.C_alloc ?_ _) | (with_reducible refine Kd.C_drewN ?_ _) | (with_reducible refine Kd.C_drew ?_))); (case side4 => exact HC227_0.out); rintro e w' ⟨rfl, ⟨nd, rfl⟩⟩; (try first | exact ⟨rfl, _, World.drewN_drewN _ _ _⟩ | exact ⟨rfl, _, Eq.trans (World.drewN_drewN _ _ _) (congrArg (World.drewN _) (Nat.add_assoc _ _ _))⟩)))
                repeat (go_quiet (first | (go_at_call 21; (with_reducible refine (footlockerref01_Same.calls k1 _ _ (rd_L2 l0 x5_1) _ _ (rd_L2 l1 x5_1) true _ ?side1 ?side2 ?side3 ?side4 A7.out).mono ?_); (case side1 => repeat (first | exact HR226_0.out | (with_reducible refine Kd.C_alloc ?_ _) | (with_reducible refine Kd.C_drewN ?_ _) | (with_reducible refine Kd.C_drew ?_))); (case side2 => exact HC226_0.out); (case side3 => repeat (first | exact HR227_0.out | (with_reducible refine Kd.C_alloc ?_ _) | (with_reducible refine Kd.C_drewN ?_ _) | (with_reducible refine Kd.C_drew ?_))); (case side4 => exact HC227_0.out); rintro e w' ⟨rfl, ⟨nd, rfl⟩⟩; (try first | exact ⟨rfl, _, World.drewN_drewN _ _ _⟩ | exact ⟨rfl, _, Eq.trans (World.drewN_drewN _ _ _) (congrArg (World.drewN _) (Nat.add_assoc _ _ _))⟩))); try go_wp2_with (first | (go_at_call 21; (with_reducible refine (footlockerref01_Same.calls k1 _ _ (rd_L2 l0 x5_1) _ _ (rd_L2 l1 x5_1) true _ ?side1 ?side2 ?side3 ?side4 A7.out).mono ?_); (case side1 => repeat (first | exact HR226_0.out | (with_reducible refine Kd.C_alloc ?_ _) | (with_reducible refine Kd.C_drewN ?_ _) | (with_reducible refine Kd.C_drew ?_))); (case side2 => exact HC226_0.out); (case side3 => repeat (first | exact HR227_0.out | (with_reducible refine Kd.C_alloc ?_ _) | (with_reducible refine Kd.C_drewN ?_ _) | (with_reducible refine Kd.C_drew ?_))); (case side4 => exact HC227_0.out); rintro e w' ⟨rfl, ⟨nd, rfl⟩⟩; (try first | exact ⟨rfl, _, World.drewN_drewN _ _ _⟩ | exact ⟨rfl, _, Eq.trans (World.drewN_drewN _ _ _) (congrArg (World.drewN _) (Nat.add_assoc _ _ _))⟩))))
                go_roundg k1
                case measure => have := HK1.out; omega
                case rel => exact ⟨(wrap64 (x5_1 + 1)), (by first | rfl | (simp; done) | (simp [*]; done)), H', ⟨by have := HK1.out; omega⟩, by repeat (first | exact Drawn0.refl _ | apply Drawn0.step)⟩
              · replace c8 := Bool.eq_false_iff.mpr c8
                subst c8
                have H1 : (some false) = some r := by rw [if_neg (show ¬ (false = true) by decide)] at H; exact H
                clear H
                have H := H1
                clear H1
                obtain rfl := Option.some.inj H
                have p226 : 0 ≤ (x5_1 : Int) := of_decide_eq_true (by first | (with_reducible assumption) | assumption)
                have q226 : x5_1 < (l0.length : Int) := of_decide_eq_true (by first | (with_reducible assumption) | assumption)
                obtain ⟨ad226, A226_0, c226_0, e226, hx226_0, hl226_0, hi226_0⟩ := at_L2 HR0.out x5_1 p226 q226
                cases e226
                have HR226_0 := Aside0.mk hi226_0
                have HC226_0 := Aside0.mk hl226_0
                clear hi226_0 hl226_0
                replace p226 := eq_true p226
                replace q226 := eq_true q226
                have p227 : 0 ≤ (x5_1 : Int) := of_decide_eq_true (by first | (with_reducible assumption) | assumption)
                have q227 : x5_1 < (l1.length : Int) := of_decide_eq_true (by first | (with_reducible assumption) | assumption)
                obtain ⟨ad227, A227_0, c227_0, e227, hx227_0, hl227_0, hi227_0⟩ := at_L2 HR1.out x5_1 p227 q227
                cases e227
                have HR227_0 := Aside0.mk hi227_0
                have HC227_0 := Aside0.mk hl227_0
                clear hi227_0 hl227_0
                replace p227 := eq_true p227
                replace q227 := eq_true q227
                go_wp2_with (first | (go_at_call 21; (with_reducible refine (footlockerref01_Same.calls k1 _ _ (rd_L2 l0 x5_1) _ _ (rd_L2 l1 x5_1) false _ ?side1 ?side2 ?side3 ?side4 A7.out).mono ?_); (case side1 => repeat (first | exact HR226_0.out | (with_reducible refine Kd.C_alloc ?_ _) | (with_reducible refine Kd.C_drewN ?_ _) | (with_reducible refine Kd.C_drew ?_))); (case side2 => exact HC226_0.out); (case side3 => repeat (first | exact HR227_0.out | (with_reducible refine Kd.C_alloc ?_ _) | (with_reducible refine Kd.C_drewN ?_ _) | (with_reducible refine Kd.C_drew ?_))); (case side4 => exact HC227_0.out); rintro e w' ⟨rfl, ⟨nd, rfl⟩⟩; (try first | exact ⟨rfl, _, World.drewN_drewN _ _ _⟩ | exact ⟨rfl, _, Eq.trans (World.drewN_drewN _ _ _) (congrArg (World.drewN _) (Nat.add_assoc _ _ _))⟩)))
                repeat (go_quiet (first | (go_at_call 21; (with_reducible refine (footlockerref01_Same.calls k1 _ _ (rd_L2 l0 x5_1) _ _ (rd_L2 l1 x5_1) false _ ?side1 ?side2 ?side3 ?side4 A7.out).mono ?_); (case side1 => repeat (first | exact HR226_0.out | (with_reducible refine Kd.C_alloc ?_ _) | (with_reducible refine Kd.C_drewN ?_ _) | (with_reducible refine Kd.C_drew ?_))); (case side2 => exact HC226_0.out); (case side3 => repeat (first | exact HR227_0.out | (with_reducible refine Kd.C_alloc ?_ _) | (with_reducible refine Kd.C_drewN ?_ _) | (with_reducible refine Kd.C_drew ?_))); (case side4 => exact HC227_0.out); rintro e w' ⟨rfl, ⟨nd, rfl⟩⟩; (try first | exact ⟨rfl, _, World.drewN_drewN _ _ _⟩ | exact ⟨rfl, _, Eq.trans (World.drewN_drewN _ _ _) (congrArg (World.drewN _) (Nat.add_assoc _ _ _))⟩))); try go_wp2_with (first | (go_at_call 21; (with_reducible refine (footlockerref01_Same.calls k1 _ _ (rd_L2 l0 x5_1) _ _ (rd_L2 l1 x5_1) false _ ?side1 ?side2 ?side3 ?side4 A7.out).mono ?_); (case side1 => repeat (first | exact HR226_0.out | (with_reducible refine Kd.C_alloc ?_ _) | (with_reducible refine Kd.C_drewN ?_ _) | (with_reducible refine Kd.C_drew ?_))); (case side2 => exact HC226_0.out); (case side3 => repeat (first | exact HR227_0.out | (with_reducible refine Kd.C_alloc ?_ _) | (with_reducible refine Kd.C_drewN ?_ _) | (with_reducible refine Kd.C_drew ?_))); (case side4 => exact HC227_0.out); rintro e w' ⟨rfl, ⟨nd, rfl⟩⟩; (try first | exact ⟨rfl, _, World.drewN_drewN _ _ _⟩ | exact ⟨rfl, _, Eq.trans (World.drewN_drewN _ _ _) (congrArg (World.drewN _) (Nat.add_assoc _ _ _))⟩))))
                go_ret
                exact ⟨by first | rfl | (simp; done) | (simp [*]; done), by repeat (first | exact Drawn0.refl _ | apply Drawn0.step)⟩
            · rw [if_neg c6] at H
              exact absurd H (by simp)
          · rw [if_neg c5] at H
            exact absurd H (by simp)
        · rw [if_neg c4] at H
          have c4b0 : decide (x5_1 < (l0.length : Int)) = false := decide_eq_false c4
          clear c4
          obtain rfl := Option.some.inj H
          go_wp2
          repeat (go_quiet (fail); try go_wp2)
          go_ret
          exact ⟨by first | rfl | (simp; done) | (simp [*]; done), by repeat (first | exact Drawn0.refl _ | apply Drawn0.step)⟩
  · rw [if_neg c3] at H
    have c3b0 : ((l0.length : Int) == (l1.length : Int)) = false := beq_eq_false_iff_ne.mpr c3
    have c3b1 : ((l0.length : Int) != (l1.length : Int)) = true := bne_iff_ne.mpr c3
    have c3b2 : (l0.length == l1.length) = false := by first | simpa using c3 | (simp at c3 ⊢; omega)
    obtain rfl := Option.some.inj H
    go_enter Try.func11, Try.ntmps11
    go_wp2
    repeat (go_quiet (fail); try go_wp2)
    go_ret
    exact ⟨by first | rfl | (simp; done) | (simp [*]; done), by repeat (first | exact Drawn0.refl _ | apply Drawn0.step)⟩

end Go.Proofs.Ytngifdhaiimikaa.Q
