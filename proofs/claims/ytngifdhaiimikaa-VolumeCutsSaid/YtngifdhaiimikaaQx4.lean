/- Laid by a program of this session's (wip/tools), out of Lean's print of the loaded functions. -/
import Derived.Test.YtngifdhaiimikaaQx0
import Derived.Test.YtngifdhaiimikaaQx1
import Derived.Test.YtngifdhaiimikaaQx2
import Derived.Test.YtngifdhaiimikaaQx3
namespace Go.Proofs.Ytngifdhaiimikaa.Q
open Go.RowKit Go.Proofs.YtngifdhaiimikaaW.PrintWords Go.Proofs.YtngifdhaiimikaaW.PrintLast Go.Proofs.YtngifdhaiimikaaW.PrintMore
attribute [local go_sem] max2_int min2_int max_two min_two max_three min_three max_four min_four   -- for this text's walks alone
set_option linter.unusedVariables false
set_option linter.unusedSimpArgs false

attribute [local go_sem high] eqA41
/-! ### volume_Bytes: function 20 -/
mutual
def volume_Bytes.j0 : Nat → List (List Int) → Int → Int → Bool → Option (List Int × Bool)
  | 0, _, _, _, _ => none
  | k + 1, x0, x1, x2, x32 => if x32 = true then (some (([] : List Int), false)) else (volume_Bytes.l0 k x1 x2 ([] : List Int) x0 (x0.length : Int) 0)
def volume_Bytes.l0 : Nat → Int → Int → List Int → List (List Int) → Int → Int → Option (List Int × Bool)
  | 0, _, _, _, _, _, _ => none
  | k + 1, x1, x2, x9, x33, x34, x35 => if x35 < x34 then (if 0 ≤ x35 then (if x35 < (x33.length : Int) then (if x1 < ((rd_L2 x33 x35).length : Int) then (if 0 ≤ x1 then (if x1 ≤ (wrap64 (x1 + (mn (wrap64 (x2 - (x9.length : Int))) (wrap64 (((rd_L2 x33 x35).length : Int) - x1))))) then (if (wrap64 (x1 + (mn (wrap64 (x2 - (x9.length : Int))) (wrap64 (((rd_L2 x33 x35).length : Int) - x1))))) ≤ ((rd_L2 x33 x35).length : Int) then (if x9.length + (((rd_L2 x33 x35).take ((wrap64 (x1 + (mn (wrap64 (x2 - (x9.length : Int))) (wrap64 (((rd_L2 x33 x35).length : Int) - x1))))) : Int).toNat).drop (x1 : Int).toNat).length < 140737488355328 then (volume_Bytes.l0 k (mx (wrap64 (x1 - ((rd_L2 x33 x35).length : Int))) 0) x2 (x9 ++ (((rd_L2 x33 x35).take ((wrap64 (x1 + (mn (wrap64 (x2 - (x9.length : Int))) (wrap64 (((rd_L2 x33 x35).length : Int) - x1))))) : Int).toNat).drop (x1 : Int).toNat)) x33 x34 (wrap64 (x35 + 1))) else (none)) else (none)) else (none)) else (none)) else (volume_Bytes.l0 k (mx (wrap64 (x1 - ((rd_L2 x33 x35).length : Int))) 0) x2 x9 x33 x34 (wrap64 (x35 + 1)))) else (none)) else (none)) else (some (x9, true))
end
def volume_Bytes.f (k : Nat) (l0 : List (List Int)) (a1 : Int) (a2 : Int) : Option (List Int × Bool) := (volume_Size.f k l0).bind fun t155 => (if a1 < 0 then (volume_Bytes.j0 k l0 a1 a2 true) else (if a2 < 0 then (volume_Bytes.j0 k l0 a1 a2 true) else (if a1 > t155 then (volume_Bytes.j0 k l0 a1 a2 true) else (volume_Bytes.j0 k l0 a1 a2 (decide (a2 > (wrap64 (t155 - a1))))))))
theorem volume_Bytes.mono_l : ∀ k, (∀ y0 y1 y2 y3, LeO (volume_Bytes.j0 k y0 y1 y2 y3) (volume_Bytes.j0 (k + 1) y0 y1 y2 y3)) ∧ (∀ y0 y1 y2 y3 y4 y5, LeO (volume_Bytes.l0 k y0 y1 y2 y3 y4 y5) (volume_Bytes.l0 (k + 1) y0 y1 y2 y3 y4 y5))
  | 0 => ⟨fun _ _ _ _ r h => by simp [volume_Bytes.j0] at h, fun _ _ _ _ _ _ r h => by simp [volume_Bytes.l0] at h⟩
  | k + 1 => by
    obtain ⟨ih0, ih1⟩ := volume_Bytes.mono_l k
    refine ⟨?_, ?_⟩
    · intro y0 y1 y2 y3
      unfold volume_Bytes.j0
      repeat' first
      | (with_reducible exact ih0 _ _ _ _)
      | (with_reducible exact ih1 _ _ _ _ _ _)
      | (with_reducible exact volume_Size.mono _ _)
      | (with_reducible exact LeO.refl _)
      | (with_reducible exact LeO.none _)
      | (with_reducible refine LeO.ite ?_ ?_)
      | (with_reducible refine LeO.bind ?_ (fun _ => ?_))
      | exact ih0 _ _ _ _
      | exact ih1 _ _ _ _ _ _
      | exact volume_Size.mono _ _
      | exact LeO.none _
      | refine LeO.ite ?_ ?_
      | refine LeO.bind ?_ (fun _ => ?_)
    · intro y0 y1 y2 y3 y4 y5
      unfold volume_Bytes.l0
      repeat' first
      | (with_reducible exact ih0 _ _ _ _)
      | (with_reducible exact ih1 _ _ _ _ _ _)
      | (with_reducible exact volume_Size.mono _ _)
      | (with_reducible exact LeO.refl _)
      | (with_reducible exact LeO.none _)
      | (with_reducible refine LeO.ite ?_ ?_)
      | (with_reducible refine LeO.bind ?_ (fun _ => ?_))
      | exact ih0 _ _ _ _
      | exact ih1 _ _ _ _ _ _
      | exact volume_Size.mono _ _
      | exact LeO.none _
      | refine LeO.ite ?_ ?_
      | refine LeO.bind ?_ (fun _ => ?_)
theorem volume_Bytes.mono : ∀ a0 a1 a2 k, LeO (volume_Bytes.f k a0 a1 a2) (volume_Bytes.f (k + 1) a0 a1 a2) := by
  intro a0 a1 a2 k
  obtain ⟨ih0, ih1⟩ := volume_Bytes.mono_l k
  unfold volume_Bytes.f
  repeat' first
      | (with_reducible exact ih0 _ _ _ _)
      | (with_reducible exact ih1 _ _ _ _ _ _)
      | (with_reducible exact volume_Size.mono _ _)
      | (with_reducible exact LeO.refl _)
      | (with_reducible exact LeO.none _)
      | (with_reducible refine LeO.ite ?_ ?_)
      | (with_reducible refine LeO.bind ?_ (fun _ => ?_))
      | exact ih0 _ _ _ _
      | exact ih1 _ _ _ _ _ _
      | exact volume_Size.mono _ _
      | exact LeO.none _
      | refine LeO.ite ?_ ?_
      | refine LeO.bind ?_ (fun _ => ?_)
set_option maxHeartbeats 8000000 in
set_option maxRecDepth 100000 in
theorem volume_Bytes.calls (k : Nat) (A0 : Option Addr) (c0 : Nat) (l0 : List (List Int)) (a1 : Int) (a2 : Int) (r1 : List Int) (r2 : Bool) (w : World) (hr0 : Kd.C (Kd.slice 5 (Kd.int .u8)) w A0 l0.length l0) (hc0 : l0.length ≤ c0) (h : volume_Bytes.f k l0 a1 a2 = some (r1, r2)) :
    Calls Try.prog 20 #[.slice A0 l0.length c0, .int .i64 a1, .int .i64 a2] w fun e w' => ∃ v0_ : Value, e = .returned (.tuple #[v0_, .bool r2]) ∧ Kd.R (Kd.int .u8) 5 w' w.heap.size (fun _ => True) v0_ r1 ∧ Below w.heap.size w w' := by
  have HR0 := Aside0.mk hr0
  have HC0 := Aside0.mk hc0
  clear hr0 hc0
  have HB := Aside0.mk (Below.refl w.heap.size w)
  have H : ((volume_Size.f k l0).bind fun t155 => (if a1 < 0 then (volume_Bytes.j0 k l0 a1 a2 true) else (if a2 < 0 then (volume_Bytes.j0 k l0 a1 a2 true) else (if a1 > t155 then (volume_Bytes.j0 k l0 a1 a2 true) else (volume_Bytes.j0 k l0 a1 a2 (decide (a2 > (wrap64 (t155 - a1))))))))) = some (r1, r2) := h
  clear h
  replace H := Option.bind_eq_some_iff.mp H
  obtain ⟨t155, A40, H⟩ := H
  replace H : (if a1 < 0 then (volume_Bytes.j0 k l0 a1 a2 true) else (if a2 < 0 then (volume_Bytes.j0 k l0 a1 a2 true) else (if a1 > t155 then (volume_Bytes.j0 k l0 a1 a2 true) else (volume_Bytes.j0 k l0 a1 a2 (decide (a2 > (wrap64 (t155 - a1)))))))) = some (r1, r2) := H
  have A4 := Aside0.mk A40
  clear A40
  have HC5 := Aside0.mk H
  clear H
  go_enter Try.func20, Try.ntmps20
  go_upto_region 2 with (first | ((with_reducible refine gate_callee (f := 16) rfl ?_); refine goesL_ (some 14) rfl rfl Try.func16 (by kernel_rfl) rfl #[.slice A0 l0.length c0] rfl (by (try simp only [List.map_toArray, List.map_cons, List.map_nil]); first | done | rfl | (simp only [List.length_drop, List.length_take]; rfl)) ?_; (with_reducible refine (volume_Size.calls k _ _ l0 t155 _ ?side1 ?side2 A4.out).mono ?_); (case side1 => repeat (first | exact HR0.out | (with_reducible refine Kd.C_alloc ?_ _) | (with_reducible refine Kd.C_drewN ?_ _) | (with_reducible refine Kd.C_drew ?_))); (case side2 => exact HC0.out); rintro e w' ⟨rfl, ⟨nd, rfl⟩⟩; refine ⟨_, rfl, ?_⟩))
  (try simp only [Act.put, List.setIfInBounds_toArray, List.set_cons_zero, List.set_cons_succ])
  go_cut [32] (fun v32 wc => ∃ (kq : Nat) (x32_4 : Bool), v32 = .bool x32_4 ∧ Aside0 (volume_Bytes.j0 kq l0 a1 a2 x32_4 = some (r1, r2)) ∧ Aside0 (kq ≤ k) ∧ Aside0 (Below w.heap.size w wc))
  case first =>
    have H := HC5.out
    clear HC5
    by_cases c6 : a1 < 0
    · rw [if_pos c6] at H
      have c6b0 : decide (a1 < 0) = true := decide_eq_true c6
      clear c6
      (first | rw [c6b0] | (simp only [i64_w, i32_w]; rw [c6b0]) | skip)
      have H' := Aside0.mk H
      clear H
      go_wp2
      go_meet
      case rel => exact ⟨_, (true), (by first | rfl | (simp; done) | (simp [*]; done)), H', ⟨by first | omega | exact Nat.le_refl _⟩, ⟨by repeat (first | (with_reducible first | exact HB.out | apply below_alloc | apply pw_below_drewN | apply below_drew1) | exact HB.out)⟩⟩
    · rw [if_neg c6] at H
      have c6b0 : decide (a1 < 0) = false := decide_eq_false c6
      clear c6
      (first | rw [c6b0] | (simp only [i64_w, i32_w]; rw [c6b0]) | skip)
      by_cases c7 : a2 < 0
      · rw [if_pos c7] at H
        have c7b0 : decide (a2 < 0) = true := decide_eq_true c7
        clear c7
        have H' := Aside0.mk H
        clear H
        go_wp2
        go_meet
        case rel => exact ⟨_, (true), (by first | rfl | (simp; done) | (simp [*]; done)), H', ⟨by first | omega | exact Nat.le_refl _⟩, ⟨by repeat (first | (with_reducible first | exact HB.out | apply below_alloc | apply pw_below_drewN | apply below_drew1) | exact HB.out)⟩⟩
      · rw [if_neg c7] at H
        have c7b0 : decide (a2 < 0) = false := decide_eq_false c7
        clear c7
        by_cases c8 : a1 > t155
        · rw [if_pos c8] at H
          have c8b0 : decide (t155 < a1) = true := decide_eq_true c8
          clear c8
          have H' := Aside0.mk H
          clear H
          go_wp2
          go_meet
          case rel => exact ⟨_, (true), (by first | rfl | (simp; done) | (simp [*]; done)), H', ⟨by first | omega | exact Nat.le_refl _⟩, ⟨by repeat (first | (with_reducible first | exact HB.out | apply below_alloc | apply pw_below_drewN | apply below_drew1) | exact HB.out)⟩⟩
        · rw [if_neg c8] at H
          have c8b0 : decide (t155 < a1) = false := decide_eq_false c8
          clear c8
          have H' := Aside0.mk H
          clear H
          go_wp2
          go_meet
          case rel => exact ⟨_, (decide (a2 > (wrap64 (t155 - a1)))), (by first | rfl | (simp; done) | (simp [*]; done)), H', ⟨by first | omega | exact Nat.le_refl _⟩, ⟨by repeat (first | (with_reducible first | exact HB.out | apply below_alloc | apply pw_below_drewN | apply below_drew1) | exact HB.out)⟩⟩
  case rest =>
    clear HC5
    try clear c1
    try clear c2
    try clear p2
    try clear c6
    try clear c6b0
    try clear p6
    try clear c7
    try clear c7b0
    try clear c8
    try clear c8b0
    obtain ⟨kq, x32_4, rfl, HA, HJ4, HB⟩ := hcut
    cases kq with
    | zero => exact absurd HA.out (by simp [volume_Bytes.j0])
    | succ kj4 =>
      have H := HA.out
      clear HA
      simp only [volume_Bytes.j0] at H
      by_cases c9 : x32_4 = true
      · subst c9
        have H1 : (some (([] : List Int), false)) = some (r1, r2) := by rw [if_pos rfl] at H; exact H
        clear H
        have H := H1
        clear H1
        simp only [Option.some.injEq, Prod.mk.injEq] at H
        obtain ⟨rfl, rfl⟩ := H
        go_wp2
        go_ret2
        exact ⟨_, by first | rfl | (simp [errW_none, errW_some] <;> rfl) | (simp [*, errW_none, errW_some] <;> rfl), by first | exact Kd.R_nil _ _ _ _ _ | exact Kd.N_nil _ _ _ _ _ | exact Kd.V_nil _ _ _ _ _ | exact Kd.Q_nil _ _ _ _ _ | exact Kd.S_nil _ _ _ _ _, by repeat (first | (with_reducible first | exact HB.out | apply below_alloc | apply pw_below_drewN | apply below_drew1) | exact HB.out)⟩
      · replace c9 := Bool.eq_false_iff.mpr c9
        subst c9
        have H1 : (volume_Bytes.l0 kj4 a1 a2 ([] : List Int) l0 (l0.length : Int) 0) = some (r1, r2) := by rw [if_neg (show ¬ (false = true) by decide)] at H; exact H
        clear H
        have H := H1
        clear H1
        have H' := Aside0.mk H
        clear H
        go_wp2
        go_loopg [1, 9, 35] kj4 (fun kq v1 v9 v35 w' => ∃ (x1_2 : Int) (x9_2 : List Int) (x35_2 : Int), v1 = .int .i64 x1_2 ∧ v35 = .int .i64 x35_2 ∧ Aside0 (volume_Bytes.l0 kq x1_2 a2 x9_2 l0 (l0.length : Int) x35_2 = some (r1, r2)) ∧ Aside0 (kq ≤ kj4) ∧ Aside0 (Kd.R (Kd.int .u8) 5 w' w.heap.size (fun _ => True) v9 x9_2) ∧ Aside0 (Below w.heap.size w w'))
        case atStart => exact ⟨(a1), (([] : List Int)), (0), (by first | rfl | (simp; done) | (simp [*]; done)), (by first | rfl | (simp; done) | (simp [*]; done)), H', ⟨Nat.le_refl _⟩, ⟨by first | exact Kd.R_nil _ _ _ _ _ | exact Kd.N_nil _ _ _ _ _ | exact Kd.V_nil _ _ _ _ _ | exact Kd.Q_nil _ _ _ _ _ | exact Kd.S_nil _ _ _ _ _⟩, ⟨by repeat (first | (with_reducible first | exact HB.out | apply below_alloc | apply pw_below_drewN | apply below_drew1) | exact HB.out)⟩⟩
        case round =>
          clear H'
          try clear c1
          try clear c2
          try clear p2
          try clear c6
          try clear c6b0
          try clear p6
          try clear c7
          try clear c7b0
          try clear c8
          try clear c8b0
          try clear c9
          try clear p2
          try clear p6
          obtain ⟨x1_2, x9_2, x35_2, rfl, rfl, HA, HK2, HO_9, HB⟩ := hrel
          cases gk with
          | zero => exact absurd HA.out (by simp [volume_Bytes.l0])
          | succ k2 =>
            have H := HA.out
            clear HA
            simp only [volume_Bytes.l0] at H
            by_cases c10 : x35_2 < (l0.length : Int)
            · rw [if_pos c10] at H
              have c10b0 : decide (x35_2 < (l0.length : Int)) = true := decide_eq_true c10
              clear c10
              by_cases c11 : 0 ≤ x35_2
              · rw [if_pos c11] at H
                have c11b0 : decide (0 ≤ x35_2) = true := decide_eq_true c11
                clear c11
                by_cases c12 : x35_2 < (l0.length : Int)
                · rw [if_pos c12] at H
                  have c12b0 : decide (x35_2 < (l0.length : Int)) = true := decide_eq_true c12
                  clear c12
                  by_cases c13 : x1_2 < ((rd_L2 l0 x35_2).length : Int)
                  · rw [if_pos c13] at H
                    have c13b0 : decide (x1_2 < ((rd_L2 l0 x35_2).length : Int)) = true := decide_eq_true c13
                    clear c13
                    obtain ⟨ji14, hji14⟩ : ∃ j_ : Int, (mn (wrap64 (a2 - (x9_2.length : Int))) (wrap64 (((rd_L2 l0 x35_2).length : Int) - x1_2))) = j_ := ⟨_, rfl⟩
                    replace H : (if 0 ≤ x1_2 then (if x1_2 ≤ (wrap64 (x1_2 + (ji14))) then (if (wrap64 (x1_2 + (ji14))) ≤ ((rd_L2 l0 x35_2).length : Int) then (if x9_2.length + (((rd_L2 l0 x35_2).take ((wrap64 (x1_2 + (ji14))) : Int).toNat).drop (x1_2 : Int).toNat).length < 140737488355328 then (volume_Bytes.l0 k2 (mx (wrap64 (x1_2 - ((rd_L2 l0 x35_2).length : Int))) 0) a2 (x9_2 ++ (((rd_L2 l0 x35_2).take ((wrap64 (x1_2 + (ji14))) : Int).toNat).drop (x1_2 : Int).toNat)) l0 (l0.length : Int) (wrap64 (x35_2 + 1))) else (none)) else (none)) else (none)) else (none)) = some (r1, r2) := by first | (rw [hji14] at H; exact H) | (simp only [hji14] at H ⊢; exact H)
                    have hji14_ : (if (wrap64 (((rd_L2 l0 x35_2).length : Int) - x1_2)) < (wrap64 (a2 - (x9_2.length : Int))) then (wrap64 (((rd_L2 l0 x35_2).length : Int) - x1_2)) else (wrap64 (a2 - (x9_2.length : Int)))) = ji14 := hji14
                    by_cases c15 : 0 ≤ x1_2
                    · rw [if_pos c15] at H
                      have c15b0 := eq_true c15
                      have c15b1 : decide (0 ≤ x1_2) = true := decide_eq_true c15
                      clear c15
                      by_cases c16 : x1_2 ≤ (wrap64 (x1_2 + (ji14)))
                      · rw [if_pos c16] at H
                        have c16b0 := eq_true c16
                        have c16b1 : decide (x1_2 ≤ (wrap64 (x1_2 + (ji14)))) = true := decide_eq_true c16
                        by_cases c17 : (wrap64 (x1_2 + (ji14))) ≤ ((rd_L2 l0 x35_2).length : Int)
                        · rw [if_pos c17] at H
                          have c17b0 := eq_true c17
                          have c17b1 : decide ((wrap64 (x1_2 + (ji14))) ≤ ((rd_L2 l0 x35_2).length : Int)) = true := decide_eq_true c17
                          by_cases c18 : x9_2.length + (((rd_L2 l0 x35_2).take ((wrap64 (x1_2 + (ji14))) : Int).toNat).drop (x1_2 : Int).toNat).length < 140737488355328
                          · rw [if_pos c18] at H
                            have LMc18 := Aside0.mk c18
                            clear c18
                            obtain ⟨y158, hy158⟩ : ∃ y_ : List Int, y_ = (x9_2 ++ (((rd_L2 l0 x35_2).take ((wrap64 (x1_2 + (ji14))) : Int).toNat).drop (x1_2 : Int).toNat)) := ⟨_, rfl⟩
                            replace H : (volume_Bytes.l0 k2 (mx (wrap64 (x1_2 - ((rd_L2 l0 x35_2).length : Int))) 0) a2 y158 l0 (l0.length : Int) (wrap64 (x35_2 + 1))) = some (r1, r2) := by first | (rw [hy158]; with_reducible exact H) | (have H2_ := (Option.bind_some _ _).symm.trans H; rw [hy158]; with_reducible exact H2_) | (have H2_ := (Option.bind_some _ _).symm.trans H; with_reducible exact H2_) | with_reducible exact H | (rw [hy158]; exact H) | exact H
                            have Ny158 := Aside0.mk hy158
                            clear hy158
                            obtain ⟨ji19, hji19⟩ : ∃ j_ : Int, (mx (wrap64 (x1_2 - ((rd_L2 l0 x35_2).length : Int))) 0) = j_ := ⟨_, rfl⟩
                            replace H : (volume_Bytes.l0 k2 ji19 a2 y158 l0 (l0.length : Int) (wrap64 (x35_2 + 1))) = some (r1, r2) := by first | (rw [hji19] at H; exact H) | (simp only [hji19] at H ⊢; exact H)
                            have hji19_ : (if (wrap64 (x1_2 - ((rd_L2 l0 x35_2).length : Int))) < 0 then 0 else (wrap64 (x1_2 - ((rd_L2 l0 x35_2).length : Int)))) = ji19 := hji19
                            have H' := Aside0.mk H
                            clear H
                            have p156 : 0 ≤ (x35_2 : Int) := of_decide_eq_true (by first | (with_reducible assumption) | assumption)
                            have q156 : x35_2 < (l0.length : Int) := of_decide_eq_true (by first | (with_reducible assumption) | assumption)
                            obtain ⟨ad156, A156_0, c156_0, e156, hx156_0, hl156_0, hi156_0⟩ := at_L2 HR0.out x35_2 p156 q156
                            cases e156
                            replace hx156_0 := (HB.out.cell (World.block_lt_of_cell? w _ hx156_0)).trans hx156_0
                            have HR156_0 := Aside0.mk hi156_0
                            have HC156_0 := Aside0.mk hl156_0
                            clear hi156_0 hl156_0
                            replace p156 := eq_true p156
                            replace q156 := eq_true q156
                            obtain ⟨Ao20, co20, eo20⟩ := Kd.R_slice HO_9.out
                            subst eo20
                            obtain ⟨i021, hi021, _, hsz21, _⟩ := info_parts info5
                            obtain ⟨A21, hcut21, hA21, hC21⟩ := print_mid_of (P := Try.prog) (Value.int .u8) 0 25 5 .i64 .i64 Try.underlying25 hi021 hsz21 A156_0 c156_0 (rd_L2 l0 x35_2) x1_2 (wrap64 (x1_2 + (ji14))) (of_decide_eq_true (by first | (with_reducible assumption) | assumption)) (by first | omega | exact of_decide_eq_true (by first | (with_reducible assumption) | assumption)) (of_decide_eq_true (by first | (with_reducible assumption) | assumption)) HC156_0.out
                            have HR157 := Aside0.mk (Kd.C_of_reads (h1 := fun _ => rfl) (hA21 _ (Kd.reads_of_C HR156_0.out)))
                            have HC157 := Aside0.mk hC21
                            clear hA21 hC21 hi021 hsz21
                            go_wp2_with (first | ((with_reducible refine gate_builtin (b := .append) (xs := #[.tmp 52, .tmp 58]) rfl ?_); at_builtin; refine Kd.R_append_rows (Kd.int .u8) (w0 := w) w.heap.size rfl (.tmp 52) (.tmp 58) 25 5 (.int .u8 0) 1 rfl Try.underlying25 info5 rfl (by decide) (by omega) (.slice Ao20 x9_2.length co20) x9_2 (((rd_L2 l0 x35_2).take ((wrap64 (x1_2 + (ji14))) : Int).toNat).drop (x1_2 : Int).toNat) _ _ _ (fun _ => True) (fun _ => False) rfl rfl ?aO ?aR (fun _ _ h => h) (fun _ h => h.elim) ?aF ?aB ?aS ?aL ?_; (case aR => first | (rw [← show (((rd_L2 l0 x35_2).take ((wrap64 (x1_2 + (ji14))) : Int).toNat).drop (x1_2 : Int).toNat).length = ((wrap64 (x1_2 + (ji14))).toNat - x1_2.toNat) from (by rw [List.length_drop, List.length_take]; have h_ : ((wrap64 (x1_2 + (ji14))) : Int) ≤ ((rd_L2 l0 x35_2).length : Int) := of_decide_eq_true (by first | (with_reducible assumption) | assumption); omega)]; repeat (first | exact (Kd.C_below HR157.out HB.out) | (with_reducible refine Kd.C_alloc ?_ _) | (with_reducible refine Kd.C_drewN ?_ _) | (with_reducible refine Kd.C_drew ?_))) | (repeat (first | exact (Kd.C_below HR157.out HB.out) | (with_reducible refine Kd.C_alloc ?_ _) | (with_reducible refine Kd.C_drewN ?_ _) | (with_reducible refine Kd.C_drew ?_)))); (case aB => exact (by repeat (first | (with_reducible first | exact HB.out | apply below_alloc | apply pw_below_drewN | apply below_drew1) | exact HB.out))); (case aF => exact (fun _ _ => trivial)); (case aO => exact (by (with_reducible repeat (first | apply Kd.R_alloc | apply Kd.R_drewN | apply Kd.R_drew)); exact HO_9.out)); (case aS => exact (below_size (by repeat (first | (with_reducible first | exact HB.out | apply below_alloc | apply pw_below_drewN | apply below_drew1) | exact HB.out)))); (case aL => have := LMc18.out; have hlx_ := (show (((rd_L2 l0 x35_2).take ((wrap64 (x1_2 + (ji14))) : Int).toNat).drop (x1_2 : Int).toNat).length = ((wrap64 (x1_2 + (ji14))).toNat - x1_2.toNat) from (by rw [List.length_drop, List.length_take]; have h_ : ((wrap64 (x1_2 + (ji14))) : Int) ≤ ((rd_L2 l0 x35_2).length : Int) := of_decide_eq_true (by first | (with_reducible assumption) | assumption); omega)); omega); intro v159 w22 ho hb hg hat; rw [← Ny158.out] at ho; have n0_ := Aside0.mk (hb); have n1_ := Aside0.mk (ho); clear HB; clear HO_9; have HB := n0_; have HO160 := n1_; clear n0_ n1_; clear ho hb hg hat))
                            go_roundg k2
                            case measure => have := HJ4.out; have := HK2.out; omega
                            case rel => exact ⟨(ji19), (y158), (wrap64 (x35_2 + 1)), (by first | rfl | (simp; done) | (simp only [← hji19] <;> (first | rfl | simp)) | (simp [*]; done)), (by first | rfl | (simp; done) | (simp [*]; done)), H', ⟨by have := HJ4.out; have := HK2.out; omega⟩, ⟨by (with_reducible repeat (first | apply Kd.R_alloc | apply Kd.R_drewN | apply Kd.R_drew)); exact HO160.out⟩, ⟨by repeat (first | (with_reducible first | exact HB.out | apply below_alloc | apply pw_below_drewN | apply below_drew1) | exact HB.out)⟩⟩
                          · rw [if_neg c18] at H
                            exact absurd H (by simp)
                        · rw [if_neg c17] at H
                          exact absurd H (by simp)
                      · rw [if_neg c16] at H
                        exact absurd H (by simp)
                    · rw [if_neg c15] at H
                      exact absurd H (by simp)
                  · rw [if_neg c13] at H
                    have c13b0 : decide (x1_2 < ((rd_L2 l0 x35_2).length : Int)) = false := decide_eq_false c13
                    clear c13
                    obtain ⟨ji23, hji23⟩ : ∃ j_ : Int, (mx (wrap64 (x1_2 - ((rd_L2 l0 x35_2).length : Int))) 0) = j_ := ⟨_, rfl⟩
                    replace H : (volume_Bytes.l0 k2 ji23 a2 x9_2 l0 (l0.length : Int) (wrap64 (x35_2 + 1))) = some (r1, r2) := by first | (rw [hji23] at H; exact H) | (simp only [hji23] at H ⊢; exact H)
                    have hji23_ : (if (wrap64 (x1_2 - ((rd_L2 l0 x35_2).length : Int))) < 0 then 0 else (wrap64 (x1_2 - ((rd_L2 l0 x35_2).length : Int)))) = ji23 := hji23
                    have H' := Aside0.mk H
                    clear H
                    have p156 : 0 ≤ (x35_2 : Int) := of_decide_eq_true (by first | (with_reducible assumption) | assumption)
                    have q156 : x35_2 < (l0.length : Int) := of_decide_eq_true (by first | (with_reducible assumption) | assumption)
                    obtain ⟨ad156, A156_0, c156_0, e156, hx156_0, hl156_0, hi156_0⟩ := at_L2 HR0.out x35_2 p156 q156
                    cases e156
                    replace hx156_0 := (HB.out.cell (World.block_lt_of_cell? w _ hx156_0)).trans hx156_0
                    have HR156_0 := Aside0.mk hi156_0
                    have HC156_0 := Aside0.mk hl156_0
                    clear hi156_0 hl156_0
                    replace p156 := eq_true p156
                    replace q156 := eq_true q156
                    go_wp2
                    go_roundg k2
                    case measure => have := HJ4.out; have := HK2.out; omega
                    case rel => exact ⟨(ji23), (x9_2), (wrap64 (x35_2 + 1)), (by first | rfl | (simp; done) | (simp only [← hji23] <;> (first | rfl | simp)) | (simp [*]; done)), (by first | rfl | (simp; done) | (simp [*]; done)), H', ⟨by have := HJ4.out; have := HK2.out; omega⟩, ⟨by (with_reducible repeat (first | apply Kd.R_alloc | apply Kd.R_drewN | apply Kd.R_drew)); exact HO_9.out⟩, ⟨by repeat (first | (with_reducible first | exact HB.out | apply below_alloc | apply pw_below_drewN | apply below_drew1) | exact HB.out)⟩⟩
                · rw [if_neg c12] at H
                  exact absurd H (by simp)
              · rw [if_neg c11] at H
                exact absurd H (by simp)
            · rw [if_neg c10] at H
              have c10b0 : decide (x35_2 < (l0.length : Int)) = false := decide_eq_false c10
              clear c10
              simp only [Option.some.injEq, Prod.mk.injEq] at H
              obtain ⟨rfl, rfl⟩ := H
              go_wp2
              go_ret2
              exact ⟨_, by first | rfl | (simp [errW_none, errW_some] <;> rfl) | (simp [*, errW_none, errW_some] <;> rfl), by (with_reducible repeat (first | apply Kd.R_alloc | apply Kd.R_drewN | apply Kd.R_drew)); exact HO_9.out, by repeat (first | (with_reducible first | exact HB.out | apply below_alloc | apply pw_below_drewN | apply below_drew1) | exact HB.out)⟩

/-! ### volume_Rest: function 22 -/
def volume_Rest.f (k : Nat) (l0 : List (List Int)) (a1 : Int) : Option (List Int) := (volume_Place.f k l0 a1).bind fun bt161 => (if bt161.2.2 = true then (if bt161.1 = (l0.length : Int) then (some ([] : List Int)) else (if 0 ≤ bt161.1 then (if bt161.1 < (l0.length : Int) then (if 0 ≤ bt161.2.1 then (if bt161.2.1 ≤ ((rd_L2 l0 bt161.1).length : Int) then ((slices_Clone_byte_byte.f ((rd_L2 l0 bt161.1).drop (bt161.2.1 : Int).toNat)).bind fun t167 => (some t167)) else (none)) else (none)) else (none)) else (none))) else (some ([] : List Int)))
theorem volume_Rest.mono : ∀ a0 a1 k, LeO (volume_Rest.f k a0 a1) (volume_Rest.f (k + 1) a0 a1) := by
  intro a0 a1 k
  unfold volume_Rest.f
  repeat' first
      | (with_reducible exact volume_Place.mono _ _ _)
      | (with_reducible exact LeO.refl _)
      | (with_reducible exact LeO.none _)
      | (with_reducible refine LeO.ite ?_ ?_)
      | (with_reducible refine LeO.bind ?_ (fun _ => ?_))
      | exact volume_Place.mono _ _ _
      | exact LeO.none _
      | refine LeO.ite ?_ ?_
      | refine LeO.bind ?_ (fun _ => ?_)
def volume_Rest.T4 : Bool × List (List Nat × List Nat) := (true, [([], []), ([], []), ([1], [1]), ([0, 2], [0, 2]), ([3], [3]), ([], []), ([5], [5]), ([4, 6], [4, 6]), ([7], [7]), ([8, 8, 0, 1, 2, 3, 4, 5, 6, 7, 8], [8])])
def volume_Rest.B4 : List Nat := [0, 0, 2, 7, 15, 0, 32, 127, 255, 511]
theorem volume_Rest.tab4 : rtab .any (opsOf Try.f22 4) = volume_Rest.T4 := by kernel_rfl
theorem volume_Rest.bits4 : waitsOk volume_Rest.T4.2 volume_Rest.B4 = true := by kernel_rfl
set_option maxHeartbeats 8000000 in
set_option maxRecDepth 100000 in
theorem volume_Rest.calls (k : Nat) (A0 : Option Addr) (c0 : Nat) (l0 : List (List Int)) (a1 : Int) (r : List Int) (w : World) (hr0 : Kd.C (Kd.slice 5 (Kd.int .u8)) w A0 l0.length l0) (hc0 : l0.length ≤ c0) (h : volume_Rest.f k l0 a1 = some r) :
    Calls Try.prog 22 #[.slice A0 l0.length c0, .int .i64 a1] w fun e w' => ∃ v0_ : Value, e = .returned (v0_) ∧ Kd.R (Kd.int .u8) 5 w' w.heap.size (fun _ => True) v0_ r ∧ Below w.heap.size w w' := by
  have hu41 := Try.underlying41
  have HR0 := Aside0.mk hr0
  have HC0 := Aside0.mk hc0
  clear hr0 hc0
  have HB := Aside0.mk (Below.refl w.heap.size w)
  have H : ((volume_Place.f k l0 a1).bind fun bt161 => (if bt161.2.2 = true then (if bt161.1 = (l0.length : Int) then (some ([] : List Int)) else (if 0 ≤ bt161.1 then (if bt161.1 < (l0.length : Int) then (if 0 ≤ bt161.2.1 then (if bt161.2.1 ≤ ((rd_L2 l0 bt161.1).length : Int) then ((slices_Clone_byte_byte.f ((rd_L2 l0 bt161.1).drop (bt161.2.1 : Int).toNat)).bind fun t167 => (some t167)) else (none)) else (none)) else (none)) else (none))) else (some ([] : List Int)))) = some r := h
  clear h
  replace H := Option.bind_eq_some_iff.mp H
  obtain ⟨⟨t161, t162, t163⟩, A30, H⟩ := H
  replace H : (if t163 = true then (if t161 = (l0.length : Int) then (some ([] : List Int)) else (if 0 ≤ t161 then (if t161 < (l0.length : Int) then (if 0 ≤ t162 then (if t162 ≤ ((rd_L2 l0 t161).length : Int) then ((slices_Clone_byte_byte.f ((rd_L2 l0 t161).drop (t162 : Int).toNat)).bind fun t167 => (some t167)) else (none)) else (none)) else (none)) else (none))) else (some ([] : List Int))) = some r := H
  have A3 := Aside0.mk A30
  clear A30
  by_cases c4 : t163 = true
  · subst c4
    have H1 : (if t161 = (l0.length : Int) then (some ([] : List Int)) else (if 0 ≤ t161 then (if t161 < (l0.length : Int) then (if 0 ≤ t162 then (if t162 ≤ ((rd_L2 l0 t161).length : Int) then ((slices_Clone_byte_byte.f ((rd_L2 l0 t161).drop (t162 : Int).toNat)).bind fun t167 => (some t167)) else (none)) else (none)) else (none)) else (none))) = some r := by rw [if_pos rfl] at H; exact H
    clear H
    have H := H1
    clear H1
    by_cases c5 : t161 = (l0.length : Int)
    · rw [if_pos c5] at H
      have c5b0 : (t161 == (l0.length : Int)) = true := beq_iff_eq.mpr c5
      have c5b1 : (t161 != (l0.length : Int)) = false := bne_eq_false_iff_eq.mpr c5
      clear c5
      obtain rfl := Option.some.inj H
      go_enter Try.func22, Try.ntmps22
      go_wp2_with (first | ((with_reducible refine gate_callee (f := 17) rfl ?_); refine goesL_ (some 10) rfl rfl Try.func17 (by kernel_rfl) rfl #[.slice A0 l0.length c0, .int .i64 a1] rfl (by (try simp only [List.map_toArray, List.map_cons, List.map_nil]); first | done | rfl | (simp only [List.length_drop, List.length_take]; rfl)) ?_; (with_reducible refine (volume_Place.calls k _ _ l0 a1 t161 t162 true _ ?side1 ?side2 A3.out).mono ?_); (case side1 => repeat (first | exact HR0.out | (with_reducible refine Kd.C_alloc ?_ _) | (with_reducible refine Kd.C_drewN ?_ _) | (with_reducible refine Kd.C_drew ?_))); (case side2 => exact HC0.out); rintro e w6 ⟨rfl, hb⟩; refine ⟨_, rfl, ?_⟩; have n0_ := Aside0.mk (below_step (by repeat (first | (with_reducible first | exact HB.out | apply below_alloc | apply pw_below_drewN | apply below_drew1) | exact HB.out)) hb); clear HB; have HB := n0_; clear n0_; (try clear hb); (try clear hb2); (try clear hk); (try clear hi)) | ((with_reducible refine gate_dst (N := 5) rfl ?_); (try (refine gate_guard (by rfl) ?_; dsimp only)); refine box_event ?hg (N := 5) ?hd (cs := #[.int .i64 0, .int .i64 0]) (t := 41) ?hr ?_; (case hd => rfl); (case hg => rfl); (case hr => first | (go_simp; done) | (go_simp; rfl)); intro gb164 hg w7 hbox hb; have n0_ := Aside0.mk (below_step (by repeat (first | (with_reducible first | exact HB.out | apply below_alloc | apply pw_below_drewN | apply below_drew1) | exact HB.out)) hb); have n1_ := Aside0.mk (hbox); have n2_ := Aside0.mk ((by rw [hg]; exact (below_size (by repeat (first | (with_reducible first | exact HB.out | apply below_alloc | apply pw_below_drewN | apply below_drew1) | exact HB.out))) : w.heap.size ≤ gb164)); have n3_ := Aside0.mk ((by rw [hg]; exact (below_size (by repeat (first | (with_reducible first | exact HB.out | apply below_alloc | apply pw_below_drewN | apply below_drew1) | exact HB.out))) : w.heap.size ≤ gb164)); clear HB; have HB := n0_; have BK164 := n1_; have GW164 := n2_; have GE164 := n3_; clear n0_ n1_ n2_ n3_; clear hb hbox hg; have hcz8_0 : w7.cell? ⟨gb164, 0, none⟩ = some (.int .i64 0) := (blk_cell BK164.out 0).trans rfl; have hcz8_1 : w7.cell? ⟨gb164, 1, none⟩ = some (.int .i64 0) := (blk_cell BK164.out 1).trans rfl; have hfz8_0 := blk_frozen BK164.out 0; have hfz8_1 := blk_frozen BK164.out 1))
      go_ret
      exact ⟨_, by first | rfl | (simp [errW_none, errW_some] <;> rfl) | (simp [*, errW_none, errW_some] <;> rfl), by first | exact Kd.R_nil _ _ _ _ _ | exact Kd.N_nil _ _ _ _ _ | exact Kd.V_nil _ _ _ _ _ | exact Kd.Q_nil _ _ _ _ _ | exact Kd.S_nil _ _ _ _ _, by repeat (first | (with_reducible first | exact HB.out | apply below_alloc | apply pw_below_drewN | apply below_drew1 | refine below_set ?_ GE164.out) | exact HB.out)⟩
    · rw [if_neg c5] at H
      have c5b0 : (t161 == (l0.length : Int)) = false := beq_eq_false_iff_ne.mpr c5
      have c5b1 : (t161 != (l0.length : Int)) = true := bne_iff_ne.mpr c5
      by_cases c9 : 0 ≤ t161
      · rw [if_pos c9] at H
        have c9b0 : decide (0 ≤ t161) = true := decide_eq_true c9
        clear c9
        by_cases c10 : t161 < (l0.length : Int)
        · rw [if_pos c10] at H
          have c10b0 : decide (t161 < (l0.length : Int)) = true := decide_eq_true c10
          clear c10
          by_cases c11 : 0 ≤ t162
          · rw [if_pos c11] at H
            have c11b0 := eq_true c11
            have c11b1 : decide (0 ≤ t162) = true := decide_eq_true c11
            clear c11
            by_cases c12 : t162 ≤ ((rd_L2 l0 t161).length : Int)
            · rw [if_pos c12] at H
              have c12b0 := eq_true c12
              have c12b1 : decide (t162 ≤ ((rd_L2 l0 t161).length : Int)) = true := decide_eq_true c12
              clear c12
              replace H := Option.bind_eq_some_iff.mp H
              obtain ⟨t167, A130, H⟩ := H
              replace H : (some t167) = some r := H
              have A13 := Aside0.mk A130
              clear A130
              obtain rfl := Option.some.inj H
              go_enter Try.func22, Try.ntmps22
              try go_wp2_with (first | ((with_reducible refine gate_callee (f := 17) rfl ?_); refine goesL_ (some 10) rfl rfl Try.func17 (by kernel_rfl) rfl #[.slice A0 l0.length c0, .int .i64 a1] rfl (by (try simp only [List.map_toArray, List.map_cons, List.map_nil]); first | done | rfl | (simp only [List.length_drop, List.length_take]; rfl)) ?_; (with_reducible refine (volume_Place.calls k _ _ l0 a1 t161 t162 true _ ?side1 ?side2 A3.out).mono ?_); (case side1 => repeat (first | exact HR0.out | (with_reducible refine Kd.C_alloc ?_ _) | (with_reducible refine Kd.C_drewN ?_ _) | (with_reducible refine Kd.C_drew ?_))); (case side2 => exact HC0.out); rintro e w14 ⟨rfl, hb⟩; refine ⟨_, rfl, ?_⟩; have n0_ := Aside0.mk (below_step (by repeat (first | (with_reducible first | exact HB.out | apply below_alloc | apply pw_below_drewN | apply below_drew1) | exact HB.out)) hb); clear HB; have HB := n0_; clear n0_; (try clear hb); (try clear hb2); (try clear hk); (try clear hi)) | ((with_reducible refine gate_dst (N := 5) rfl ?_); (try (refine gate_guard (by rfl) ?_; dsimp only)); refine box_event ?hg (N := 5) ?hd (cs := #[.int .i64 0, .int .i64 0]) (t := 41) ?hr ?_; (case hd => rfl); (case hg => rfl); (case hr => first | (go_simp; done) | (go_simp; rfl)); intro gb164 hg w15 hbox hb; have n0_ := Aside0.mk (below_step (by repeat (first | (with_reducible first | exact HB.out | apply below_alloc | apply pw_below_drewN | apply below_drew1) | exact HB.out)) hb); have n1_ := Aside0.mk (hbox); have n2_ := Aside0.mk ((by rw [hg]; exact (below_size (by repeat (first | (with_reducible first | exact HB.out | apply below_alloc | apply pw_below_drewN | apply below_drew1) | exact HB.out))) : w.heap.size ≤ gb164)); have n3_ := Aside0.mk ((by rw [hg]; exact (below_size (by repeat (first | (with_reducible first | exact HB.out | apply below_alloc | apply pw_below_drewN | apply below_drew1) | exact HB.out))) : w.heap.size ≤ gb164)); clear HB; have HB := n0_; have BK164 := n1_; have GW164 := n2_; have GE164 := n3_; clear n0_ n1_ n2_ n3_; clear hb hbox hg; have hcz16_0 : w15.cell? ⟨gb164, 0, none⟩ = some (.int .i64 0) := (blk_cell BK164.out 0).trans rfl; have hcz16_1 : w15.cell? ⟨gb164, 1, none⟩ = some (.int .i64 0) := (blk_cell BK164.out 1).trans rfl; have hfz16_0 := blk_frozen BK164.out 0; have hfz16_1 := blk_frozen BK164.out 1))
              have n0_ : Aside0 (((w15.setCell ⟨gb164, 0, none⟩ (.int .i64 t161)).setCell ⟨gb164, 1, none⟩ (.int .i64 t162)).heap[gb164]? = some (.cells #[.int .i64 t161, .int .i64 t162] 41 (0, 0))) := ⟨by (with_reducible repeat (first | refine blk_drewN ?_ _ | refine blk_drew ?_ | refine blk_alloc ?_ _)); refine blk_put (cs := #[.int .i64 t161, .int .i64 0]) ?_ 1 _ rfl; (with_reducible repeat (first | refine blk_drewN ?_ _ | refine blk_drew ?_ | refine blk_alloc ?_ _)); refine blk_put (cs := #[.int .i64 0, .int .i64 0]) ?_ 0 _ rfl; (with_reducible repeat (first | refine blk_drewN ?_ _ | refine blk_drew ?_ | refine blk_alloc ?_ _)); exact BK164.out⟩
              have n1_ : Aside0 (Below w.heap.size w ((w15.setCell ⟨gb164, 0, none⟩ (.int .i64 t161)).setCell ⟨gb164, 1, none⟩ (.int .i64 t162))) := ⟨by repeat (first | (with_reducible first | exact HB.out | apply below_alloc | apply pw_below_drewN | apply below_drew1 | refine below_set ?_ GE164.out) | exact HB.out)⟩
              (try clear BK164)
              (try clear HB)
              generalize ((w15.setCell ⟨gb164, 0, none⟩ (.int .i64 t161)).setCell ⟨gb164, 1, none⟩ (.int .i64 t162)) = w17 at n0_ n1_ ⊢
              have BK164 := n0_
              have HB := n1_
              clear n0_ n1_
              have n0_ := Aside0.mk (blk_drew BK164.out)
              have n1_ := Aside0.mk (below_drew1 HB.out)
              clear BK164
              clear HB
              have BK164 := n0_
              have HB := n1_
              clear n0_ n1_
              have p165 : 0 ≤ (t161 : Int) := of_decide_eq_true (by first | (with_reducible assumption) | assumption)
              have q165 : t161 < (l0.length : Int) := of_decide_eq_true (by first | (with_reducible assumption) | assumption)
              obtain ⟨ad165, A165_0, c165_0, e165, hx165_0, hl165_0, hi165_0⟩ := at_L2 HR0.out t161 p165 q165
              have hw165_0 := hx165_0
              cases e165
              replace hx165_0 := (HB.out.cell (World.block_lt_of_cell? w _ hx165_0)).trans hx165_0
              have HR165_0 := Aside0.mk hi165_0
              have HC165_0 := Aside0.mk hl165_0
              clear hi165_0 hl165_0
              replace p165 := eq_true p165
              replace q165 := eq_true q165
              obtain ⟨i019, hi019, _, hsz19, _⟩ := info_parts info5
              obtain ⟨A19, hcut19, hA19, hC19⟩ := print_drop_of (P := Try.prog) (Value.int .u8) 0 25 5 .i64 Try.underlying25 hi019 hsz19 A165_0 c165_0 (rd_L2 l0 t161) t162 (of_decide_eq_true (by first | (with_reducible assumption) | assumption)) (of_decide_eq_true (by first | (with_reducible assumption) | assumption)) HC165_0.out
              have HR166 := Aside0.mk (Kd.C_of_reads (h1 := fun _ => rfl) (hA19 _ (Kd.reads_of_C HR165_0.out)))
              have HC166 := Aside0.mk hC19
              clear hA19 hC19 hi019 hsz19
              refine start_ (n := 10) (S := fun w' => w'.cell? ⟨gb164, 0, none⟩ = some (.int .i64 t161) ∧ w'.cell? ⟨gb164, 1, none⟩ = some (.int .i64 t162) ∧ w'.cell? (ad165.add (t161).toNat) = some (.slice A165_0 (rd_L2 l0 t161).length c165_0)) (ds := []) #[false, false, false, false, false, false, false, false, false, false] (by kernel_rfl) rfl rfl ⟨(blk_cell BK164.out 0).trans rfl, (blk_cell BK164.out 1).trans rfl, ((HB.out.cell (World.block_lt_of_cell? w _ hw165_0)).trans hw165_0)⟩ (fun hHeld => ?_); refine with_tabW volume_Rest.tab4 volume_Rest.bits4 (fun HT_ HW_ => ?_)
              generalize w17.drew = w18 at BK164 HB HR165_0 HR166 hx165_0 hHeld ⊢
              refine pure_ (i := 0) (N := some 22) (v := ?_) (a' := ?_) #[true, false, false, false, false, false, false, false, false, false] rfl rfl (any_of HT_.out (by kernel_rfl)) (fun _ _ _ h => h) (Or.inl ⟨by rfl, ?_⟩) ?_ ?_
              rotate_left
              · intro w'
                go_simp
                with_reducible rfl
              rotate_left
              · simp only [Act.put, List.setIfInBounds_toArray, List.set_cons_zero, List.set_cons_succ, i64_w, i32_w]
                rfl
              refine pure_ (i := 1) (N := some 23) (v := ?_) (a' := ?_) #[true, true, false, false, false, false, false, false, false, false] rfl rfl (any_of HT_.out (by kernel_rfl)) (fun _ _ _ h => h) (Or.inl ⟨by rfl, ?_⟩) ?_ ?_
              rotate_left
              · intro w'
                go_simp
                with_reducible rfl
              rotate_left
              · simp only [Act.put, List.setIfInBounds_toArray, List.set_cons_zero, List.set_cons_succ, i64_w, i32_w]
                rfl
              refine pure_ (i := 5) (N := some 27) (v := ?_) (a' := ?_) #[true, true, false, false, false, true, false, false, false, false] rfl rfl (any_of HT_.out (by kernel_rfl)) (fun _ _ _ h => h) (Or.inl ⟨by rfl, ?_⟩) ?_ ?_
              rotate_left
              · intro w'
                go_simp
                with_reducible rfl
              rotate_left
              · simp only [Act.put, List.setIfInBounds_toArray, List.set_cons_zero, List.set_cons_succ, i64_w, i32_w]
                rfl
              refine take_ (i := 2) (N := some 24) (v := ?_) (a' := ?_) #[true, true, true, false, false, true, false, false, false, false] rfl rfl (take_ofW HT_.out HW_.out (by kernel_rfl)) (fun _ _ _ h => h) (Or.inl ⟨by rfl, ?_⟩) hHeld ?_ ?_
              rotate_left
              · rintro w' ⟨s0, s1, s2⟩
                go_simp
                with_reducible rfl
              rotate_left
              · simp only [Act.put, List.setIfInBounds_toArray, List.set_cons_zero, List.set_cons_succ, i64_w, i32_w]
                rfl
              refine pure_ (i := 3) (N := some 25) (v := ?_) (a' := ?_) #[true, true, true, true, false, true, false, false, false, false] rfl rfl (any_of HT_.out (by kernel_rfl)) (fun _ _ _ h => h) (Or.inl ⟨by rfl, ?_⟩) ?_ ?_
              rotate_left
              · intro w'
                go_simp
                with_reducible rfl
              rotate_left
              · simp only [Act.put, List.setIfInBounds_toArray, List.set_cons_zero, List.set_cons_succ, i64_w, i32_w]
                rfl
              refine take_ (i := 4) (N := some 26) (v := ?_) (a' := ?_) #[true, true, true, true, true, true, false, false, false, false] rfl rfl (take_ofW HT_.out HW_.out (by kernel_rfl)) (fun _ _ _ h => h) (Or.inl ⟨by rfl, ?_⟩) hHeld ?_ ?_
              rotate_left
              · rintro w' ⟨s0, s1, s2⟩
                go_simp
                with_reducible rfl
              rotate_left
              · simp only [Act.put, List.setIfInBounds_toArray, List.set_cons_zero, List.set_cons_succ, i64_w, i32_w]
                rfl
              refine take_ (i := 6) (N := some 28) (v := ?_) (a' := ?_) #[true, true, true, true, true, true, true, false, false, false] rfl rfl (take_ofW HT_.out HW_.out (by kernel_rfl)) (fun _ _ _ h => h) (Or.inl ⟨by rfl, ?_⟩) hHeld ?_ ?_
              rotate_left
              · rintro w' ⟨s0, s1, s2⟩
                go_simp
                with_reducible rfl
              rotate_left
              · simp only [Act.put, List.setIfInBounds_toArray, List.set_cons_zero, List.set_cons_succ, i64_w, i32_w]
                rfl
              refine pure_ (i := 7) (N := some 29) (v := ?_) (a' := ?_) #[true, true, true, true, true, true, true, true, false, false] rfl rfl (any_of HT_.out (by kernel_rfl)) (fun _ _ _ h => h) (Or.inl ⟨by rfl, ?_⟩) ?_ ?_
              rotate_left
              · intro w'
                go_simp
                with_reducible rfl
              rotate_left
              · simp only [Act.put, List.setIfInBounds_toArray, List.set_cons_zero, List.set_cons_succ, i64_w, i32_w]
                rfl
              refine one_ (i := 8) (N := some 30) #[true, true, true, true, true, true, true, true, true, false] rfl rfl (one_of HT_.out (by kernel_rfl)) (by decide) (fun K hK => ?_)
              refine goes_ Try.func23 (by kernel_rfl) rfl #[.slice A19 ((rd_L2 l0 t161).drop (t162 : Int).toNat).length (c165_0 - t162.toNat)] (by rfl) rfl rfl (by (try simp only [List.map_toArray, List.map_cons, List.map_nil]); first | done | (rw [show ((rd_L2 l0 t161).drop (t162 : Int).toNat).length = ((rd_L2 l0 t161).length - t162.toNat) from List.length_drop] <;> rfl) | rfl | (simp only [List.length_drop, List.length_take]; rfl)) ?_
              with_reducible refine (slices_Clone_byte_byte.calls _ _ ((rd_L2 l0 t161).drop (t162 : Int).toNat) t167 _ ?side1 ?side2 A13.out).mono ?_
              (case side1 => repeat (first | exact (Kd.C_below HR166.out HB.out) | (with_reducible refine Kd.C_alloc ?_ _) | (with_reducible refine Kd.C_drewN ?_ _) | (with_reducible refine Kd.C_drew ?_)))
              (case side2 => exact HC166.out)
              rintro e w20 ⟨v168, rfl, ho0, hb⟩
              refine ⟨_, rfl, ?_⟩
              have n0_ := Aside0.mk (Kd.R_lower ho0 (below_size (by repeat (first | (with_reducible first | exact HB.out | apply below_alloc | apply pw_below_drewN | apply below_drew1 | refine below_set ?_ GE164.out) | exact HB.out))))
              have n1_ := Aside0.mk (blk_below (g := gb164) (o := .cells #[.int .i64 t161, .int .i64 t162] 41 (0, 0)) (by (with_reducible repeat (first | refine blk_drewN ?_ _ | refine blk_drew ?_ | refine blk_alloc ?_ _)); exact BK164.out) hb)
              have n2_ := Aside0.mk (below_step (by repeat (first | (with_reducible first | exact HB.out | apply below_alloc | apply pw_below_drewN | apply below_drew1 | refine below_set ?_ GE164.out) | exact HB.out)) hb)
              clear BK164
              clear HB
              have HO169 := n0_
              have BK164 := n1_
              have HB := n2_
              clear n0_ n1_ n2_
              (try clear hb)
              (try clear hb2)
              (try clear hk)
              (try clear hi)
              (try clear ho0)
              refine hK.out _ _ ⟨(blk_cell BK164.out 0).trans rfl, (blk_cell BK164.out 1).trans rfl, ((HB.out.cell (World.block_lt_of_cell? w _ hw165_0)).trans hw165_0)⟩ (fun hHeld => ?_)
              clear hK K
              refine norm_ (a' := ?_) ?_ ?_
              rotate_left
              · show Act.put _ (some 30) _ = _
                simp only [Act.put, List.setIfInBounds_toArray, List.set_cons_zero, List.set_cons_succ, i64_w, i32_w]
                rfl
              refine pure_ (i := 9) (N := some 4) (v := ?_) (a' := ?_) #[true, true, true, true, true, true, true, true, true, true] rfl rfl (any_of HT_.out (by kernel_rfl)) (fun _ _ _ h => h) (Or.inl ⟨by rfl, ?_⟩) ?_ ?_
              rotate_left
              · intro w'
                go_simp
                with_reducible rfl
              rotate_left
              · simp only [Act.put, List.setIfInBounds_toArray, List.set_cons_zero, List.set_cons_succ, i64_w, i32_w]
                rfl
              refine done_ (done_of HT_.out (by kernel_rfl)) ?_
              try go_wp2
              go_ret
              exact ⟨_, by first | rfl | (simp [errW_none, errW_some] <;> rfl) | (simp [*, errW_none, errW_some] <;> rfl), by (with_reducible repeat (first | apply Kd.R_alloc | apply Kd.R_drewN | apply Kd.R_drew)); exact HO169.out, by repeat (first | (with_reducible first | exact HB.out | apply below_alloc | apply pw_below_drewN | apply below_drew1 | refine below_set ?_ GE164.out) | exact HB.out)⟩
            · rw [if_neg c12] at H
              exact absurd H (by simp)
          · rw [if_neg c11] at H
            exact absurd H (by simp)
        · rw [if_neg c10] at H
          exact absurd H (by simp)
      · rw [if_neg c9] at H
        exact absurd H (by simp)
  · replace c4 := Bool.eq_false_iff.mpr c4
    subst c4
    have H1 : (some ([] : List Int)) = some r := by rw [if_neg (show ¬ (false = true) by decide)] at H; exact H
    clear H
    have H := H1
    clear H1
    obtain rfl := Option.some.inj H
    go_enter Try.func22, Try.ntmps22
    go_wp2_with (first | ((with_reducible refine gate_callee (f := 17) rfl ?_); refine goesL_ (some 10) rfl rfl Try.func17 (by kernel_rfl) rfl #[.slice A0 l0.length c0, .int .i64 a1] rfl (by (try simp only [List.map_toArray, List.map_cons, List.map_nil]); first | done | rfl | (simp only [List.length_drop, List.length_take]; rfl)) ?_; (with_reducible refine (volume_Place.calls k _ _ l0 a1 t161 t162 false _ ?side1 ?side2 A3.out).mono ?_); (case side1 => repeat (first | exact HR0.out | (with_reducible refine Kd.C_alloc ?_ _) | (with_reducible refine Kd.C_drewN ?_ _) | (with_reducible refine Kd.C_drew ?_))); (case side2 => exact HC0.out); rintro e w21 ⟨rfl, hb⟩; refine ⟨_, rfl, ?_⟩; have n0_ := Aside0.mk (below_step (by repeat (first | (with_reducible first | exact HB.out | apply below_alloc | apply pw_below_drewN | apply below_drew1) | exact HB.out)) hb); clear HB; have HB := n0_; clear n0_; (try clear hb); (try clear hb2); (try clear hk); (try clear hi)) | ((with_reducible refine gate_dst (N := 5) rfl ?_); (try (refine gate_guard (by rfl) ?_; dsimp only)); refine box_event ?hg (N := 5) ?hd (cs := #[.int .i64 0, .int .i64 0]) (t := 41) ?hr ?_; (case hd => rfl); (case hg => rfl); (case hr => first | (go_simp; done) | (go_simp; rfl)); intro gb164 hg w22 hbox hb; have n0_ := Aside0.mk (below_step (by repeat (first | (with_reducible first | exact HB.out | apply below_alloc | apply pw_below_drewN | apply below_drew1) | exact HB.out)) hb); have n1_ := Aside0.mk (hbox); have n2_ := Aside0.mk ((by rw [hg]; exact (below_size (by repeat (first | (with_reducible first | exact HB.out | apply below_alloc | apply pw_below_drewN | apply below_drew1) | exact HB.out))) : w.heap.size ≤ gb164)); have n3_ := Aside0.mk ((by rw [hg]; exact (below_size (by repeat (first | (with_reducible first | exact HB.out | apply below_alloc | apply pw_below_drewN | apply below_drew1) | exact HB.out))) : w.heap.size ≤ gb164)); clear HB; have HB := n0_; have BK164 := n1_; have GW164 := n2_; have GE164 := n3_; clear n0_ n1_ n2_ n3_; clear hb hbox hg; have hcz23_0 : w22.cell? ⟨gb164, 0, none⟩ = some (.int .i64 0) := (blk_cell BK164.out 0).trans rfl; have hcz23_1 : w22.cell? ⟨gb164, 1, none⟩ = some (.int .i64 0) := (blk_cell BK164.out 1).trans rfl; have hfz23_0 := blk_frozen BK164.out 0; have hfz23_1 := blk_frozen BK164.out 1))
    go_ret
    exact ⟨_, by first | rfl | (simp [errW_none, errW_some] <;> rfl) | (simp [*, errW_none, errW_some] <;> rfl), by first | exact Kd.R_nil _ _ _ _ _ | exact Kd.N_nil _ _ _ _ _ | exact Kd.V_nil _ _ _ _ _ | exact Kd.Q_nil _ _ _ _ _ | exact Kd.S_nil _ _ _ _ _, by repeat (first | (with_reducible first | exact HB.out | apply below_alloc | apply pw_below_drewN | apply below_drew1 | refine below_set ?_ GE164.out) | exact HB.out)⟩

/-! ### footlockerlaw21_alive: function 7 -/
def footlockerlaw21_alive.f (k : Nat)  : Option (Bool) := (some (([(([97, 98] : List Int)), (([99] : List Int))] : List (List Int)) : List (List Int))).bind fun y176 => ((volume_Place.f k y176 2).bind fun bt179 => ((volume_Index.f k y176 bt179.1 bt179.2.1).bind fun bt183 => ((volume_Bytes.f k y176 1 2).bind fun bt185 => ((volume_Bytes.f k y176 2 2).bind fun bt189 => (if 0 < (y176.length : Int) then ((some (([(⟨true, rd_L2 y176 0⟩ : S27), (⟨false, ([] : List Int)⟩ : S27)] : List (S27)) : List (S27))).bind fun y194 => ((volume_Row.f k y194 1).bind fun bt197 => ((volume_Row.f k y194 2).bind fun bt201 => (if (bt179.1 == 1 && (bt179.2.1 == 0)) = true then (if bt179.2.2 = true then (if bt183.1 = 2 then (if bt183.2 = true then (if (strOfNums bt185.1).toList = ([98, 99] : List UInt8) then (if bt185.2 = true then (if bt189.2 = true then (some false) else ((volume_Rest.f k y176 1).bind fun t205 => (if (strOfNums t205).toList = ([98] : List UInt8) then (if (bt197.1.length : Int) = 1 then (if bt197.2 = 0 then (if bt201.2 = 52 then ((volume_Size.f k y176).bind fun t208 => (if t208 = 3 then ((volume_Count.f k y194).bind fun t209 => (if t209 = 1 then ((volume_Clone.f k y194).bind fun t210 => ((volume_Same.f k t210 y194).bind fun t213 => (some t213))) else (some false))) else (some false))) else (some false)) else (some false)) else (some false)) else (some false)))) else (some false)) else (some false)) else (some false)) else (some false)) else (some false)) else (some false))))) else (none))))))
theorem footlockerlaw21_alive.mono : ∀ k, LeO (footlockerlaw21_alive.f k ) (footlockerlaw21_alive.f (k + 1) ) := by
  intro  k
  unfold footlockerlaw21_alive.f
  repeat' first
      | (with_reducible exact volume_Bytes.mono _ _ _ _)
      | (with_reducible exact volume_Clone.mono _ _)
      | (with_reducible exact volume_Count.mono _ _)
      | (with_reducible exact volume_Index.mono _ _ _ _)
      | (with_reducible exact volume_Place.mono _ _ _)
      | (with_reducible exact volume_Rest.mono _ _ _)
      | (with_reducible exact volume_Row.mono _ _ _)
      | (with_reducible exact volume_Same.mono _ _ _)
      | (with_reducible exact volume_Size.mono _ _)
      | (with_reducible exact LeO.refl _)
      | (with_reducible exact LeO.none _)
      | (with_reducible refine LeO.ite ?_ ?_)
      | (with_reducible refine LeO.bind ?_ (fun _ => ?_))
      | exact volume_Bytes.mono _ _ _ _
      | exact volume_Clone.mono _ _
      | exact volume_Count.mono _ _
      | exact volume_Index.mono _ _ _ _
      | exact volume_Place.mono _ _ _
      | exact volume_Rest.mono _ _ _
      | exact volume_Row.mono _ _ _
      | exact volume_Same.mono _ _ _
      | exact volume_Size.mono _ _
      | exact LeO.none _
      | refine LeO.ite ?_ ?_
      | refine LeO.bind ?_ (fun _ => ?_)
set_option maxHeartbeats 8000000 in
set_option maxRecDepth 100000 in
theorem footlockerlaw21_alive.calls_true (k : Nat)  (r : Bool) (w : World) (h : footlockerlaw21_alive.f k  = some r) (hr : r = true) :
    Calls Try.prog 7 #[] w fun e w' => e = .returned (.bool r) ∧ Below w.heap.size w w' := by
  have hu41 := Try.underlying41
  have hu27 := Try.underlying27
  have HB := Aside0.mk (Below.refl w.heap.size w)
  have H : ((some (([(([97, 98] : List Int)), (([99] : List Int))] : List (List Int)) : List (List Int))).bind fun y176 => ((volume_Place.f k y176 2).bind fun bt179 => ((volume_Index.f k y176 bt179.1 bt179.2.1).bind fun bt183 => ((volume_Bytes.f k y176 1 2).bind fun bt185 => ((volume_Bytes.f k y176 2 2).bind fun bt189 => (if 0 < (y176.length : Int) then ((some (([(⟨true, rd_L2 y176 0⟩ : S27), (⟨false, ([] : List Int)⟩ : S27)] : List (S27)) : List (S27))).bind fun y194 => ((volume_Row.f k y194 1).bind fun bt197 => ((volume_Row.f k y194 2).bind fun bt201 => (if (bt179.1 == 1 && (bt179.2.1 == 0)) = true then (if bt179.2.2 = true then (if bt183.1 = 2 then (if bt183.2 = true then (if (strOfNums bt185.1).toList = ([98, 99] : List UInt8) then (if bt185.2 = true then (if bt189.2 = true then (some false) else ((volume_Rest.f k y176 1).bind fun t205 => (if (strOfNums t205).toList = ([98] : List UInt8) then (if (bt197.1.length : Int) = 1 then (if bt197.2 = 0 then (if bt201.2 = 52 then ((volume_Size.f k y176).bind fun t208 => (if t208 = 3 then ((volume_Count.f k y194).bind fun t209 => (if t209 = 1 then ((volume_Clone.f k y194).bind fun t210 => ((volume_Same.f k t210 y194).bind fun t213 => (some t213))) else (some false))) else (some false))) else (some false)) else (some false)) else (some false)) else (some false)))) else (some false)) else (some false)) else (some false)) else (some false)) else (some false)) else (some false))))) else (none))))))) = some r := h
  clear h
  obtain ⟨y170, hy170⟩ : ∃ y_ : List Int, y_ = (([97, 98] : List Int)) := ⟨_, rfl⟩
  replace H : ((some (([y170, (([99] : List Int))] : List (List Int)) : List (List Int))).bind fun y176 => ((volume_Place.f k y176 2).bind fun bt179 => ((volume_Index.f k y176 bt179.1 bt179.2.1).bind fun bt183 => ((volume_Bytes.f k y176 1 2).bind fun bt185 => ((volume_Bytes.f k y176 2 2).bind fun bt189 => (if 0 < (y176.length : Int) then ((some (([(⟨true, rd_L2 y176 0⟩ : S27), (⟨false, ([] : List Int)⟩ : S27)] : List (S27)) : List (S27))).bind fun y194 => ((volume_Row.f k y194 1).bind fun bt197 => ((volume_Row.f k y194 2).bind fun bt201 => (if (bt179.1 == 1 && (bt179.2.1 == 0)) = true then (if bt179.2.2 = true then (if bt183.1 = 2 then (if bt183.2 = true then (if (strOfNums bt185.1).toList = ([98, 99] : List UInt8) then (if bt185.2 = true then (if bt189.2 = true then (some false) else ((volume_Rest.f k y176 1).bind fun t205 => (if (strOfNums t205).toList = ([98] : List UInt8) then (if (bt197.1.length : Int) = 1 then (if bt197.2 = 0 then (if bt201.2 = 52 then ((volume_Size.f k y176).bind fun t208 => (if t208 = 3 then ((volume_Count.f k y194).bind fun t209 => (if t209 = 1 then ((volume_Clone.f k y194).bind fun t210 => ((volume_Same.f k t210 y194).bind fun t213 => (some t213))) else (some false))) else (some false))) else (some false)) else (some false)) else (some false)) else (some false)))) else (some false)) else (some false)) else (some false)) else (some false)) else (some false)) else (some false))))) else (none))))))) = some r := by first | (rw [hy170]; with_reducible exact H) | (have H2_ := (Option.bind_some _ _).symm.trans H; rw [hy170]; with_reducible exact H2_) | (have H2_ := (Option.bind_some _ _).symm.trans H; with_reducible exact H2_) | with_reducible exact H | (rw [hy170]; exact H) | exact H
  have Ny170 := Aside0.mk hy170
  clear hy170
  obtain ⟨y173, hy173⟩ : ∃ y_ : List Int, y_ = (([99] : List Int)) := ⟨_, rfl⟩
  replace H : ((some (([y170, y173] : List (List Int)) : List (List Int))).bind fun y176 => ((volume_Place.f k y176 2).bind fun bt179 => ((volume_Index.f k y176 bt179.1 bt179.2.1).bind fun bt183 => ((volume_Bytes.f k y176 1 2).bind fun bt185 => ((volume_Bytes.f k y176 2 2).bind fun bt189 => (if 0 < (y176.length : Int) then ((some (([(⟨true, rd_L2 y176 0⟩ : S27), (⟨false, ([] : List Int)⟩ : S27)] : List (S27)) : List (S27))).bind fun y194 => ((volume_Row.f k y194 1).bind fun bt197 => ((volume_Row.f k y194 2).bind fun bt201 => (if (bt179.1 == 1 && (bt179.2.1 == 0)) = true then (if bt179.2.2 = true then (if bt183.1 = 2 then (if bt183.2 = true then (if (strOfNums bt185.1).toList = ([98, 99] : List UInt8) then (if bt185.2 = true then (if bt189.2 = true then (some false) else ((volume_Rest.f k y176 1).bind fun t205 => (if (strOfNums t205).toList = ([98] : List UInt8) then (if (bt197.1.length : Int) = 1 then (if bt197.2 = 0 then (if bt201.2 = 52 then ((volume_Size.f k y176).bind fun t208 => (if t208 = 3 then ((volume_Count.f k y194).bind fun t209 => (if t209 = 1 then ((volume_Clone.f k y194).bind fun t210 => ((volume_Same.f k t210 y194).bind fun t213 => (some t213))) else (some false))) else (some false))) else (some false)) else (some false)) else (some false)) else (some false)))) else (some false)) else (some false)) else (some false)) else (some false)) else (some false)) else (some false))))) else (none))))))) = some r := by first | (rw [hy173]; with_reducible exact H) | (have H2_ := (Option.bind_some _ _).symm.trans H; rw [hy173]; with_reducible exact H2_) | (have H2_ := (Option.bind_some _ _).symm.trans H; with_reducible exact H2_) | with_reducible exact H | (rw [hy173]; exact H) | exact H
  have Ny173 := Aside0.mk hy173
  clear hy173
  obtain ⟨y176, hy176⟩ : ∃ y_ : List (List Int), y_ = (([y170, y173] : List (List Int))) := ⟨_, rfl⟩
  replace H : ((volume_Place.f k y176 2).bind fun bt179 => ((volume_Index.f k y176 bt179.1 bt179.2.1).bind fun bt183 => ((volume_Bytes.f k y176 1 2).bind fun bt185 => ((volume_Bytes.f k y176 2 2).bind fun bt189 => (if 0 < (y176.length : Int) then ((some (([(⟨true, rd_L2 y176 0⟩ : S27), (⟨false, ([] : List Int)⟩ : S27)] : List (S27)) : List (S27))).bind fun y194 => ((volume_Row.f k y194 1).bind fun bt197 => ((volume_Row.f k y194 2).bind fun bt201 => (if (bt179.1 == 1 && (bt179.2.1 == 0)) = true then (if bt179.2.2 = true then (if bt183.1 = 2 then (if bt183.2 = true then (if (strOfNums bt185.1).toList = ([98, 99] : List UInt8) then (if bt185.2 = true then (if bt189.2 = true then (some false) else ((volume_Rest.f k y176 1).bind fun t205 => (if (strOfNums t205).toList = ([98] : List UInt8) then (if (bt197.1.length : Int) = 1 then (if bt197.2 = 0 then (if bt201.2 = 52 then ((volume_Size.f k y176).bind fun t208 => (if t208 = 3 then ((volume_Count.f k y194).bind fun t209 => (if t209 = 1 then ((volume_Clone.f k y194).bind fun t210 => ((volume_Same.f k t210 y194).bind fun t213 => (some t213))) else (some false))) else (some false))) else (some false)) else (some false)) else (some false)) else (some false)))) else (some false)) else (some false)) else (some false)) else (some false)) else (some false)) else (some false))))) else (none)))))) = some r := by first | (rw [hy176]; with_reducible exact H) | (have H2_ := (Option.bind_some _ _).symm.trans H; rw [hy176]; with_reducible exact H2_) | (have H2_ := (Option.bind_some _ _).symm.trans H; with_reducible exact H2_) | with_reducible exact H | (rw [hy176]; exact H) | exact H
  have Ny176 := Aside0.mk hy176
  clear hy176
  replace H := Option.bind_eq_some_iff.mp H
  obtain ⟨⟨t179, t180, t181⟩, A10, H⟩ := H
  replace H : ((volume_Index.f k y176 t179 t180).bind fun bt183 => ((volume_Bytes.f k y176 1 2).bind fun bt185 => ((volume_Bytes.f k y176 2 2).bind fun bt189 => (if 0 < (y176.length : Int) then ((some (([(⟨true, rd_L2 y176 0⟩ : S27), (⟨false, ([] : List Int)⟩ : S27)] : List (S27)) : List (S27))).bind fun y194 => ((volume_Row.f k y194 1).bind fun bt197 => ((volume_Row.f k y194 2).bind fun bt201 => (if (t179 == 1 && (t180 == 0)) = true then (if t181 = true then (if bt183.1 = 2 then (if bt183.2 = true then (if (strOfNums bt185.1).toList = ([98, 99] : List UInt8) then (if bt185.2 = true then (if bt189.2 = true then (some false) else ((volume_Rest.f k y176 1).bind fun t205 => (if (strOfNums t205).toList = ([98] : List UInt8) then (if (bt197.1.length : Int) = 1 then (if bt197.2 = 0 then (if bt201.2 = 52 then ((volume_Size.f k y176).bind fun t208 => (if t208 = 3 then ((volume_Count.f k y194).bind fun t209 => (if t209 = 1 then ((volume_Clone.f k y194).bind fun t210 => ((volume_Same.f k t210 y194).bind fun t213 => (some t213))) else (some false))) else (some false))) else (some false)) else (some false)) else (some false)) else (some false)))) else (some false)) else (some false)) else (some false)) else (some false)) else (some false)) else (some false))))) else (none))))) = some r := H
  have A1 := Aside0.mk A10
  clear A10
  replace H := Option.bind_eq_some_iff.mp H
  obtain ⟨⟨t183, t184⟩, A20, H⟩ := H
  replace H : ((volume_Bytes.f k y176 1 2).bind fun bt185 => ((volume_Bytes.f k y176 2 2).bind fun bt189 => (if 0 < (y176.length : Int) then ((some (([(⟨true, rd_L2 y176 0⟩ : S27), (⟨false, ([] : List Int)⟩ : S27)] : List (S27)) : List (S27))).bind fun y194 => ((volume_Row.f k y194 1).bind fun bt197 => ((volume_Row.f k y194 2).bind fun bt201 => (if (t179 == 1 && (t180 == 0)) = true then (if t181 = true then (if t183 = 2 then (if t184 = true then (if (strOfNums bt185.1).toList = ([98, 99] : List UInt8) then (if bt185.2 = true then (if bt189.2 = true then (some false) else ((volume_Rest.f k y176 1).bind fun t205 => (if (strOfNums t205).toList = ([98] : List UInt8) then (if (bt197.1.length : Int) = 1 then (if bt197.2 = 0 then (if bt201.2 = 52 then ((volume_Size.f k y176).bind fun t208 => (if t208 = 3 then ((volume_Count.f k y194).bind fun t209 => (if t209 = 1 then ((volume_Clone.f k y194).bind fun t210 => ((volume_Same.f k t210 y194).bind fun t213 => (some t213))) else (some false))) else (some false))) else (some false)) else (some false)) else (some false)) else (some false)))) else (some false)) else (some false)) else (some false)) else (some false)) else (some false)) else (some false))))) else (none)))) = some r := H
  have A2 := Aside0.mk A20
  clear A20
  replace H := Option.bind_eq_some_iff.mp H
  obtain ⟨⟨t185, t186⟩, A30, H⟩ := H
  replace H : ((volume_Bytes.f k y176 2 2).bind fun bt189 => (if 0 < (y176.length : Int) then ((some (([(⟨true, rd_L2 y176 0⟩ : S27), (⟨false, ([] : List Int)⟩ : S27)] : List (S27)) : List (S27))).bind fun y194 => ((volume_Row.f k y194 1).bind fun bt197 => ((volume_Row.f k y194 2).bind fun bt201 => (if (t179 == 1 && (t180 == 0)) = true then (if t181 = true then (if t183 = 2 then (if t184 = true then (if (strOfNums t185).toList = ([98, 99] : List UInt8) then (if t186 = true then (if bt189.2 = true then (some false) else ((volume_Rest.f k y176 1).bind fun t205 => (if (strOfNums t205).toList = ([98] : List UInt8) then (if (bt197.1.length : Int) = 1 then (if bt197.2 = 0 then (if bt201.2 = 52 then ((volume_Size.f k y176).bind fun t208 => (if t208 = 3 then ((volume_Count.f k y194).bind fun t209 => (if t209 = 1 then ((volume_Clone.f k y194).bind fun t210 => ((volume_Same.f k t210 y194).bind fun t213 => (some t213))) else (some false))) else (some false))) else (some false)) else (some false)) else (some false)) else (some false)))) else (some false)) else (some false)) else (some false)) else (some false)) else (some false)) else (some false))))) else (none))) = some r := H
  have A3 := Aside0.mk A30
  clear A30
  replace H := Option.bind_eq_some_iff.mp H
  obtain ⟨⟨t189, t190⟩, A40, H⟩ := H
  replace H : (if 0 < (y176.length : Int) then ((some (([(⟨true, rd_L2 y176 0⟩ : S27), (⟨false, ([] : List Int)⟩ : S27)] : List (S27)) : List (S27))).bind fun y194 => ((volume_Row.f k y194 1).bind fun bt197 => ((volume_Row.f k y194 2).bind fun bt201 => (if (t179 == 1 && (t180 == 0)) = true then (if t181 = true then (if t183 = 2 then (if t184 = true then (if (strOfNums t185).toList = ([98, 99] : List UInt8) then (if t186 = true then (if t190 = true then (some false) else ((volume_Rest.f k y176 1).bind fun t205 => (if (strOfNums t205).toList = ([98] : List UInt8) then (if (bt197.1.length : Int) = 1 then (if bt197.2 = 0 then (if bt201.2 = 52 then ((volume_Size.f k y176).bind fun t208 => (if t208 = 3 then ((volume_Count.f k y194).bind fun t209 => (if t209 = 1 then ((volume_Clone.f k y194).bind fun t210 => ((volume_Same.f k t210 y194).bind fun t213 => (some t213))) else (some false))) else (some false))) else (some false)) else (some false)) else (some false)) else (some false)))) else (some false)) else (some false)) else (some false)) else (some false)) else (some false)) else (some false))))) else (none)) = some r := H
  have A4 := Aside0.mk A40
  clear A40
  by_cases c5 : 0 < (y176.length : Int)
  · rw [if_pos c5] at H
    have c5b0 : decide (0 < (y176.length : Int)) = true := decide_eq_true c5
    have c5b1 : decide (0 < y176.length) = true := decide_eq_true (by omega)
    clear c5
    obtain ⟨y194, hy194⟩ : ∃ y_ : List (S27), y_ = (([(⟨true, rd_L2 y176 0⟩ : S27), (⟨false, ([] : List Int)⟩ : S27)] : List (S27))) := ⟨_, rfl⟩
    replace H : ((volume_Row.f k y194 1).bind fun bt197 => ((volume_Row.f k y194 2).bind fun bt201 => (if (t179 == 1 && (t180 == 0)) = true then (if t181 = true then (if t183 = 2 then (if t184 = true then (if (strOfNums t185).toList = ([98, 99] : List UInt8) then (if t186 = true then (if t190 = true then (some false) else ((volume_Rest.f k y176 1).bind fun t205 => (if (strOfNums t205).toList = ([98] : List UInt8) then (if (bt197.1.length : Int) = 1 then (if bt197.2 = 0 then (if bt201.2 = 52 then ((volume_Size.f k y176).bind fun t208 => (if t208 = 3 then ((volume_Count.f k y194).bind fun t209 => (if t209 = 1 then ((volume_Clone.f k y194).bind fun t210 => ((volume_Same.f k t210 y194).bind fun t213 => (some t213))) else (some false))) else (some false))) else (some false)) else (some false)) else (some false)) else (some false)))) else (some false)) else (some false)) else (some false)) else (some false)) else (some false)) else (some false)))) = some r := by first | (rw [hy194]; with_reducible exact H) | (have H2_ := (Option.bind_some _ _).symm.trans H; rw [hy194]; with_reducible exact H2_) | (have H2_ := (Option.bind_some _ _).symm.trans H; with_reducible exact H2_) | with_reducible exact H | (rw [hy194]; exact H) | exact H
    have Ny194 := Aside0.mk hy194
    clear hy194
    replace H := Option.bind_eq_some_iff.mp H
    obtain ⟨⟨t197, t198⟩, A60, H⟩ := H
    replace H : ((volume_Row.f k y194 2).bind fun bt201 => (if (t179 == 1 && (t180 == 0)) = true then (if t181 = true then (if t183 = 2 then (if t184 = true then (if (strOfNums t185).toList = ([98, 99] : List UInt8) then (if t186 = true then (if t190 = true then (some false) else ((volume_Rest.f k y176 1).bind fun t205 => (if (strOfNums t205).toList = ([98] : List UInt8) then (if (t197.length : Int) = 1 then (if t198 = 0 then (if bt201.2 = 52 then ((volume_Size.f k y176).bind fun t208 => (if t208 = 3 then ((volume_Count.f k y194).bind fun t209 => (if t209 = 1 then ((volume_Clone.f k y194).bind fun t210 => ((volume_Same.f k t210 y194).bind fun t213 => (some t213))) else (some false))) else (some false))) else (some false)) else (some false)) else (some false)) else (some false)))) else (some false)) else (some false)) else (some false)) else (some false)) else (some false)) else (some false))) = some r := H
    have A6 := Aside0.mk A60
    clear A60
    replace H := Option.bind_eq_some_iff.mp H
    obtain ⟨⟨t201, t202⟩, A70, H⟩ := H
    replace H : (if (t179 == 1 && (t180 == 0)) = true then (if t181 = true then (if t183 = 2 then (if t184 = true then (if (strOfNums t185).toList = ([98, 99] : List UInt8) then (if t186 = true then (if t190 = true then (some false) else ((volume_Rest.f k y176 1).bind fun t205 => (if (strOfNums t205).toList = ([98] : List UInt8) then (if (t197.length : Int) = 1 then (if t198 = 0 then (if t202 = 52 then ((volume_Size.f k y176).bind fun t208 => (if t208 = 3 then ((volume_Count.f k y194).bind fun t209 => (if t209 = 1 then ((volume_Clone.f k y194).bind fun t210 => ((volume_Same.f k t210 y194).bind fun t213 => (some t213))) else (some false))) else (some false))) else (some false)) else (some false)) else (some false)) else (some false)))) else (some false)) else (some false)) else (some false)) else (some false)) else (some false)) else (some false)) = some r := H
    have A7 := Aside0.mk A70
    clear A70
    by_cases c8 : (t179 == 1 && (t180 == 0)) = true
    · rw [if_pos c8] at H
      have c8b0 : (t179 == 1 && (t180 == 0)) = true := c8
      (try (have c8b1 : decide (t179 = 1 && (t180 == 0)) = true := by simpa using c8))
      (try (have c8b2 : (t179 == 1 && (t180 == 0)) = true := by simpa using c8))
      clear c8
      by_cases c9 : t181 = true
      · subst c9
        have H1 : (if t183 = 2 then (if t184 = true then (if (strOfNums t185).toList = ([98, 99] : List UInt8) then (if t186 = true then (if t190 = true then (some false) else ((volume_Rest.f k y176 1).bind fun t205 => (if (strOfNums t205).toList = ([98] : List UInt8) then (if (t197.length : Int) = 1 then (if t198 = 0 then (if t202 = 52 then ((volume_Size.f k y176).bind fun t208 => (if t208 = 3 then ((volume_Count.f k y194).bind fun t209 => (if t209 = 1 then ((volume_Clone.f k y194).bind fun t210 => ((volume_Same.f k t210 y194).bind fun t213 => (some t213))) else (some false))) else (some false))) else (some false)) else (some false)) else (some false)) else (some false)))) else (some false)) else (some false)) else (some false)) else (some false)) = some r := by rw [if_pos rfl] at H; exact H
        clear H
        have H := H1
        clear H1
        by_cases c10 : t183 = 2
        · rw [if_pos c10] at H
          have c10b0 : (t183 == 2) = true := beq_iff_eq.mpr c10
          have c10b1 : (t183 != 2) = false := bne_eq_false_iff_eq.mpr c10
          clear c10
          by_cases c11 : t184 = true
          · subst c11
            have H1 : (if (strOfNums t185).toList = ([98, 99] : List UInt8) then (if t186 = true then (if t190 = true then (some false) else ((volume_Rest.f k y176 1).bind fun t205 => (if (strOfNums t205).toList = ([98] : List UInt8) then (if (t197.length : Int) = 1 then (if t198 = 0 then (if t202 = 52 then ((volume_Size.f k y176).bind fun t208 => (if t208 = 3 then ((volume_Count.f k y194).bind fun t209 => (if t209 = 1 then ((volume_Clone.f k y194).bind fun t210 => ((volume_Same.f k t210 y194).bind fun t213 => (some t213))) else (some false))) else (some false))) else (some false)) else (some false)) else (some false)) else (some false)))) else (some false)) else (some false)) = some r := by rw [if_pos rfl] at H; exact H
            clear H
            have H := H1
            clear H1
            by_cases c12 : (strOfNums t185).toList = ([98, 99] : List UInt8)
            · rw [if_pos c12] at H
              have c12b0 : ((strOfNums t185).toList == ([98, 99] : List UInt8)) = true := beq_iff_eq.mpr c12
              have c12b1 : ((strOfNums t185).toList != ([98, 99] : List UInt8)) = false := bne_eq_false_iff_eq.mpr c12
              clear c12
              by_cases c13 : t186 = true
              · subst c13
                have H1 : (if t190 = true then (some false) else ((volume_Rest.f k y176 1).bind fun t205 => (if (strOfNums t205).toList = ([98] : List UInt8) then (if (t197.length : Int) = 1 then (if t198 = 0 then (if t202 = 52 then ((volume_Size.f k y176).bind fun t208 => (if t208 = 3 then ((volume_Count.f k y194).bind fun t209 => (if t209 = 1 then ((volume_Clone.f k y194).bind fun t210 => ((volume_Same.f k t210 y194).bind fun t213 => (some t213))) else (some false))) else (some false))) else (some false)) else (some false)) else (some false)) else (some false)))) = some r := by rw [if_pos rfl] at H; exact H
                clear H
                have H := H1
                clear H1
                by_cases c14 : t190 = true
                · subst c14
                  have H1 : (some false) = some r := by rw [if_pos rfl] at H; exact H
                  exact absurd ((Option.some.inj H1).trans hr) (by decide)
                · replace c14 := Bool.eq_false_iff.mpr c14
                  subst c14
                  have H1 : ((volume_Rest.f k y176 1).bind fun t205 => (if (strOfNums t205).toList = ([98] : List UInt8) then (if (t197.length : Int) = 1 then (if t198 = 0 then (if t202 = 52 then ((volume_Size.f k y176).bind fun t208 => (if t208 = 3 then ((volume_Count.f k y194).bind fun t209 => (if t209 = 1 then ((volume_Clone.f k y194).bind fun t210 => ((volume_Same.f k t210 y194).bind fun t213 => (some t213))) else (some false))) else (some false))) else (some false)) else (some false)) else (some false)) else (some false))) = some r := by rw [if_neg (show ¬ (false = true) by decide)] at H; exact H
                  clear H
                  have H := H1
                  clear H1
                  replace H := Option.bind_eq_some_iff.mp H
                  obtain ⟨t205, A370, H⟩ := H
                  replace H : (if (strOfNums t205).toList = ([98] : List UInt8) then (if (t197.length : Int) = 1 then (if t198 = 0 then (if t202 = 52 then ((volume_Size.f k y176).bind fun t208 => (if t208 = 3 then ((volume_Count.f k y194).bind fun t209 => (if t209 = 1 then ((volume_Clone.f k y194).bind fun t210 => ((volume_Same.f k t210 y194).bind fun t213 => (some t213))) else (some false))) else (some false))) else (some false)) else (some false)) else (some false)) else (some false)) = some r := H
                  have A37 := Aside0.mk A370
                  clear A370
                  by_cases c38 : (strOfNums t205).toList = ([98] : List UInt8)
                  · rw [if_pos c38] at H
                    have c38b0 : ((strOfNums t205).toList == ([98] : List UInt8)) = true := beq_iff_eq.mpr c38
                    have c38b1 : ((strOfNums t205).toList != ([98] : List UInt8)) = false := bne_eq_false_iff_eq.mpr c38
                    clear c38
                    by_cases c39 : (t197.length : Int) = 1
                    · rw [if_pos c39] at H
                      have c39b0 : ((t197.length : Int) == 1) = true := beq_iff_eq.mpr c39
                      have c39b1 : ((t197.length : Int) != 1) = false := bne_eq_false_iff_eq.mpr c39
                      clear c39
                      by_cases c40 : t198 = 0
                      · rw [if_pos c40] at H
                        have c40b0 : (t198 == 0) = true := beq_iff_eq.mpr c40
                        have c40b1 : (t198 != 0) = false := bne_eq_false_iff_eq.mpr c40
                        clear c40
                        by_cases c41 : t202 = 52
                        · rw [if_pos c41] at H
                          have c41b0 : (t202 == 52) = true := beq_iff_eq.mpr c41
                          have c41b1 : (t202 != 52) = false := bne_eq_false_iff_eq.mpr c41
                          clear c41
                          replace H := Option.bind_eq_some_iff.mp H
                          obtain ⟨t208, A420, H⟩ := H
                          replace H : (if t208 = 3 then ((volume_Count.f k y194).bind fun t209 => (if t209 = 1 then ((volume_Clone.f k y194).bind fun t210 => ((volume_Same.f k t210 y194).bind fun t213 => (some t213))) else (some false))) else (some false)) = some r := H
                          have A42 := Aside0.mk A420
                          clear A420
                          by_cases c43 : t208 = 3
                          · rw [if_pos c43] at H
                            have c43b0 : (t208 == 3) = true := beq_iff_eq.mpr c43
                            have c43b1 : (t208 != 3) = false := bne_eq_false_iff_eq.mpr c43
                            clear c43
                            replace H := Option.bind_eq_some_iff.mp H
                            obtain ⟨t209, A440, H⟩ := H
                            replace H : (if t209 = 1 then ((volume_Clone.f k y194).bind fun t210 => ((volume_Same.f k t210 y194).bind fun t213 => (some t213))) else (some false)) = some r := H
                            have A44 := Aside0.mk A440
                            clear A440
                            by_cases c45 : t209 = 1
                            · rw [if_pos c45] at H
                              have c45b0 : (t209 == 1) = true := beq_iff_eq.mpr c45
                              have c45b1 : (t209 != 1) = false := bne_eq_false_iff_eq.mpr c45
                              clear c45
                              replace H := Option.bind_eq_some_iff.mp H
                              obtain ⟨t210, A460, H⟩ := H
                              replace H : ((volume_Same.f k t210 y194).bind fun t213 => (some t213)) = some r := H
                              have A46 := Aside0.mk A460
                              clear A460
                              replace H := Option.bind_eq_some_iff.mp H
                              obtain ⟨t213, A470, H⟩ := H
                              replace H : (some t213) = some r := H
                              have A47 := Aside0.mk A470
                              clear A470
                              obtain rfl := Option.some.inj H
                              clear hr
                              go_enter Try.func7, Try.ntmps7
                              go_wp2_with (first | ((with_reducible refine gate_dst (N := 16) rfl ?_); (try (refine gate_guard (by rfl) ?_; dsimp only)); refine Kd.B_conv (Kd.int .u8) _ 25 5 (.tmp 15) ([97, 98] : List Int) _ rfl rfl rfl Try.underlying25 Try.underlying5 rfl (Below.refl _ _) (Nat.le_refl _) (by simp) ?_; intro v171 w48 ho49 hb; (first | rw [← Ny170.out] at ho49 | (simp only [Int.reduceToNat] at ho49; rw [← Ny170.out] at ho49)); have n0_ := Aside0.mk (Kd.B_lower ho49 (below_size (by repeat (first | (with_reducible first | exact HB.out | apply below_alloc | apply pw_below_drewN | apply below_drew1) | exact HB.out)))); have n1_ := Aside0.mk (below_step (by repeat (first | (with_reducible first | exact HB.out | apply below_alloc | apply pw_below_drewN | apply below_drew1) | exact HB.out)) hb); clear HB; have HO172 := n0_; have HB := n1_; clear n0_ n1_; clear hb ho49) | ((with_reducible refine gate_dst (N := 18) rfl ?_); (try (refine gate_guard (by rfl) ?_; dsimp only)); refine Kd.B_conv (Kd.int .u8) _ 25 5 (.tmp 17) ([99] : List Int) _ rfl rfl rfl Try.underlying25 Try.underlying5 rfl (Below.refl _ _) (Nat.le_refl _) (by simp) ?_; intro v174 w50 ho51 hb; (first | rw [← Ny173.out] at ho51 | (simp only [Int.reduceToNat] at ho51; rw [← Ny173.out] at ho51)); have n0_ := Aside0.mk (Kd.B_elder' (by (with_reducible repeat (first | apply Kd.B_alloc | apply Kd.B_drewN | apply Kd.B_drew)); exact HO172.out) (Kd.B_base ho51) hb); have n1_ := Aside0.mk (Kd.B_lower (Kd.B_new' ho51 (Kd.B_lt (by (with_reducible repeat (first | apply Kd.B_alloc | apply Kd.B_drewN | apply Kd.B_drew)); exact HO172.out))) (below_size (by repeat (first | (with_reducible first | exact HB.out | apply below_alloc | apply pw_below_drewN | apply below_drew1) | exact HB.out)))); have n2_ := Aside0.mk (below_step (by repeat (first | (with_reducible first | exact HB.out | apply below_alloc | apply pw_below_drewN | apply below_drew1) | exact HB.out)) hb); clear HO172; clear HB; have HO172 := n0_; have HO175 := n1_; have HB := n2_; clear n0_ n1_ n2_; clear hb ho51; obtain ⟨gB52, co52, eo52⟩ := Kd.B_at HO172.out; subst eo52; obtain ⟨gB53, co53, eo53⟩ := Kd.B_at HO175.out; subst eo53) | ((with_reducible refine gate_dst (N := 19) rfl ?_); (try (refine gate_guard (by rfl) ?_; dsimp only)); refine Kd.N_lit (Kd.slice 5 (Kd.int .u8)) _ 25 ?hg (N' := 19) ?hd (xs := ([y170, y173] : List (List Int))) (inner := [.slice (some ⟨gB52, 0, none⟩) y170.length co52, .slice (some ⟨gB53, 0, none⟩) y173.length co53]) (ok := (fun _ => True)) (okp := (fun _ => True)) ?hr ?hp (fun _ hk => hk) ((show ∀ k_, w50.heap.size ≤ k_ → (fun _ => True) k_ from fun k_ hk => trivial) _ (Nat.le_refl _)) (Below.refl _ _) (Nat.le_refl _) (by simp) ?_; (case hd => rfl); (case hg => rfl); (case hr => first | (go_simp; done) | (go_simp; rfl)); (case hp => exact (Reps.one (show Kd.FK (Kd.slice 5 (Kd.int .u8)) _ _ y170 [.slice (some ⟨gB52, 0, none⟩) y170.length co52] from (Kd.FK_slice_mk (Kd.B_reads' (Kd.B_mono (ok' := (fun _ => True)) (HO172.out) (fun k_ hk => trivial))).2.1 (Kd.B_F (Kd.B_mono (ok' := (fun _ => True)) (HO172.out) (fun k_ hk => trivial))))) (Reps.one (show Kd.FK (Kd.slice 5 (Kd.int .u8)) _ _ y173 [.slice (some ⟨gB53, 0, none⟩) y173.length co53] from (Kd.FK_slice_mk (Kd.B_reads' (Kd.B_mono (ok' := (fun _ => True)) (HO175.out) (fun k_ hk => trivial))).2.1 (Kd.B_F (Kd.B_mono (ok' := (fun _ => True)) (HO175.out) (fun k_ hk => trivial))))) (Reps.none _ _)))); intro v177 w54 ho55 hb hg_ hnew_; clear hg_ hnew_; (first | rw [← Ny176.out] at ho55 | (simp only [Int.reduceToNat] at ho55; rw [← Ny176.out] at ho55)); have n0_ := Aside0.mk (Kd.N_lower ho55 (below_size (by repeat (first | (with_reducible first | exact HB.out | apply below_alloc | apply pw_below_drewN | apply below_drew1) | exact HB.out)))); have n1_ := Aside0.mk (below_step (by repeat (first | (with_reducible first | exact HB.out | apply below_alloc | apply pw_below_drewN | apply below_drew1) | exact HB.out)) hb); clear HB; clear HO172; clear HO175; have HO178 := n0_; have HB := n1_; clear n0_ n1_; clear hb ho55; obtain ⟨Ao56, co56, eo56⟩ := Kd.N_slice HO178.out; subst eo56) | ((with_reducible refine gate_callee (f := 17) rfl ?_); refine goesL_ (some 22) rfl rfl Try.func17 (by kernel_rfl) rfl #[.slice Ao56 y176.length co56, .int .i64 2] rfl (by (try simp only [List.map_toArray, List.map_cons, List.map_nil]); first | done | rfl | (simp only [List.length_drop, List.length_take]; rfl)) ?_; (with_reducible refine (volume_Place.calls k _ _ y176 2 t179 t180 true _ ?side1 ?side2 A1.out).mono ?_); (case side1 => repeat (first | exact (Kd.N_reads' HO178.out).2.2 | (with_reducible refine Kd.C_alloc ?_ _) | (with_reducible refine Kd.C_drewN ?_ _) | (with_reducible refine Kd.C_drew ?_))); (case side2 => exact (Kd.N_reads' HO178.out).2.1); rintro e w57 ⟨rfl, hb⟩; refine ⟨_, rfl, ?_⟩; have n0_ := Aside0.mk (Kd.N_below (by (with_reducible repeat (first | apply Kd.N_alloc | apply Kd.N_drewN | apply Kd.N_drew)); exact HO178.out) hb); have n1_ := Aside0.mk (below_step (by repeat (first | (with_reducible first | exact HB.out | apply below_alloc | apply pw_below_drewN | apply below_drew1) | exact HB.out)) hb); clear HO178; clear HB; have HO178 := n0_; have HB := n1_; clear n0_ n1_; (try clear hb); (try clear hb2); (try clear hk); (try clear hi)) | ((with_reducible refine gate_dst (N := 2) rfl ?_); (try (refine gate_guard (by rfl) ?_; dsimp only)); refine box_event ?hg (N := 2) ?hd (cs := #[.int .i64 0, .int .i64 0]) (t := 41) ?hr ?_; (case hd => rfl); (case hg => rfl); (case hr => first | (go_simp; done) | (go_simp; rfl)); intro gb182 hg w58 hbox hb; have n0_ := Aside0.mk (Kd.N_below (Kd.N_elderB (by (with_reducible repeat (first | apply Kd.N_alloc | apply Kd.N_drewN | apply Kd.N_drew)); exact HO178.out) gb182 (Nat.le_of_eq hg.symm)) hb); have n1_ := Aside0.mk (below_step (by repeat (first | (with_reducible first | exact HB.out | apply below_alloc | apply pw_below_drewN | apply below_drew1) | exact HB.out)) hb); have n2_ := Aside0.mk (hbox); have n3_ := Aside0.mk ((by rw [hg]; exact (below_size (by repeat (first | (with_reducible first | exact HB.out | apply below_alloc | apply pw_below_drewN | apply below_drew1) | exact HB.out))) : w.heap.size ≤ gb182)); have n4_ := Aside0.mk ((by rw [hg]; exact (below_size (by repeat (first | (with_reducible first | exact HB.out | apply below_alloc | apply pw_below_drewN | apply below_drew1) | exact HB.out))) : w.heap.size ≤ gb182)); clear HO178; clear HB; have HO178 := n0_; have HB := n1_; have BK182 := n2_; have GW182 := n3_; have GE182 := n4_; clear n0_ n1_ n2_ n3_ n4_; clear hb hbox hg; have hcz59_0 : w58.cell? ⟨gb182, 0, none⟩ = some (.int .i64 0) := (blk_cell BK182.out 0).trans rfl; have hcz59_1 : w58.cell? ⟨gb182, 1, none⟩ = some (.int .i64 0) := (blk_cell BK182.out 1).trans rfl; have hfz59_0 := blk_frozen BK182.out 0; have hfz59_1 := blk_frozen BK182.out 1) | ((with_reducible refine gate_callee (f := 18) rfl ?_); refine goesL_ (some 28) rfl rfl Try.func18 (by kernel_rfl) rfl #[.slice Ao56 y176.length co56, .agg #[.int .i64 t179, .int .i64 t180]] rfl (by (try simp only [List.map_toArray, List.map_cons, List.map_nil]); first | done | rfl | (simp only [List.length_drop, List.length_take]; rfl)) ?_; (with_reducible refine (volume_Index.calls k _ _ y176 t179 t180 t183 true _ ?side1 ?side2 A2.out).mono ?_); (case side1 => refine (Kd.N_reads' (e := 25) (base := w.heap.size) (ok := fun k_ => (True ∧ k_ ≠ gb182)) (n := y176.length) (c := co56) ?_).2.2; exact (by (with_reducible repeat (first | apply Kd.N_alloc | apply Kd.N_drewN | apply Kd.N_drew)); exact (Kd.N_mono (Kd.N_far (p := ⟨gb182, 1, none⟩) (Kd.N_far (p := ⟨gb182, 0, none⟩) (Kd.N_mono HO178.out (fun k_ hk => (⟨hk, hk.2⟩ : _ ∧ k_ ≠ gb182))) (fun _ hk => hk.2) (.int .i64 t179)) (fun _ hk => hk.2) (.int .i64 t180)) (fun _ h_ => h_.1)))); (case side2 => exact (Kd.N_reads' HO178.out).2.1); rintro e w60 ⟨rfl, hb⟩; refine ⟨_, rfl, ?_⟩; have n0_ := Aside0.mk (Kd.N_below (by (with_reducible repeat (first | apply Kd.N_alloc | apply Kd.N_drewN | apply Kd.N_drew)); exact (Kd.N_mono (Kd.N_far (p := ⟨gb182, 1, none⟩) (Kd.N_far (p := ⟨gb182, 0, none⟩) (Kd.N_mono HO178.out (fun k_ hk => (⟨hk, hk.2⟩ : _ ∧ k_ ≠ gb182))) (fun _ hk => hk.2) (.int .i64 t179)) (fun _ hk => hk.2) (.int .i64 t180)) (fun _ h_ => h_.1))) hb); have n1_ := Aside0.mk (blk_below (g := gb182) (o := .cells #[.int .i64 t179, .int .i64 t180] 41 (0, 0)) (by (with_reducible repeat (first | refine blk_drewN ?_ _ | refine blk_drew ?_ | refine blk_alloc ?_ _)); refine blk_put (cs := #[.int .i64 t179, .int .i64 0]) ?_ 1 _ rfl; (with_reducible repeat (first | refine blk_drewN ?_ _ | refine blk_drew ?_ | refine blk_alloc ?_ _)); refine blk_put (cs := #[.int .i64 0, .int .i64 0]) ?_ 0 _ rfl; (with_reducible repeat (first | refine blk_drewN ?_ _ | refine blk_drew ?_ | refine blk_alloc ?_ _)); exact BK182.out) hb); have n2_ := Aside0.mk (below_step (by repeat (first | (with_reducible first | exact HB.out | apply below_alloc | apply pw_below_drewN | apply below_drew1 | refine below_set ?_ GE182.out) | exact HB.out)) hb); clear HO178; clear BK182; clear HB; have HO178 := n0_; have BK182 := n1_; have HB := n2_; clear n0_ n1_ n2_; (try clear hb); (try clear hb2); (try clear hk); (try clear hi)) | ((with_reducible refine gate_callee (f := 20) rfl ?_); refine goesL_ (some 33) rfl rfl Try.func20 (by kernel_rfl) rfl #[.slice Ao56 y176.length co56, .int .i64 1, .int .i64 2] rfl (by (try simp only [List.map_toArray, List.map_cons, List.map_nil]); first | done | rfl | (simp only [List.length_drop, List.length_take]; rfl)) ?_; (with_reducible refine (volume_Bytes.calls k _ _ y176 1 2 t185 true _ ?side1 ?side2 A3.out).mono ?_); (case side1 => repeat (first | exact (Kd.N_reads' HO178.out).2.2 | (with_reducible refine Kd.C_alloc ?_ _) | (with_reducible refine Kd.C_drewN ?_ _) | (with_reducible refine Kd.C_drew ?_))); (case side2 => exact (Kd.N_reads' HO178.out).2.1); rintro e w61 ⟨v187, rfl, ho0, hb⟩; refine ⟨_, rfl, ?_⟩; have n0_ := Aside0.mk (Kd.N_elder' (by (with_reducible repeat (first | apply Kd.N_alloc | apply Kd.N_drewN | apply Kd.N_drew)); exact HO178.out) (Kd.R_base ho0) hb); have n1_ := Aside0.mk (Kd.R_lower ho0 (below_size (by repeat (first | (with_reducible first | exact HB.out | apply below_alloc | apply pw_below_drewN | apply below_drew1 | refine below_set ?_ GE182.out) | exact HB.out)))); have n2_ := Aside0.mk (blk_below (g := gb182) (o := .cells #[.int .i64 t179, .int .i64 t180] 41 (0, 0)) (by (with_reducible repeat (first | refine blk_drewN ?_ _ | refine blk_drew ?_ | refine blk_alloc ?_ _)); exact BK182.out) hb); have n3_ := Aside0.mk (below_step (by repeat (first | (with_reducible first | exact HB.out | apply below_alloc | apply pw_below_drewN | apply below_drew1 | refine below_set ?_ GE182.out) | exact HB.out)) hb); clear HO178; clear BK182; clear HB; have HO178 := n0_; have HO188 := n1_; have BK182 := n2_; have HB := n3_; clear n0_ n1_ n2_ n3_; (try clear hb); (try clear hb2); (try clear hk); (try clear hi); (try clear ho0)) | ((with_reducible refine gate_callee (f := 20) rfl ?_); refine goesL_ (some 38) rfl rfl Try.func20 (by kernel_rfl) rfl #[.slice Ao56 y176.length co56, .int .i64 2, .int .i64 2] rfl (by (try simp only [List.map_toArray, List.map_cons, List.map_nil]); first | done | rfl | (simp only [List.length_drop, List.length_take]; rfl)) ?_; (with_reducible refine (volume_Bytes.calls k _ _ y176 2 2 t189 false _ ?side1 ?side2 A4.out).mono ?_); (case side1 => repeat (first | exact (Kd.N_reads' HO178.out).2.2 | (with_reducible refine Kd.C_alloc ?_ _) | (with_reducible refine Kd.C_drewN ?_ _) | (with_reducible refine Kd.C_drew ?_))); (case side2 => exact (Kd.N_reads' HO178.out).2.1); rintro e w62 ⟨v191, rfl, ho0, hb⟩; refine ⟨_, rfl, ?_⟩; have n0_ := Aside0.mk (Kd.N_elder' (by (with_reducible repeat (first | apply Kd.N_alloc | apply Kd.N_drewN | apply Kd.N_drew)); exact HO178.out) (Kd.R_base ho0) hb); have n1_ := Aside0.mk (Kd.R_elder' (by (with_reducible repeat (first | apply Kd.R_alloc | apply Kd.R_drewN | apply Kd.R_drew)); exact HO188.out) (Kd.R_base ho0) hb); have n2_ := Aside0.mk (Kd.R_lower (Kd.R_new' ho0 (Kd.R_lt (by (with_reducible repeat (first | apply Kd.R_alloc | apply Kd.R_drewN | apply Kd.R_drew)); exact HO188.out))) (below_size (by repeat (first | (with_reducible first | exact HB.out | apply below_alloc | apply pw_below_drewN | apply below_drew1 | refine below_set ?_ GE182.out) | exact HB.out)))); have n3_ := Aside0.mk (blk_below (g := gb182) (o := .cells #[.int .i64 t179, .int .i64 t180] 41 (0, 0)) (by (with_reducible repeat (first | refine blk_drewN ?_ _ | refine blk_drew ?_ | refine blk_alloc ?_ _)); exact BK182.out) hb); have n4_ := Aside0.mk (below_step (by repeat (first | (with_reducible first | exact HB.out | apply below_alloc | apply pw_below_drewN | apply below_drew1 | refine below_set ?_ GE182.out) | exact HB.out)) hb); clear HO178; clear HO188; clear BK182; clear HB; have HO178 := n0_; have HO188 := n1_; have HO192 := n2_; have BK182 := n3_; have HB := n4_; clear n0_ n1_ n2_ n3_ n4_; (try clear hb); (try clear hb2); (try clear hk); (try clear hi); (try clear ho0); have p193 : 0 ≤ (0 : Int) := (by omega); have q193 : 0 < (y176.length : Int) := of_decide_eq_true (by first | (with_reducible assumption) | assumption); obtain ⟨ad193, A193_0, c193_0, e193, hx193_0, hl193_0, hi193_0⟩ := at_L2 (Kd.N_reads' HO178.out).2.2 0 p193 q193; cases e193; obtain ⟨ce193, hce193, hMe193, hcc193⟩ := Kd.N_get HO178.out [] 0 p193 (by first | exact q193 | exact of_decide_eq_true (by first | (with_reducible assumption) | assumption) | (have e_ := (Kd.N_reads' HO178.out).1; omega)); obtain ⟨ua193_0, uc193_0, rfl, ul193_0, ge193_0⟩ := Kd.FK_slice_open hMe193; have hv193_0 := hcc193 0 _ rfl; rw [Nat.add_zero, show ((Kd.slice 5 (Kd.int .u8))).sz = 1 from rfl, Nat.mul_one] at hv193_0; replace hv193_0 := Option.some.inj (hv193_0.symm.trans hx193_0); injection hv193_0 with hva_ hvn_ hvc_; rw [hva_] at ge193_0; rw [hvc_] at ul193_0; have HL193_0 := Aside0.mk (show Kd.V (Kd.int .u8) 5 _ w.heap.size _ _ (rd_L2 y176 0) from Kd.V_mk ul193_0 ge193_0); clear hva_ hvn_ hvc_ ge193_0 ul193_0; clear hcc193 hce193; have qi193 : (0 < y176.length) = True := eq_true (by omega); (try rw [show ((0 : Int)).toNat = 0 from rfl] at hx193_0); (try rw [Addr.add_zero'] at hx193_0); have HR193_0 := Aside0.mk hi193_0; have HC193_0 := Aside0.mk hl193_0; clear hi193_0 hl193_0; replace p193 := eq_true p193; replace q193 := eq_true q193) | ((with_reducible refine gate_dst (N := 46) rfl ?_); (try (refine gate_guard (by rfl) ?_; dsimp only)); refine Kd.N_lit k27 _ 27 ?hg (N' := 46) ?hd (xs := ([(⟨true, rd_L2 y176 0⟩ : S27), (⟨false, ([] : List Int)⟩ : S27)] : List (S27))) (inner := [.bool true, .slice A193_0 (rd_L2 y176 0).length c193_0, .bool false, .slice none 0 0]) (ok := (fun k_ => some k_ ≠ (.slice (some ad193) y176.length co56 : Value).ownBlock ∧ some k_ ≠ (v187 : Value).ownBlock ∧ some k_ ≠ (v191 : Value).ownBlock ∧ k_ ≠ gb182)) (okp := (fun k_ => some k_ ≠ (.slice (some ad193) y176.length co56 : Value).ownBlock ∧ some k_ ≠ (v187 : Value).ownBlock ∧ some k_ ≠ (v191 : Value).ownBlock ∧ k_ ≠ gb182)) ?hr ?hp (fun _ hk => hk) ((show ∀ k_, w62.heap.size ≤ k_ → (fun k_ => some k_ ≠ (.slice (some ad193) y176.length co56 : Value).ownBlock ∧ some k_ ≠ (v187 : Value).ownBlock ∧ some k_ ≠ (v191 : Value).ownBlock ∧ k_ ≠ gb182) k_ from fun k_ hk => ⟨Kd.fresh' (Kd.N_lt (by (with_reducible repeat (first | apply Kd.N_alloc | apply Kd.N_drewN | apply Kd.N_drew)); exact HO178.out)) k_ hk, Kd.fresh' (Kd.R_lt (by (with_reducible repeat (first | apply Kd.R_alloc | apply Kd.R_drewN | apply Kd.R_drew)); exact HO188.out)) k_ hk, Kd.fresh' (Kd.R_lt (by (with_reducible repeat (first | apply Kd.R_alloc | apply Kd.R_drewN | apply Kd.R_drew)); exact HO192.out)) k_ hk, Kd.freshB (g := gb182) (o := .cells #[.int .i64 t179, .int .i64 t180] 41 (0, 0)) (by (with_reducible repeat (first | refine blk_drewN ?_ _ | refine blk_drew ?_ | refine blk_alloc ?_ _)); exact BK182.out) k_ hk⟩) _ (Nat.le_refl _)) (Below.refl _ _) (Nat.le_refl _) (by simp) ?_; (case hd => rfl); (case hg => rfl); (case hr => first | (go_simp; done) | (go_simp; rfl)); (case hp => exact (Reps.c2 (show Kd.FK k27 _ _ (⟨true, rd_L2 y176 0⟩ : S27) [.bool true, .slice A193_0 (rd_L2 y176 0).length c193_0] from (k27_mkF _ _ (⟨true, rd_L2 y176 0⟩ : S27) (Kd.V_reads' (Kd.V_mono (ok' := (fun k_ => some k_ ≠ (.slice (some ad193) y176.length co56 : Value).ownBlock ∧ some k_ ≠ (v187 : Value).ownBlock ∧ some k_ ≠ (v191 : Value).ownBlock ∧ k_ ≠ gb182)) (HL193_0.out) (fun k_ hk => ⟨hk.2, ⟨hk.1.1.2, ⟨hk.1.2, hk.1.1.1.2⟩⟩⟩))).2.1 (Kd.V_F (Kd.V_mono (ok' := (fun k_ => some k_ ≠ (.slice (some ad193) y176.length co56 : Value).ownBlock ∧ some k_ ≠ (v187 : Value).ownBlock ∧ some k_ ≠ (v191 : Value).ownBlock ∧ k_ ≠ gb182)) (HL193_0.out) (fun k_ hk => ⟨hk.2, ⟨hk.1.1.2, ⟨hk.1.2, hk.1.1.1.2⟩⟩⟩))))) (Reps.c2 (show Kd.FK k27 _ _ (⟨false, ([] : List Int)⟩ : S27) [.bool false, .slice none 0 0] from (k27_mkF _ _ (⟨false, ([] : List Int)⟩ : S27) (Nat.le_refl _) (Kd.F_nil _ _ _))) (Reps.none _ _)))); intro v195 w63 ho64 hb hg_ hnew_; clear hg_ hnew_; (first | rw [← Ny194.out] at ho64 | (simp only [Int.reduceToNat] at ho64; rw [← Ny194.out] at ho64)); have n0_ := Aside0.mk (Kd.N_elder' (by (with_reducible repeat (first | apply Kd.N_alloc | apply Kd.N_drewN | apply Kd.N_drew)); exact HO178.out) (Kd.N_base ho64) hb); have n1_ := Aside0.mk (Kd.R_below (by (with_reducible repeat (first | apply Kd.R_alloc | apply Kd.R_drewN | apply Kd.R_drew)); exact HO188.out) hb); have n2_ := Aside0.mk (Kd.R_below (by (with_reducible repeat (first | apply Kd.R_alloc | apply Kd.R_drewN | apply Kd.R_drew)); exact HO192.out) hb); have n3_ := Aside0.mk (Kd.V_elder' (by (with_reducible repeat (first | apply Kd.V_alloc | apply Kd.V_drewN | apply Kd.V_drew)); exact HL193_0.out) (Kd.N_base ho64) hb); have n4_ := Aside0.mk (Kd.N_lower ho64 (below_size (by repeat (first | (with_reducible first | exact HB.out | apply below_alloc | apply pw_below_drewN | apply below_drew1 | refine below_set ?_ GE182.out) | exact HB.out)))); have n5_ := Aside0.mk (blk_below (g := gb182) (o := .cells #[.int .i64 t179, .int .i64 t180] 41 (0, 0)) (by (with_reducible repeat (first | refine blk_drewN ?_ _ | refine blk_drew ?_ | refine blk_alloc ?_ _)); exact BK182.out) hb); have n6_ := Aside0.mk (Kd.C_below (by repeat (first | (with_reducible exact HR193_0.out) | (with_reducible refine Kd.C_alloc ?_ _) | (with_reducible refine Kd.C_drewN ?_ _) | (with_reducible refine Kd.C_drew ?_) | exact HR193_0.out)) hb); have n7_ := Aside0.mk (below_step (by repeat (first | (with_reducible first | exact HB.out | apply below_alloc | apply pw_below_drewN | apply below_drew1 | refine below_set ?_ GE182.out) | exact HB.out)) hb); clear HO178; clear HO188; clear HO192; clear HL193_0; clear BK182; clear HR193_0; clear HB; have HO178 := n0_; have HO188 := n1_; have HO192 := n2_; have HL193_0 := n3_; have HO196 := n4_; have BK182 := n5_; have HR193_0 := n6_; have HB := n7_; clear n0_ n1_ n2_ n3_ n4_ n5_ n6_ n7_; clear hb ho64; obtain ⟨Ao65, co65, eo65⟩ := Kd.N_slice HO196.out; subst eo65) | ((with_reducible refine gate_callee (f := 9) rfl ?_); refine goesL_ (some 49) rfl rfl Try.func9 (by kernel_rfl) rfl #[.slice Ao65 y194.length co65, .int .i64 1] rfl (by (try simp only [List.map_toArray, List.map_cons, List.map_nil]); first | done | rfl | (simp only [List.length_drop, List.length_take]; rfl)) ?_; (with_reducible refine (volume_Row.calls k _ _ y194 1 t197 t198 _ ?side1 ?side2 A6.out).mono ?_); (case side1 => repeat (first | exact (Kd.N_reads' HO196.out).2.2 | (with_reducible refine Kd.C_alloc ?_ _) | (with_reducible refine Kd.C_drewN ?_ _) | (with_reducible refine Kd.C_drew ?_))); (case side2 => exact (Kd.N_reads' HO196.out).2.1); rintro e w66 ⟨v199, rfl, ho0, hb⟩; refine ⟨_, rfl, ?_⟩; have n0_ := Aside0.mk (Kd.N_elder' (by (with_reducible repeat (first | apply Kd.N_alloc | apply Kd.N_drewN | apply Kd.N_drew)); exact HO178.out) (Kd.N_base (Kd.S_N ho0)) hb); have n1_ := Aside0.mk (Kd.R_below (by (with_reducible repeat (first | apply Kd.R_alloc | apply Kd.R_drewN | apply Kd.R_drew)); exact HO188.out) hb); have n2_ := Aside0.mk (Kd.R_below (by (with_reducible repeat (first | apply Kd.R_alloc | apply Kd.R_drewN | apply Kd.R_drew)); exact HO192.out) hb); have n3_ := Aside0.mk (Kd.V_elder' (by (with_reducible repeat (first | apply Kd.V_alloc | apply Kd.V_drewN | apply Kd.V_drew)); exact HL193_0.out) (Kd.N_base (Kd.S_N ho0)) hb); have n4_ := Aside0.mk (Kd.N_elder' (by (with_reducible repeat (first | apply Kd.N_alloc | apply Kd.N_drewN | apply Kd.N_drew)); exact HO196.out) (Kd.N_base (Kd.S_N ho0)) hb); have n5_ := Aside0.mk (Kd.N_lower (Kd.N_mono (ok' := fun k_ => some k_ ≠ (.slice (some ad193) y176.length co56 : Value).ownBlock ∧ some k_ ≠ (v187 : Value).ownBlock ∧ some k_ ≠ (v191 : Value).ownBlock ∧ some k_ ≠ (.slice Ao65 y194.length co65 : Value).ownBlock ∧ k_ ≠ gb182) (Kd.S_N (Kd.S_bound ho0)) (fun k_ hk_ => ⟨(Kd.fresh' (Kd.N_lt (by (with_reducible repeat (first | apply Kd.N_alloc | apply Kd.N_drewN | apply Kd.N_drew)); exact HO178.out)) k_ hk_.2.1), (Kd.fresh' (Kd.R_lt (by (with_reducible repeat (first | apply Kd.R_alloc | apply Kd.R_drewN | apply Kd.R_drew)); exact HO188.out)) k_ hk_.2.1), (Kd.fresh' (Kd.R_lt (by (with_reducible repeat (first | apply Kd.R_alloc | apply Kd.R_drewN | apply Kd.R_drew)); exact HO192.out)) k_ hk_.2.1), (Kd.fresh' (Kd.N_lt (by (with_reducible repeat (first | apply Kd.N_alloc | apply Kd.N_drewN | apply Kd.N_drew)); exact HO196.out)) k_ hk_.2.1), (Kd.freshB (g := gb182) (o := .cells #[.int .i64 t179, .int .i64 t180] 41 (0, 0)) (by (with_reducible repeat (first | refine blk_drewN ?_ _ | refine blk_drew ?_ | refine blk_alloc ?_ _)); exact BK182.out) k_ hk_.2.1)⟩)) (below_size (by repeat (first | (with_reducible first | exact HB.out | apply below_alloc | apply pw_below_drewN | apply below_drew1 | refine below_set ?_ GE182.out) | exact HB.out)))); have n6_ := Aside0.mk (blk_below (g := gb182) (o := .cells #[.int .i64 t179, .int .i64 t180] 41 (0, 0)) (by (with_reducible repeat (first | refine blk_drewN ?_ _ | refine blk_drew ?_ | refine blk_alloc ?_ _)); exact BK182.out) hb); have n7_ := Aside0.mk (Kd.C_below (by repeat (first | (with_reducible exact HR193_0.out) | (with_reducible refine Kd.C_alloc ?_ _) | (with_reducible refine Kd.C_drewN ?_ _) | (with_reducible refine Kd.C_drew ?_) | exact HR193_0.out)) hb); have n8_ := Aside0.mk (below_step (by repeat (first | (with_reducible first | exact HB.out | apply below_alloc | apply pw_below_drewN | apply below_drew1 | refine below_set ?_ GE182.out) | exact HB.out)) hb); clear HO178; clear HO188; clear HO192; clear HL193_0; clear HO196; clear BK182; clear HR193_0; clear HB; have HO178 := n0_; have HO188 := n1_; have HO192 := n2_; have HL193_0 := n3_; have HO196 := n4_; have HO200 := n5_; have BK182 := n6_; have HR193_0 := n7_; have HB := n8_; clear n0_ n1_ n2_ n3_ n4_ n5_ n6_ n7_ n8_; (try clear hb); (try clear hb2); (try clear hk); (try clear hi); (try clear ho0)) | ((with_reducible refine gate_callee (f := 9) rfl ?_); refine goesL_ (some 54) rfl rfl Try.func9 (by kernel_rfl) rfl #[.slice Ao65 y194.length co65, .int .i64 2] rfl (by (try simp only [List.map_toArray, List.map_cons, List.map_nil]); first | done | rfl | (simp only [List.length_drop, List.length_take]; rfl)) ?_; (with_reducible refine (volume_Row.calls k _ _ y194 2 t201 t202 _ ?side1 ?side2 A7.out).mono ?_); (case side1 => repeat (first | exact (Kd.N_reads' HO196.out).2.2 | (with_reducible refine Kd.C_alloc ?_ _) | (with_reducible refine Kd.C_drewN ?_ _) | (with_reducible refine Kd.C_drew ?_))); (case side2 => exact (Kd.N_reads' HO196.out).2.1); rintro e w67 ⟨v203, rfl, ho0, hb⟩; refine ⟨_, rfl, ?_⟩; have n0_ := Aside0.mk (Kd.N_elder' (by (with_reducible repeat (first | apply Kd.N_alloc | apply Kd.N_drewN | apply Kd.N_drew)); exact HO178.out) (Kd.N_base (Kd.S_N ho0)) hb); have n1_ := Aside0.mk (Kd.R_below (by (with_reducible repeat (first | apply Kd.R_alloc | apply Kd.R_drewN | apply Kd.R_drew)); exact HO188.out) hb); have n2_ := Aside0.mk (Kd.R_below (by (with_reducible repeat (first | apply Kd.R_alloc | apply Kd.R_drewN | apply Kd.R_drew)); exact HO192.out) hb); have n3_ := Aside0.mk (Kd.V_elder' (by (with_reducible repeat (first | apply Kd.V_alloc | apply Kd.V_drewN | apply Kd.V_drew)); exact HL193_0.out) (Kd.N_base (Kd.S_N ho0)) hb); have n4_ := Aside0.mk (Kd.N_elder' (by (with_reducible repeat (first | apply Kd.N_alloc | apply Kd.N_drewN | apply Kd.N_drew)); exact HO196.out) (Kd.N_base (Kd.S_N ho0)) hb); have n5_ := Aside0.mk (Kd.N_elder' (by (with_reducible repeat (first | apply Kd.N_alloc | apply Kd.N_drewN | apply Kd.N_drew)); exact HO200.out) (Kd.N_base (Kd.S_N ho0)) hb); have n6_ := Aside0.mk (Kd.N_lower (Kd.N_mono (ok' := fun k_ => some k_ ≠ (.slice (some ad193) y176.length co56 : Value).ownBlock ∧ some k_ ≠ (v187 : Value).ownBlock ∧ some k_ ≠ (v191 : Value).ownBlock ∧ some k_ ≠ (.slice Ao65 y194.length co65 : Value).ownBlock ∧ some k_ ≠ (v199 : Value).ownBlock ∧ k_ ≠ gb182) (Kd.S_N (Kd.S_bound ho0)) (fun k_ hk_ => ⟨(Kd.fresh' (Kd.N_lt (by (with_reducible repeat (first | apply Kd.N_alloc | apply Kd.N_drewN | apply Kd.N_drew)); exact HO178.out)) k_ hk_.2.1), (Kd.fresh' (Kd.R_lt (by (with_reducible repeat (first | apply Kd.R_alloc | apply Kd.R_drewN | apply Kd.R_drew)); exact HO188.out)) k_ hk_.2.1), (Kd.fresh' (Kd.R_lt (by (with_reducible repeat (first | apply Kd.R_alloc | apply Kd.R_drewN | apply Kd.R_drew)); exact HO192.out)) k_ hk_.2.1), (Kd.fresh' (Kd.N_lt (by (with_reducible repeat (first | apply Kd.N_alloc | apply Kd.N_drewN | apply Kd.N_drew)); exact HO196.out)) k_ hk_.2.1), (Kd.fresh' (Kd.N_lt (by (with_reducible repeat (first | apply Kd.N_alloc | apply Kd.N_drewN | apply Kd.N_drew)); exact HO200.out)) k_ hk_.2.1), (Kd.freshB (g := gb182) (o := .cells #[.int .i64 t179, .int .i64 t180] 41 (0, 0)) (by (with_reducible repeat (first | refine blk_drewN ?_ _ | refine blk_drew ?_ | refine blk_alloc ?_ _)); exact BK182.out) k_ hk_.2.1)⟩)) (below_size (by repeat (first | (with_reducible first | exact HB.out | apply below_alloc | apply pw_below_drewN | apply below_drew1 | refine below_set ?_ GE182.out) | exact HB.out)))); have n7_ := Aside0.mk (blk_below (g := gb182) (o := .cells #[.int .i64 t179, .int .i64 t180] 41 (0, 0)) (by (with_reducible repeat (first | refine blk_drewN ?_ _ | refine blk_drew ?_ | refine blk_alloc ?_ _)); exact BK182.out) hb); have n8_ := Aside0.mk (Kd.C_below (by repeat (first | (with_reducible exact HR193_0.out) | (with_reducible refine Kd.C_alloc ?_ _) | (with_reducible refine Kd.C_drewN ?_ _) | (with_reducible refine Kd.C_drew ?_) | exact HR193_0.out)) hb); have n9_ := Aside0.mk (below_step (by repeat (first | (with_reducible first | exact HB.out | apply below_alloc | apply pw_below_drewN | apply below_drew1 | refine below_set ?_ GE182.out) | exact HB.out)) hb); clear HO178; clear HO188; clear HO192; clear HL193_0; clear HO196; clear HO200; clear BK182; clear HR193_0; clear HB; have HO178 := n0_; have HO188 := n1_; have HO192 := n2_; have HL193_0 := n3_; have HO196 := n4_; have HO200 := n5_; have HO204 := n6_; have BK182 := n7_; have HR193_0 := n8_; have HB := n9_; clear n0_ n1_ n2_ n3_ n4_ n5_ n6_ n7_ n8_ n9_; (try clear hb); (try clear hb2); (try clear hk); (try clear hi); (try clear ho0); have hcz68_0 : w67.cell? ⟨gb182, 0, none⟩ = some (.int .i64 t179) := (blk_cell BK182.out 0).trans rfl; have hcz68_1 : w67.cell? ⟨gb182, 1, none⟩ = some (.int .i64 t180) := (blk_cell BK182.out 1).trans rfl; have hfz68_0 := blk_frozen BK182.out 0; have hfz68_1 := blk_frozen BK182.out 1; have hcv69 := own_string (P := Try.prog) Try.underlying25 Try.underlying5 Try.underlying9 (Kd.own_of_R HO188.out)) | (go_at_call 22; (with_reducible refine (volume_Rest.calls k _ _ y176 1 t205 _ ?side1 ?side2 A37.out).mono ?_); (case side1 => repeat (first | exact (Kd.N_reads' HO178.out).2.2 | (with_reducible refine Kd.C_alloc ?_ _) | (with_reducible refine Kd.C_drewN ?_ _) | (with_reducible refine Kd.C_drew ?_))); (case side2 => exact (Kd.N_reads' HO178.out).2.1); rintro e w70 ⟨v206, rfl, ho0, hb⟩; have n0_ := Aside0.mk (Kd.N_elder' (by (with_reducible repeat (first | apply Kd.N_alloc | apply Kd.N_drewN | apply Kd.N_drew)); exact HO178.out) (Kd.R_base ho0) hb); have n1_ := Aside0.mk (Kd.R_elder' (by (with_reducible repeat (first | apply Kd.R_alloc | apply Kd.R_drewN | apply Kd.R_drew)); exact HO188.out) (Kd.R_base ho0) hb); have n2_ := Aside0.mk (Kd.R_elder' (by (with_reducible repeat (first | apply Kd.R_alloc | apply Kd.R_drewN | apply Kd.R_drew)); exact HO192.out) (Kd.R_base ho0) hb); have n3_ := Aside0.mk (Kd.V_elder' (by (with_reducible repeat (first | apply Kd.V_alloc | apply Kd.V_drewN | apply Kd.V_drew)); exact HL193_0.out) (Kd.R_base ho0) hb); have n4_ := Aside0.mk (Kd.N_elder' (by (with_reducible repeat (first | apply Kd.N_alloc | apply Kd.N_drewN | apply Kd.N_drew)); exact HO196.out) (Kd.R_base ho0) hb); have n5_ := Aside0.mk (Kd.N_elder' (by (with_reducible repeat (first | apply Kd.N_alloc | apply Kd.N_drewN | apply Kd.N_drew)); exact HO200.out) (Kd.R_base ho0) hb); have n6_ := Aside0.mk (Kd.N_elder' (by (with_reducible repeat (first | apply Kd.N_alloc | apply Kd.N_drewN | apply Kd.N_drew)); exact HO204.out) (Kd.R_base ho0) hb); have n7_ := Aside0.mk (Kd.R_lower (Kd.R_new' (Kd.R_new' ho0 (Kd.R_lt (by (with_reducible repeat (first | apply Kd.R_alloc | apply Kd.R_drewN | apply Kd.R_drew)); exact HO188.out))) (Kd.R_lt (by (with_reducible repeat (first | apply Kd.R_alloc | apply Kd.R_drewN | apply Kd.R_drew)); exact HO192.out))) (below_size (by repeat (first | (with_reducible first | exact HB.out | apply below_alloc | apply pw_below_drewN | apply below_drew1 | refine below_set ?_ GE182.out) | exact HB.out)))); have n8_ := Aside0.mk (blk_below (g := gb182) (o := .cells #[.int .i64 t179, .int .i64 t180] 41 (0, 0)) (by (with_reducible repeat (first | refine blk_drewN ?_ _ | refine blk_drew ?_ | refine blk_alloc ?_ _)); exact BK182.out) hb); have n9_ := Aside0.mk (Kd.C_below (by repeat (first | (with_reducible exact HR193_0.out) | (with_reducible refine Kd.C_alloc ?_ _) | (with_reducible refine Kd.C_drewN ?_ _) | (with_reducible refine Kd.C_drew ?_) | exact HR193_0.out)) hb); have n10_ := Aside0.mk (below_step (by repeat (first | (with_reducible first | exact HB.out | apply below_alloc | apply pw_below_drewN | apply below_drew1 | refine below_set ?_ GE182.out) | exact HB.out)) hb); clear HO178; clear HO188; clear HO192; clear HL193_0; clear HO196; clear HO200; clear HO204; clear BK182; clear HR193_0; clear HB; have HO178 := n0_; have HO188 := n1_; have HO192 := n2_; have HL193_0 := n3_; have HO196 := n4_; have HO200 := n5_; have HO204 := n6_; have HO207 := n7_; have BK182 := n8_; have HR193_0 := n9_; have HB := n10_; clear n0_ n1_ n2_ n3_ n4_ n5_ n6_ n7_ n8_ n9_ n10_; (try clear hb); (try clear hb2); (try clear hk); (try clear hi); (try clear ho0); have hcv71 := own_string (P := Try.prog) Try.underlying25 Try.underlying5 Try.underlying9 (Kd.own_of_R HO207.out); obtain ⟨Ao72, co72, eo72⟩ := Kd.N_slice HO200.out; subst eo72) | (go_at_call 16; (with_reducible refine (volume_Size.calls k _ _ y176 t208 _ ?side1 ?side2 A42.out).mono ?_); (case side1 => repeat (first | exact (Kd.N_reads' HO178.out).2.2 | (with_reducible refine Kd.C_alloc ?_ _) | (with_reducible refine Kd.C_drewN ?_ _) | (with_reducible refine Kd.C_drew ?_))); (case side2 => exact (Kd.N_reads' HO178.out).2.1); rintro e w' ⟨rfl, ⟨nd, rfl⟩⟩) | (go_at_call 12; (with_reducible refine (volume_Count.calls k _ _ y194 t209 _ ?side1 ?side2 A44.out).mono ?_); (case side1 => repeat (first | exact (Kd.N_reads' HO196.out).2.2 | (with_reducible refine Kd.C_alloc ?_ _) | (with_reducible refine Kd.C_drewN ?_ _) | (with_reducible refine Kd.C_drew ?_))); (case side2 => exact (Kd.N_reads' HO196.out).2.1); rintro e w73 ⟨rfl, hb⟩; have n0_ := Aside0.mk (Kd.N_below (by (with_reducible repeat (first | apply Kd.N_alloc | apply Kd.N_drewN | apply Kd.N_drew)); exact HO178.out) hb); have n1_ := Aside0.mk (Kd.R_below (by (with_reducible repeat (first | apply Kd.R_alloc | apply Kd.R_drewN | apply Kd.R_drew)); exact HO188.out) hb); have n2_ := Aside0.mk (Kd.R_below (by (with_reducible repeat (first | apply Kd.R_alloc | apply Kd.R_drewN | apply Kd.R_drew)); exact HO192.out) hb); have n3_ := Aside0.mk (Kd.V_below (by (with_reducible repeat (first | apply Kd.V_alloc | apply Kd.V_drewN | apply Kd.V_drew)); exact HL193_0.out) hb); have n4_ := Aside0.mk (Kd.N_below (by (with_reducible repeat (first | apply Kd.N_alloc | apply Kd.N_drewN | apply Kd.N_drew)); exact HO196.out) hb); have n5_ := Aside0.mk (Kd.N_below (by (with_reducible repeat (first | apply Kd.N_alloc | apply Kd.N_drewN | apply Kd.N_drew)); exact HO200.out) hb); have n6_ := Aside0.mk (Kd.N_below (by (with_reducible repeat (first | apply Kd.N_alloc | apply Kd.N_drewN | apply Kd.N_drew)); exact HO204.out) hb); have n7_ := Aside0.mk (Kd.R_below (by (with_reducible repeat (first | apply Kd.R_alloc | apply Kd.R_drewN | apply Kd.R_drew)); exact HO207.out) hb); have n8_ := Aside0.mk (blk_below (g := gb182) (o := .cells #[.int .i64 t179, .int .i64 t180] 41 (0, 0)) (by (with_reducible repeat (first | refine blk_drewN ?_ _ | refine blk_drew ?_ | refine blk_alloc ?_ _)); exact BK182.out) hb); have n9_ := Aside0.mk (Kd.C_below (by repeat (first | (with_reducible exact HR193_0.out) | (with_reducible refine Kd.C_alloc ?_ _) | (with_reducible refine Kd.C_drewN ?_ _) | (with_reducible refine Kd.C_drew ?_) | exact HR193_0.out)) hb); have n10_ := Aside0.mk (below_step (by repeat (first | (with_reducible first | exact HB.out | apply below_alloc | apply pw_below_drewN | apply below_drew1 | refine below_set ?_ GE182.out) | exact HB.out)) hb); clear HO178; clear HO188; clear HO192; clear HL193_0; clear HO196; clear HO200; clear HO204; clear HO207; clear BK182; clear HR193_0; clear HB; have HO178 := n0_; have HO188 := n1_; have HO192 := n2_; have HL193_0 := n3_; have HO196 := n4_; have HO200 := n5_; have HO204 := n6_; have HO207 := n7_; have BK182 := n8_; have HR193_0 := n9_; have HB := n10_; clear n0_ n1_ n2_ n3_ n4_ n5_ n6_ n7_ n8_ n9_ n10_; (try clear hb); (try clear hb2); (try clear hk); (try clear hi)) | (go_at_call 15; (with_reducible refine (volume_Clone.calls k _ _ y194 t210 _ ?side1 ?side2 A46.out).mono ?_); (case side1 => repeat (first | exact (Kd.N_reads' HO196.out).2.2 | (with_reducible refine Kd.C_alloc ?_ _) | (with_reducible refine Kd.C_drewN ?_ _) | (with_reducible refine Kd.C_drew ?_))); (case side2 => exact (Kd.N_reads' HO196.out).2.1); rintro e w74 ⟨v211, rfl, ho0, hb⟩; have n0_ := Aside0.mk (Kd.N_elder' (by (with_reducible repeat (first | apply Kd.N_alloc | apply Kd.N_drewN | apply Kd.N_drew)); exact HO178.out) (Kd.N_base (Kd.S_N ho0)) hb); have n1_ := Aside0.mk (Kd.R_below (by (with_reducible repeat (first | apply Kd.R_alloc | apply Kd.R_drewN | apply Kd.R_drew)); exact HO188.out) hb); have n2_ := Aside0.mk (Kd.R_below (by (with_reducible repeat (first | apply Kd.R_alloc | apply Kd.R_drewN | apply Kd.R_drew)); exact HO192.out) hb); have n3_ := Aside0.mk (Kd.V_elder' (by (with_reducible repeat (first | apply Kd.V_alloc | apply Kd.V_drewN | apply Kd.V_drew)); exact HL193_0.out) (Kd.N_base (Kd.S_N ho0)) hb); have n4_ := Aside0.mk (Kd.N_elder' (by (with_reducible repeat (first | apply Kd.N_alloc | apply Kd.N_drewN | apply Kd.N_drew)); exact HO196.out) (Kd.N_base (Kd.S_N ho0)) hb); have n5_ := Aside0.mk (Kd.N_elder' (by (with_reducible repeat (first | apply Kd.N_alloc | apply Kd.N_drewN | apply Kd.N_drew)); exact HO200.out) (Kd.N_base (Kd.S_N ho0)) hb); have n6_ := Aside0.mk (Kd.N_elder' (by (with_reducible repeat (first | apply Kd.N_alloc | apply Kd.N_drewN | apply Kd.N_drew)); exact HO204.out) (Kd.N_base (Kd.S_N ho0)) hb); have n7_ := Aside0.mk (Kd.R_below (by (with_reducible repeat (first | apply Kd.R_alloc | apply Kd.R_drewN | apply Kd.R_drew)); exact HO207.out) hb); have n8_ := Aside0.mk (Kd.N_lower (Kd.N_mono (ok' := fun k_ => some k_ ≠ (.slice (some ad193) y176.length co56 : Value).ownBlock ∧ some k_ ≠ (v187 : Value).ownBlock ∧ some k_ ≠ (v191 : Value).ownBlock ∧ some k_ ≠ (.slice Ao65 y194.length co65 : Value).ownBlock ∧ some k_ ≠ (.slice Ao72 t197.length co72 : Value).ownBlock ∧ some k_ ≠ (v203 : Value).ownBlock ∧ some k_ ≠ (v206 : Value).ownBlock ∧ k_ ≠ gb182) (Kd.S_N (Kd.S_bound ho0)) (fun k_ hk_ => ⟨(Kd.fresh' (Kd.N_lt (by (with_reducible repeat (first | apply Kd.N_alloc | apply Kd.N_drewN | apply Kd.N_drew)); exact HO178.out)) k_ hk_.2.1), (Kd.fresh' (Kd.R_lt (by (with_reducible repeat (first | apply Kd.R_alloc | apply Kd.R_drewN | apply Kd.R_drew)); exact HO188.out)) k_ hk_.2.1), (Kd.fresh' (Kd.R_lt (by (with_reducible repeat (first | apply Kd.R_alloc | apply Kd.R_drewN | apply Kd.R_drew)); exact HO192.out)) k_ hk_.2.1), (Kd.fresh' (Kd.N_lt (by (with_reducible repeat (first | apply Kd.N_alloc | apply Kd.N_drewN | apply Kd.N_drew)); exact HO196.out)) k_ hk_.2.1), (Kd.fresh' (Kd.N_lt (by (with_reducible repeat (first | apply Kd.N_alloc | apply Kd.N_drewN | apply Kd.N_drew)); exact HO200.out)) k_ hk_.2.1), (Kd.fresh' (Kd.N_lt (by (with_reducible repeat (first | apply Kd.N_alloc | apply Kd.N_drewN | apply Kd.N_drew)); exact HO204.out)) k_ hk_.2.1), (Kd.fresh' (Kd.R_lt (by (with_reducible repeat (first | apply Kd.R_alloc | apply Kd.R_drewN | apply Kd.R_drew)); exact HO207.out)) k_ hk_.2.1), (Kd.freshB (g := gb182) (o := .cells #[.int .i64 t179, .int .i64 t180] 41 (0, 0)) (by (with_reducible repeat (first | refine blk_drewN ?_ _ | refine blk_drew ?_ | refine blk_alloc ?_ _)); exact BK182.out) k_ hk_.2.1)⟩)) (below_size (by repeat (first | (with_reducible first | exact HB.out | apply below_alloc | apply pw_below_drewN | apply below_drew1 | refine below_set ?_ GE182.out) | exact HB.out)))); have n9_ := Aside0.mk (blk_below (g := gb182) (o := .cells #[.int .i64 t179, .int .i64 t180] 41 (0, 0)) (by (with_reducible repeat (first | refine blk_drewN ?_ _ | refine blk_drew ?_ | refine blk_alloc ?_ _)); exact BK182.out) hb); have n10_ := Aside0.mk (Kd.C_below (by repeat (first | (with_reducible exact HR193_0.out) | (with_reducible refine Kd.C_alloc ?_ _) | (with_reducible refine Kd.C_drewN ?_ _) | (with_reducible refine Kd.C_drew ?_) | exact HR193_0.out)) hb); have n11_ := Aside0.mk (below_step (by repeat (first | (with_reducible first | exact HB.out | apply below_alloc | apply pw_below_drewN | apply below_drew1 | refine below_set ?_ GE182.out) | exact HB.out)) hb); clear HO178; clear HO188; clear HO192; clear HL193_0; clear HO196; clear HO200; clear HO204; clear HO207; clear BK182; clear HR193_0; clear HB; have HO178 := n0_; have HO188 := n1_; have HO192 := n2_; have HL193_0 := n3_; have HO196 := n4_; have HO200 := n5_; have HO204 := n6_; have HO207 := n7_; have HO212 := n8_; have BK182 := n9_; have HR193_0 := n10_; have HB := n11_; clear n0_ n1_ n2_ n3_ n4_ n5_ n6_ n7_ n8_ n9_ n10_ n11_; (try clear hb); (try clear hb2); (try clear hk); (try clear hi); (try clear ho0); obtain ⟨Ao75, co75, eo75⟩ := Kd.N_slice HO212.out; subst eo75) | (go_at_call 13; (with_reducible refine (volume_Same.calls k _ _ t210 _ _ y194 t213 _ ?side1 ?side2 ?side3 ?side4 A47.out).mono ?_); (case side1 => repeat (first | exact (Kd.N_reads' HO212.out).2.2 | (with_reducible refine Kd.C_alloc ?_ _) | (with_reducible refine Kd.C_drewN ?_ _) | (with_reducible refine Kd.C_drew ?_))); (case side2 => exact (Kd.N_reads' HO212.out).2.1); (case side3 => repeat (first | exact (Kd.N_reads' HO196.out).2.2 | (with_reducible refine Kd.C_alloc ?_ _) | (with_reducible refine Kd.C_drewN ?_ _) | (with_reducible refine Kd.C_drew ?_))); (case side4 => exact (Kd.N_reads' HO196.out).2.1); rintro e w76 ⟨rfl, hb⟩; have n0_ := Aside0.mk (Kd.N_below (by (with_reducible repeat (first | apply Kd.N_alloc | apply Kd.N_drewN | apply Kd.N_drew)); exact HO178.out) hb); have n1_ := Aside0.mk (Kd.R_below (by (with_reducible repeat (first | apply Kd.R_alloc | apply Kd.R_drewN | apply Kd.R_drew)); exact HO188.out) hb); have n2_ := Aside0.mk (Kd.R_below (by (with_reducible repeat (first | apply Kd.R_alloc | apply Kd.R_drewN | apply Kd.R_drew)); exact HO192.out) hb); have n3_ := Aside0.mk (Kd.V_below (by (with_reducible repeat (first | apply Kd.V_alloc | apply Kd.V_drewN | apply Kd.V_drew)); exact HL193_0.out) hb); have n4_ := Aside0.mk (Kd.N_below (by (with_reducible repeat (first | apply Kd.N_alloc | apply Kd.N_drewN | apply Kd.N_drew)); exact HO196.out) hb); have n5_ := Aside0.mk (Kd.N_below (by (with_reducible repeat (first | apply Kd.N_alloc | apply Kd.N_drewN | apply Kd.N_drew)); exact HO200.out) hb); have n6_ := Aside0.mk (Kd.N_below (by (with_reducible repeat (first | apply Kd.N_alloc | apply Kd.N_drewN | apply Kd.N_drew)); exact HO204.out) hb); have n7_ := Aside0.mk (Kd.R_below (by (with_reducible repeat (first | apply Kd.R_alloc | apply Kd.R_drewN | apply Kd.R_drew)); exact HO207.out) hb); have n8_ := Aside0.mk (Kd.N_below (by (with_reducible repeat (first | apply Kd.N_alloc | apply Kd.N_drewN | apply Kd.N_drew)); exact HO212.out) hb); have n9_ := Aside0.mk (blk_below (g := gb182) (o := .cells #[.int .i64 t179, .int .i64 t180] 41 (0, 0)) (by (with_reducible repeat (first | refine blk_drewN ?_ _ | refine blk_drew ?_ | refine blk_alloc ?_ _)); exact BK182.out) hb); have n10_ := Aside0.mk (Kd.C_below (by repeat (first | (with_reducible exact HR193_0.out) | (with_reducible refine Kd.C_alloc ?_ _) | (with_reducible refine Kd.C_drewN ?_ _) | (with_reducible refine Kd.C_drew ?_) | exact HR193_0.out)) hb); have n11_ := Aside0.mk (below_step (by repeat (first | (with_reducible first | exact HB.out | apply below_alloc | apply pw_below_drewN | apply below_drew1 | refine below_set ?_ GE182.out) | exact HB.out)) hb); clear HO178; clear HO188; clear HO192; clear HL193_0; clear HO196; clear HO200; clear HO204; clear HO207; clear HO212; clear BK182; clear HR193_0; clear HB; have HO178 := n0_; have HO188 := n1_; have HO192 := n2_; have HL193_0 := n3_; have HO196 := n4_; have HO200 := n5_; have HO204 := n6_; have HO207 := n7_; have HO212 := n8_; have BK182 := n9_; have HR193_0 := n10_; have HB := n11_; clear n0_ n1_ n2_ n3_ n4_ n5_ n6_ n7_ n8_ n9_ n10_ n11_; (try clear hb); (try clear hb2); (try clear hk); (try clear hi)))
                              all_goals (go_ret; exact ⟨by first | rfl | (simp [errW_none, errW_some] <;> rfl) | (simp [*, errW_none, errW_some] <;> rfl), by repeat (first | (with_reducible first | exact HB.out | apply below_alloc | apply pw_below_drewN | apply below_drew1 | refine below_set ?_ GE182.out) | exact HB.out)⟩)
                            · rw [if_neg c45] at H
                              exact absurd ((Option.some.inj H).trans hr) (by decide)
                          · rw [if_neg c43] at H
                            exact absurd ((Option.some.inj H).trans hr) (by decide)
                        · rw [if_neg c41] at H
                          exact absurd ((Option.some.inj H).trans hr) (by decide)
                      · rw [if_neg c40] at H
                        exact absurd ((Option.some.inj H).trans hr) (by decide)
                    · rw [if_neg c39] at H
                      exact absurd ((Option.some.inj H).trans hr) (by decide)
                  · rw [if_neg c38] at H
                    exact absurd ((Option.some.inj H).trans hr) (by decide)
              · replace c13 := Bool.eq_false_iff.mpr c13
                subst c13
                have H1 : (some false) = some r := by rw [if_neg (show ¬ (false = true) by decide)] at H; exact H
                exact absurd ((Option.some.inj H1).trans hr) (by decide)
            · rw [if_neg c12] at H
              exact absurd ((Option.some.inj H).trans hr) (by decide)
          · replace c11 := Bool.eq_false_iff.mpr c11
            subst c11
            have H1 : (some false) = some r := by rw [if_neg (show ¬ (false = true) by decide)] at H; exact H
            exact absurd ((Option.some.inj H1).trans hr) (by decide)
        · rw [if_neg c10] at H
          exact absurd ((Option.some.inj H).trans hr) (by decide)
      · replace c9 := Bool.eq_false_iff.mpr c9
        subst c9
        have H1 : (some false) = some r := by rw [if_neg (show ¬ (false = true) by decide)] at H; exact H
        exact absurd ((Option.some.inj H1).trans hr) (by decide)
    · rw [if_neg c8] at H
      exact absurd ((Option.some.inj H).trans hr) (by decide)
  · rw [if_neg c5] at H
    exact absurd H (by simp)

theorem footlockerlaw21_alive.ev : ∃ k, footlockerlaw21_alive.f k = some true := ⟨60, by decide +kernel⟩
theorem footlockerlaw21_alive.calls (k : Nat)  (r : Bool) (w : World) (h : footlockerlaw21_alive.f k  = some r)  :
    Calls Try.prog 7 #[] w fun e w' => e = .returned (.bool r) ∧ Below w.heap.size w w' := by
  cases r with
  | true => exact footlockerlaw21_alive.calls_true k true w h rfl
  | false =>
    obtain ⟨k', h'⟩ := footlockerlaw21_alive.ev
    have h1 := at_rounds footlockerlaw21_alive.mono (Nat.le_max_left k k') h
    have h2 := at_rounds footlockerlaw21_alive.mono (Nat.le_max_right k k') h'
    rw [h1] at h2
    cases h2

end Go.Proofs.Ytngifdhaiimikaa.Q
