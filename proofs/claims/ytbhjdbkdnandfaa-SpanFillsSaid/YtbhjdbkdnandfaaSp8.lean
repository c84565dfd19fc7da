/- Walks of the functions 8,7, printed by wip/fw/walk.py out of sp6.py. -/
import Derived.Test.YtbhjdbkdnandfaaSp7
namespace Go.Proofs.Ytbhjdbkdnandfaa.Sp
open Go Go.RowKit Go.Fw Go.Fw.Asn Go.Proofs
set_option linter.unusedVariables false
set_option maxRecDepth 100000 in
theorem few_calls {w0 w : World} {F : Nat → Prop} {L : List Asn} {A : Option Addr} {c : Nat} {ops : OpL} (h : St w0 F L w) (ho : FOps F w0 A ops) (hl : ops.length ≤ 9223372036854775807) :
    Runs Try.prog 8 [.slice A ops.length c] w (fun v w' => v = .bool (fewB ops) ∧ St w0 F L w') := by
  refine Runs_of (N := 19) Try.func8 rfl rfl (by simp) ?_
  refine W_seq ?_
  refine W_region ?_   -- region 0
  refine L_op (d_assign (v := .bool _) rfl) ?_   -- 2 (Op.assign ((false)))
  refine L_nil ?_
  refine W_seq ?_   -- join1: live (0, ops)
  refine W_seq ?_
  refine W_region ?_   -- region 1
  refine L_op (d_move (v := .slice _ _ _) rfl) ?_   -- 5 (Op.move t0)
  refine L_op (d_lenB sl22 rfl) ?_   -- 6 (Op.call {(Callee.builtin Builtin.len), [t5], [22]})
  refine L_op (d_move (v := .int .i64 _) rfl) ?_   -- 7 (Op.move ((0)))
  refine L_nil ?_
  refine W_block ?_   -- block 0
  refine W_while (σ := Nat) 0 (fun i => [(0, .slice A ops.length c), (5, .slice A ops.length c), (6, .int .i64 ops.length), (7, .int .i64 i)])
    (fun i w1 => St w0 F L w1 ∧ i ≤ ops.length ∧ ∀ o ∈ ops.take i, o.2.length ≤ 60) (fun i => ops.length - i) ⟨rfl, rfl, rfl, rfl, trivial⟩ ⟨h, Nat.zero_le _, by simp⟩ ?_
  rintro i w1 b_ ⟨h, hi, hf⟩
  refine W_seq ?_
  refine W_region ?_   -- region 2
  refine L_op (d_lss rfl rfl) ?_   -- 8 (Op.binOp BinOp.lss 3 t7 t6 3)
  refine L_nil ?_
  refine W_seq ?_   -- join2: live (0, ops), (5, _), (6, _), (7, _)
  refine W_if rfl (fun c8 => ?_) (fun c8 => ?_)
  · -- c8 yes
    have hi2 : i < ops.length := by omega
    obtain ⟨a, B, cb, rfl, hcb, hrb, hld⟩ := ho.get hi2
    generalize hoo : ops[i] = o at hcb hrb hld ⊢
    refine W_skip ?_
    refine W_seq ?_   -- join3: live (0, ops), (5, _), (6, _), (7, _)
    refine W_block ?_   -- block 1
    refine W_seq ?_
    refine W_region ?_   -- region 3
    refine L_op (d_ix (m := i) sl22 rfl rfl rfl hi2) ?_   -- 9 (Op.indexAddr 22 t5 t7)
    refine L_op (d_loadAggB [.int .i64 o.1, .slice B o.2.length cb] ag35 rfl rfl (hld h)) ?_   -- 10 (Op.load 35 t9)
    --- 4 (Op.alloc 35)
    refine L_allocB h [.int .i64 0, .slice none 0 0] zi35 rfl (fun g4 w h b => ?_)
    --- None (Op.store 35 t4 t10)
    first
      | refine L_storeBlk h (i := 0) (vs := [.int .i64 _, .slice _ _ _]) rfl sz35 rfl rfl (by simp [Value.oneCell']) rfl (fun w h => ?_)
      | refine L_storeBlk h (i := 1) (vs := [.int .i64 _, .slice _ _ _]) rfl sz35 rfl rfl (by simp [Value.oneCell']) rfl (fun w h => ?_)
      | refine L_storeBlk h (i := 2) (vs := [.int .i64 _, .slice _ _ _]) rfl sz35 rfl rfl (by simp [Value.oneCell']) rfl (fun w h => ?_)
      | refine L_storeBlk h (i := 3) (vs := [.int .i64 _, .slice _ _ _]) rfl sz35 rfl rfl (by simp [Value.oneCell']) rfl (fun w h => ?_)
      | refine L_storeBlk h (i := 4) (vs := [.int .i64 _, .slice _ _ _]) rfl sz35 rfl rfl (by simp [Value.oneCell']) rfl (fun w h => ?_)
      | refine L_storeBlk h (i := 5) (vs := [.int .i64 _, .slice _ _ _]) rfl sz35 rfl rfl (by simp [Value.oneCell']) rfl (fun w h => ?_)
      | refine L_storeBlk h (i := 6) (vs := [.int .i64 _, .slice _ _ _]) rfl sz35 rfl rfl (by simp [Value.oneCell']) rfl (fun w h => ?_)
      | refine L_storeBlk h (i := 7) (vs := [.int .i64 _, .slice _ _ _]) rfl sz35 rfl rfl (by simp [Value.oneCell']) rfl (fun w h => ?_)
    refine L_nil ?_
    refine W_seq ?_
    refine W_region ?_   -- region 4
    refine L_op (d_fieldAddrB fa35_1 rfl) ?_   -- 11 (Op.fieldAddr 35 t4 1)
    refine L_op (d_loadB sc33 (v := .slice _ _ _) rfl (by first | exact (h).cell (i := 0) rfl rfl | exact (h).cell (i := 1) rfl rfl | exact (h).cell (i := 2) rfl rfl | exact (h).cell (i := 3) rfl rfl | exact (h).cell (i := 4) rfl rfl | exact (h).cell (i := 5) rfl rfl | exact (h).cell (i := 6) rfl rfl | exact (h).cell (i := 7) rfl rfl | exact (h).cell (i := 8) rfl rfl)) ?_   -- 12 (Op.load 33 t11)
    refine L_op (d_lenB sl33 rfl) ?_   -- 13 (Op.call {(Callee.builtin Builtin.len), [t12], [33]})
    refine L_op (d_gtr rfl rfl) ?_   -- 14 (Op.binOp BinOp.gtr 3 t13 ((60)) 3)
    refine L_nil ?_
    refine W_if rfl (fun c14 => ?_) (fun c14 => ?_)
    · -- c14 yes
      refine W_seq ?_
      refine W_region ?_   -- region 5
      refine L_op (d_assign (v := .bool _) rfl) ?_   -- 2 (Op.assign ((false)))
      refine L_nil ?_
      refine W_ret (Ret1 (v1 := .bool _) rfl rfl ?_)
      refine ⟨?_, h.drop⟩
      have : fewB ops = false := by
        rw [Bool.eq_false_iff]
        intro e
        have := (fewB_iff.1 e).1 o (hoo ▸ List.getElem_mem hi2)
        omega
      rw [this]
    · -- c14 no
      refine W_skip ?_
      refine W_region ?_   -- region 6
      refine L_op (d_add' (has_i64 (by omega) (by omega)) rfl rfl) ?_   -- 15 (Op.binOp BinOp.add 3 t7 ((1)) 3)
      refine L_op (d_move (v := .int .i64 _) rfl) ?_   -- 7 (Op.move t15)
      refine L_nil ?_
      refine ⟨i + 1, ⟨rfl, rfl, rfl, rfl, trivial⟩, ⟨h.drop, by omega, ?_⟩, by omega⟩
      rw [← List.take_append_getElem hi2, hoo]
      intro o2 ho2
      rcases List.mem_append.1 ho2 with h2 | h2
      · exact hf o2 h2
      · obtain rfl : o2 = o := by simpa using h2
        omega
  · -- c8 no
    refine W_exit (X_here ?_)
    refine W_seq ?_
    refine W_region ?_   -- region 7
    refine L_op (d_move (v := .slice _ _ _) rfl) ?_   -- 16 (Op.move t0)
    refine L_op (d_lenB sl22 rfl) ?_   -- 17 (Op.call {(Callee.builtin Builtin.len), [t16], [22]})
    refine L_op (d_leq rfl rfl) ?_   -- 18 (Op.binOp BinOp.leq 3 t17 ((20)) 3)
    refine L_op (d_assign (v := .bool _) rfl) ?_   -- 2 (Op.assign t18)
    refine L_nil ?_
    refine W_ret (Ret1 (v1 := .bool _) rfl rfl ?_)
    refine ⟨?_, h⟩
    obtain rfl : i = ops.length := by omega
    rw [List.take_length] at hf
    have : fewB ops = decide (((ops.length : Nat) : Int) ≤ 20) := by
      rw [fewB, decide_eq_true hf, Bool.true_and]
      congr 1
      exact propext ⟨fun h => by omega, fun h => by omega⟩
    rw [this]

set_option maxRecDepth 100000 in
theorem alive_calls (w : World) : Runs Try.prog 7 [] w (fun v w' => v = .bool true ∧ Below w.heap.size w w') := by
  have h := St.start w
  refine Runs_of (N := 97) Try.func7 rfl rfl (by simp) ?_
  refine W_seq ?_
  refine W_region ?_   -- region 0
  refine L_op (d_assign (v := .bool _) rfl) ?_   -- 0 (Op.assign ((false)))
  refine L_nil ?_
  refine W_seq ?_
  refine W_region ?_   -- region 1
  --- 13 (Op.call {(Callee.value (Operand.func 9)), [((6))], [3]})
  refine L_callB fn9 rfl (new_calls _ 6 (by decide)) ?_
  rintro v13 w1 hv
  rw [if_neg (by decide)] at hv
  obtain ⟨gw, rfl, hm⟩ := hv
  replace h := h.take hm
  refine L_op (d_move (v := .tuple _) rfl) ?_   -- 12 (Op.move t13)
  refine L_op (d_extract (v := .pointer _) rfl rfl) ?_   -- 14 (Op.extract t12 0)
  refine L_op (d_extract (v := .int .i64 _) rfl rfl) ?_   -- 15 (Op.extract t12 1)
  refine L_op (d_assign (v := .pointer _) rfl) ?_   -- 1 (Op.assign t14)
  refine L_op (d_assign (v := .int .i64 _) rfl) ?_   -- 2 (Op.assign t15)
  refine L_nil ?_
  refine W_seq ?_
  refine W_region ?_   -- region 2
  --- 17 (Op.call {(Callee.value (Operand.func 9)), [((4))], [3]})
  refine L_callB fn9 rfl (new_calls _ 4 (by decide)) ?_
  rintro v17 w1 hv
  rw [if_pos (by decide)] at hv
  obtain ⟨rfl, b⟩ := hv
  replace h := h.keep b
  refine L_op (d_move (v := .tuple _) rfl) ?_   -- 16 (Op.move t17)
  refine L_op (d_extract (v := .pointer _) rfl rfl) ?_   -- 18 (Op.extract t16 0)
  refine L_op (d_extract (v := .int .i64 _) rfl rfl) ?_   -- 19 (Op.extract t16 1)
  refine L_op (d_assign (v := .pointer _) rfl) ?_   -- 3 (Op.assign t18)
  refine L_op (d_assign (v := .int .i64 _) rfl) ?_   -- 4 (Op.assign t19)
  refine L_nil ?_
  refine W_seq ?_   -- join1: live (1, _), (2, _), (4, _)
  refine W_seq ?_
  refine W_region ?_   -- region 3
  refine L_op (d_move (v := .pointer _) rfl) ?_   -- 20 (Op.move t1)
  refine L_op (d_eqlPtr ptr25 rfl rfl) ?_   -- 21 (Op.binOp BinOp.eql 25 t20 ((Value.pointer none)) 25)
  refine L_nil ?_
  refine W_false (rfl) ?_
  refine W_skip ?_
  refine W_seq ?_
  refine W_region ?_   -- region 5
  refine L_op (d_move (v := .pointer _) rfl) ?_   -- 22 (Op.move t1)
  obtain ⟨gr, c, A, k, hb, hv, hk⟩ := wr_reads h (i := 0) rfl
  --- 23 (Op.call {(Callee.value (Operand.func 17)), [t22, ((2))], [25, 3]})
  refine L_callB fn17 rfl (next_calls hb hv (by decide) (by decide) (by decide) (by decide) 2) ?_
  rintro _ w ⟨rfl, b⟩
  replace h := h.keep b
  --- 5 (Op.alloc 37)
  refine L_allocB h [.int .i64 0, .int .i64 0] zi37 rfl (fun g5 w h b => ?_)
  --- None (Op.store 37 t5 t23)
  first
    | refine L_storeBlk h (i := 0) (vs := [.int .i64 _, .int .i64 _]) rfl sz37 rfl rfl (by simp [Value.oneCell']) rfl (fun w h => ?_)
    | refine L_storeBlk h (i := 1) (vs := [.int .i64 _, .int .i64 _]) rfl sz37 rfl rfl (by simp [Value.oneCell']) rfl (fun w h => ?_)
    | refine L_storeBlk h (i := 2) (vs := [.int .i64 _, .int .i64 _]) rfl sz37 rfl rfl (by simp [Value.oneCell']) rfl (fun w h => ?_)
    | refine L_storeBlk h (i := 3) (vs := [.int .i64 _, .int .i64 _]) rfl sz37 rfl rfl (by simp [Value.oneCell']) rfl (fun w h => ?_)
    | refine L_storeBlk h (i := 4) (vs := [.int .i64 _, .int .i64 _]) rfl sz37 rfl rfl (by simp [Value.oneCell']) rfl (fun w h => ?_)
    | refine L_storeBlk h (i := 5) (vs := [.int .i64 _, .int .i64 _]) rfl sz37 rfl rfl (by simp [Value.oneCell']) rfl (fun w h => ?_)
    | refine L_storeBlk h (i := 6) (vs := [.int .i64 _, .int .i64 _]) rfl sz37 rfl rfl (by simp [Value.oneCell']) rfl (fun w h => ?_)
    | refine L_storeBlk h (i := 7) (vs := [.int .i64 _, .int .i64 _]) rfl sz37 rfl rfl (by simp [Value.oneCell']) rfl (fun w h => ?_)
  refine L_nil ?_
  refine W_seq ?_
  refine W_region ?_   -- region 6
  refine L_op (d_move (v := .pointer _) rfl) ?_   -- 25 (Op.move t1)
  --- 26 (Op.buildSlice 33 3 [(0, ((IntKind.u8 97))), (1, ((IntKind.u8 98))), (2, ((IntKind.u8 99)))])
  refine L_buildBlk h [.int .u8 _, .int .u8 _, .int .u8 _] [.int .u8 _, .int .u8 _, .int .u8 _] Try.underlying33 zs5 rfl rfl rfl rfl (by decide) (by decide) (fun g26 w h b => ?_)
  --- 27 (Op.convert 33 33 t26)
  refine L_mark h (i := 0) rfl Try.underlying33 Try.underlying5 rfl rfl (by decide) (fun w h => ?_)
  replace h := (h.front (i := 2) rfl).up1
  obtain ⟨S, hA, hl, hback⟩ := St.borrow h
  --- 28 (Op.call {(Callee.value (Operand.func 11)), [t25, t27], [25, 33]})
  refine L_callB fn11 rfl (record_calls (xs := [97, 98, 99]) hl (frd_or (row_frd hA)) (by decide) (by decide) (by decide) (by decide)) ?_
  rintro _ w ⟨rfl, hl⟩
  replace h := (hback _ _ hl).drop
  clear hback hA hl
  have e28 : recI 6 [] [80, 75, 7, 8] [97, 98, 99] = [[80, 75, 7, 8]] := by decide
  have f28 : recL 6 [80, 75, 7, 8] [97, 98, 99] = [97, 98, 99] := by decide
  rw [e28, f28] at h
  refine L_op (d_move (v := .tuple _) rfl) ?_   -- 24 (Op.move t28)
  refine L_op (d_extract (v := .agg _) rfl rfl) ?_   -- 29 (Op.extract t24 0)
  refine L_op (d_extract (v := .int .i64 _) rfl rfl) ?_   -- 30 (Op.extract t24 1)
  --- 6 (Op.alloc 37)
  refine L_allocB h [.int .i64 0, .int .i64 0] zi37 rfl (fun g6 w h b => ?_)
  --- None (Op.store 37 t6 t29)
  first
    | refine L_storeBlk h (i := 0) (vs := [.int .i64 _, .int .i64 _]) rfl sz37 rfl rfl (by simp [Value.oneCell']) rfl (fun w h => ?_)
    | refine L_storeBlk h (i := 1) (vs := [.int .i64 _, .int .i64 _]) rfl sz37 rfl rfl (by simp [Value.oneCell']) rfl (fun w h => ?_)
    | refine L_storeBlk h (i := 2) (vs := [.int .i64 _, .int .i64 _]) rfl sz37 rfl rfl (by simp [Value.oneCell']) rfl (fun w h => ?_)
    | refine L_storeBlk h (i := 3) (vs := [.int .i64 _, .int .i64 _]) rfl sz37 rfl rfl (by simp [Value.oneCell']) rfl (fun w h => ?_)
    | refine L_storeBlk h (i := 4) (vs := [.int .i64 _, .int .i64 _]) rfl sz37 rfl rfl (by simp [Value.oneCell']) rfl (fun w h => ?_)
    | refine L_storeBlk h (i := 5) (vs := [.int .i64 _, .int .i64 _]) rfl sz37 rfl rfl (by simp [Value.oneCell']) rfl (fun w h => ?_)
    | refine L_storeBlk h (i := 6) (vs := [.int .i64 _, .int .i64 _]) rfl sz37 rfl rfl (by simp [Value.oneCell']) rfl (fun w h => ?_)
    | refine L_storeBlk h (i := 7) (vs := [.int .i64 _, .int .i64 _]) rfl sz37 rfl rfl (by simp [Value.oneCell']) rfl (fun w h => ?_)
  refine L_op (d_assign (v := .int .i64 _) rfl) ?_   -- 7 (Op.assign t30)
  refine L_nil ?_
  refine W_seq ?_
  refine W_region ?_   -- region 7
  refine L_op (d_move (v := .pointer _) rfl) ?_   -- 32 (Op.move t1)
  --- 33 (Op.buildSlice 33 7 [(0, ((IntKind.u8 97))), (1, ((IntKind.u8 98))), (2, ((IntKind.u8 99))), (3, ((I
  refine L_buildBlk h [.int .u8 _, .int .u8 _, .int .u8 _, .int .u8 _, .int .u8 _, .int .u8 _, .int .u8 _] [.int .u8 _, .int .u8 _, .int .u8 _, .int .u8 _, .int .u8 _, .int .u8 _, .int .u8 _] Try.underlying33 zs5 rfl rfl rfl rfl (by decide) (by decide) (fun g33 w h b => ?_)
  --- 34 (Op.convert 33 33 t33)
  refine L_mark h (i := 0) rfl Try.underlying33 Try.underlying5 rfl rfl (by decide) (fun w h => ?_)
  replace h := (h.front (i := 2) rfl).up1
  obtain ⟨S, hA, hl, hback⟩ := St.borrow h
  --- 35 (Op.call {(Callee.value (Operand.func 11)), [t32, t34], [25, 33]})
  refine L_callB fn11 rfl (record_calls (xs := [97, 98, 99, 100, 101, 102, 103]) hl (frd_or (row_frd hA)) (by decide) (by decide) (by decide) (by decide)) ?_
  rintro _ w ⟨rfl, hl⟩
  replace h := (hback _ _ hl).drop
  clear hback hA hl
  have e35 : recI 6 [[80, 75, 7, 8]] [97, 98, 99] [97, 98, 99, 100, 101, 102, 103] = [[80, 75, 7, 8]] := by decide
  have f35 : recL 6 [97, 98, 99] [97, 98, 99, 100, 101, 102, 103] = [97, 98, 99] := by decide
  rw [e35, f35] at h
  refine L_op (d_move (v := .tuple _) rfl) ?_   -- 31 (Op.move t35)
  refine L_op (d_extract (v := .agg _) rfl rfl) ?_   -- 36 (Op.extract t31 0)
  refine L_op (d_extract (v := .int .i64 _) rfl rfl) ?_   -- 37 (Op.extract t31 1)
  --- 8 (Op.alloc 37)
  refine L_allocB h [.int .i64 0, .int .i64 0] zi37 rfl (fun g8 w h b => ?_)
  --- None (Op.store 37 t8 t36)
  first
    | refine L_storeBlk h (i := 0) (vs := [.int .i64 _, .int .i64 _]) rfl sz37 rfl rfl (by simp [Value.oneCell']) rfl (fun w h => ?_)
    | refine L_storeBlk h (i := 1) (vs := [.int .i64 _, .int .i64 _]) rfl sz37 rfl rfl (by simp [Value.oneCell']) rfl (fun w h => ?_)
    | refine L_storeBlk h (i := 2) (vs := [.int .i64 _, .int .i64 _]) rfl sz37 rfl rfl (by simp [Value.oneCell']) rfl (fun w h => ?_)
    | refine L_storeBlk h (i := 3) (vs := [.int .i64 _, .int .i64 _]) rfl sz37 rfl rfl (by simp [Value.oneCell']) rfl (fun w h => ?_)
    | refine L_storeBlk h (i := 4) (vs := [.int .i64 _, .int .i64 _]) rfl sz37 rfl rfl (by simp [Value.oneCell']) rfl (fun w h => ?_)
    | refine L_storeBlk h (i := 5) (vs := [.int .i64 _, .int .i64 _]) rfl sz37 rfl rfl (by simp [Value.oneCell']) rfl (fun w h => ?_)
    | refine L_storeBlk h (i := 6) (vs := [.int .i64 _, .int .i64 _]) rfl sz37 rfl rfl (by simp [Value.oneCell']) rfl (fun w h => ?_)
    | refine L_storeBlk h (i := 7) (vs := [.int .i64 _, .int .i64 _]) rfl sz37 rfl rfl (by simp [Value.oneCell']) rfl (fun w h => ?_)
  refine L_op (d_assign (v := .int .i64 _) rfl) ?_   -- 9 (Op.assign t37)
  refine L_nil ?_
  refine W_seq ?_
  refine W_region ?_   -- region 8
  refine L_op (d_move (v := .pointer _) rfl) ?_   -- 38 (Op.move t1)
  --- 39 (Op.buildSlice 33 6 [(0, ((IntKind.u8 117))), (1, ((IntKind.u8 118))), (2, ((IntKind.u8 119))), (3, 
  refine L_buildBlk h [.int .u8 _, .int .u8 _, .int .u8 _, .int .u8 _, .int .u8 _, .int .u8 _] [.int .u8 _, .int .u8 _, .int .u8 _, .int .u8 _, .int .u8 _, .int .u8 _] Try.underlying33 zs5 rfl rfl rfl rfl (by decide) (by decide) (fun g39 w h b => ?_)
  --- 40 (Op.convert 33 33 t39)
  refine L_mark h (i := 0) rfl Try.underlying33 Try.underlying5 rfl rfl (by decide) (fun w h => ?_)
  replace h := (h.front (i := 2) rfl).up1
  obtain ⟨S, hA, hl, hback⟩ := St.borrow h
  --- 41 (Op.call {(Callee.value (Operand.func 13)), [t38, t40], [25, 33]})
  refine L_callB fn13 rfl (data_calls (xs := [117, 118, 119, 120, 121, 122]) hl (frd_or (row_frd hA)) (by decide) (by decide) (by decide) (by decide) (by decide)) ?_
  rintro _ w ⟨rfl, hl⟩
  replace h := (hback _ _ hl).drop
  clear hback hA hl
  have e41 : [117, 118, 119, 120, 121, 122].foldl (putB 6) ([[80, 75, 7, 8]], [97, 98, 99]) = ([[80, 75, 7, 8], [97, 98, 99, 117, 118, 119]], [120, 121, 122]) := by decide
  rw [e41] at h
  dsimp only at h
  --- 10 (Op.alloc 37)
  refine L_allocB h [.int .i64 0, .int .i64 0] zi37 rfl (fun g10 w h b => ?_)
  --- None (Op.store 37 t10 t41)
  first
    | refine L_storeBlk h (i := 0) (vs := [.int .i64 _, .int .i64 _]) rfl sz37 rfl rfl (by simp [Value.oneCell']) rfl (fun w h => ?_)
    | refine L_storeBlk h (i := 1) (vs := [.int .i64 _, .int .i64 _]) rfl sz37 rfl rfl (by simp [Value.oneCell']) rfl (fun w h => ?_)
    | refine L_storeBlk h (i := 2) (vs := [.int .i64 _, .int .i64 _]) rfl sz37 rfl rfl (by simp [Value.oneCell']) rfl (fun w h => ?_)
    | refine L_storeBlk h (i := 3) (vs := [.int .i64 _, .int .i64 _]) rfl sz37 rfl rfl (by simp [Value.oneCell']) rfl (fun w h => ?_)
    | refine L_storeBlk h (i := 4) (vs := [.int .i64 _, .int .i64 _]) rfl sz37 rfl rfl (by simp [Value.oneCell']) rfl (fun w h => ?_)
    | refine L_storeBlk h (i := 5) (vs := [.int .i64 _, .int .i64 _]) rfl sz37 rfl rfl (by simp [Value.oneCell']) rfl (fun w h => ?_)
    | refine L_storeBlk h (i := 6) (vs := [.int .i64 _, .int .i64 _]) rfl sz37 rfl rfl (by simp [Value.oneCell']) rfl (fun w h => ?_)
    | refine L_storeBlk h (i := 7) (vs := [.int .i64 _, .int .i64 _]) rfl sz37 rfl rfl (by simp [Value.oneCell']) rfl (fun w h => ?_)
  refine L_nil ?_
  refine W_seq ?_
  refine W_region ?_   -- region 9
  refine L_op (d_move (v := .pointer _) rfl) ?_   -- 42 (Op.move t1)
  obtain ⟨A4, c4, hb4, hr4⟩ := wr_rd h (i := 1) rfl
  --- 43 (Op.call {(Callee.value (Operand.func 16)), [t42], [25]})
  refine L_callB fn16 rfl (row_calls hb4 hr4 (by decide) (by decide)) ?_
  rintro v43 w1 hm
  replace h := h.take hm
  obtain ⟨vs43, hvs43, ho⟩ := rows_open h
  have e43 : vs43.length = 3 := hvs43.trans rfl
  obtain ⟨A43, c43, rfl, _⟩ := (ho.rowAt (i := 0) rfl).slice
  have hr43 := rows_rd hvs43 ho
  clear ho
  rw [e43] at h ⊢
  obtain ⟨a43, A0, c0, rfl, hc0, _, hr0⟩ := hr43 0 [80, 75, 7, 8] rfl
  obtain ⟨_, A1, c1, e1, hc1, _, hr1⟩ := hr43 1 [97, 98, 99, 117, 118, 119] rfl
  injection e1 with e1
  subst e1
  obtain ⟨_, A2, c2, e2, hc2, _, hr2⟩ := hr43 2 [120, 121, 122] rfl
  injection e2 with e2
  subst e2
  refine L_op (d_assign (v := .slice _ _ _) rfl) ?_   -- 11 (Op.assign t43)
  refine L_nil ?_
  refine W_seq ?_   -- join2: live (2, _), (4, _), (5, _), (6, _), (7, _), (9, _), (10, _), (11, _)
  refine W_seq ?_
  refine W_region ?_   -- region 10
  refine L_op (d_move (v := .slice _ _ _) rfl) ?_   -- 44 (Op.move t11)
  refine L_op (d_lenB sl29 rfl) ?_   -- 45 (Op.call {(Callee.builtin Builtin.len), [t44], [29]})
  refine L_op (d_neq rfl rfl) ?_   -- 46 (Op.binOp BinOp.neq 3 t45 ((3)) 3)
  refine L_nil ?_
  refine W_false (rfl) ?_
  refine W_skip ?_
  refine W_seq ?_
  refine W_region ?_   -- region 12
  refine L_op (d_move (v := .int .i64 _) rfl) ?_   -- 47 (Op.move t2)
  refine L_op (d_eql rfl rfl) ?_   -- 48 (Op.binOp BinOp.eql 26 t47 ((0)) 26)
  refine L_op (d_move (v := .bool _) rfl) ?_   -- 49 (Op.move t48)
  refine L_know (dj := 49) (b := true) rfl (by decide +kernel) ?_
  refine L_on rfl rfl rfl ?_
  refine L_op (d_move (v := .int .i64 _) rfl) ?_   -- 50 (Op.move t4)
  refine L_on rfl rfl rfl ?_
  refine L_op (d_eql rfl rfl) ?_   -- 51 (Op.binOp BinOp.eql 26 t50 ((1)) 26)
  refine L_op (d_pick (r := .bool _) rfl rfl) ?_   -- 52 (Op.pick t49 t51 ((false)))
  refine L_op (d_move (v := .bool _) rfl) ?_   -- 53 (Op.move t52)
  refine L_know (dj := 53) (b := true) rfl (by decide +kernel) ?_
  refine L_on rfl rfl rfl ?_
  refine L_op (by first | exact d_loadBlk ag37 (h) (i := 0) rfl rfl rfl | exact d_loadBlk ag37 (h) (i := 1) rfl rfl rfl | exact d_loadBlk ag37 (h) (i := 2) rfl rfl rfl | exact d_loadBlk ag37 (h) (i := 3) rfl rfl rfl | exact d_loadBlk ag37 (h) (i := 4) rfl rfl rfl | exact d_loadBlk ag37 (h) (i := 5) rfl rfl rfl | exact d_loadBlk ag37 (h) (i := 6) rfl rfl rfl | exact d_loadBlk ag37 (h) (i := 7) rfl rfl rfl | exact d_loadBlk ag37 (h) (i := 8) rfl rfl rfl) ?_   -- 54 (Op.load 37 t5)
  refine L_on rfl rfl rfl ?_
  refine L_op (d_build (cs := #[.int .i64 _, .int .i64 _]) rfl rfl) ?_   -- 55 (Op.build 37 [(1, ((4)))])
  refine L_on rfl rfl rfl ?_
  refine L_op (d_eql2 pair37 rfl rfl) ?_   -- 56 (Op.binOp BinOp.eql 37 t54 t55 37)
  refine L_op (d_pick (r := .bool _) rfl rfl) ?_   -- 57 (Op.pick t53 t56 ((false)))
  refine L_op (d_move (v := .bool _) rfl) ?_   -- 58 (Op.move t57)
  refine L_know (dj := 58) (b := true) rfl (by decide +kernel) ?_
  refine L_on rfl rfl rfl ?_
  refine L_op (by first | exact d_loadBlk ag37 (h) (i := 0) rfl rfl rfl | exact d_loadBlk ag37 (h) (i := 1) rfl rfl rfl | exact d_loadBlk ag37 (h) (i := 2) rfl rfl rfl | exact d_loadBlk ag37 (h) (i := 3) rfl rfl rfl | exact d_loadBlk ag37 (h) (i := 4) rfl rfl rfl | exact d_loadBlk ag37 (h) (i := 5) rfl rfl rfl | exact d_loadBlk ag37 (h) (i := 6) rfl rfl rfl | exact d_loadBlk ag37 (h) (i := 7) rfl rfl rfl | exact d_loadBlk ag37 (h) (i := 8) rfl rfl rfl) ?_   -- 59 (Op.load 37 t6)
  refine L_on rfl rfl rfl ?_
  refine L_op (d_build (cs := #[.int .i64 _, .int .i64 _]) rfl rfl) ?_   -- 60 (Op.build 37 [(0, ((1)))])
  refine L_on rfl rfl rfl ?_
  refine L_op (d_eql2 pair37 rfl rfl) ?_   -- 61 (Op.binOp BinOp.eql 37 t59 t60 37)
  refine L_op (d_pick (r := .bool _) rfl rfl) ?_   -- 62 (Op.pick t58 t61 ((false)))
  refine L_op (d_move (v := .bool _) rfl) ?_   -- 63 (Op.move t62)
  refine L_know (dj := 63) (b := true) rfl (by decide +kernel) ?_
  refine L_on rfl rfl rfl ?_
  refine L_op (d_move (v := .int .i64 _) rfl) ?_   -- 64 (Op.move t7)
  refine L_on rfl rfl rfl ?_
  refine L_op (d_eql rfl rfl) ?_   -- 65 (Op.binOp BinOp.eql 26 t64 ((0)) 26)
  refine L_op (d_pick (r := .bool _) rfl rfl) ?_   -- 66 (Op.pick t63 t65 ((false)))
  refine L_op (d_move (v := .bool _) rfl) ?_   -- 67 (Op.move t66)
  refine L_know (dj := 67) (b := true) rfl (by decide +kernel) ?_
  refine L_on rfl rfl rfl ?_
  refine L_op (d_move (v := .int .i64 _) rfl) ?_   -- 68 (Op.move t9)
  refine L_on rfl rfl rfl ?_
  refine L_op (d_eql rfl rfl) ?_   -- 69 (Op.binOp BinOp.eql 26 t68 ((50)) 26)
  refine L_op (d_pick (r := .bool _) rfl rfl) ?_   -- 70 (Op.pick t67 t69 ((false)))
  refine L_op (d_move (v := .bool _) rfl) ?_   -- 71 (Op.move t70)
  refine L_know (dj := 71) (b := true) rfl (by decide +kernel) ?_
  refine L_on rfl rfl rfl ?_
  refine L_op (by first | exact d_loadBlk ag37 (h) (i := 0) rfl rfl rfl | exact d_loadBlk ag37 (h) (i := 1) rfl rfl rfl | exact d_loadBlk ag37 (h) (i := 2) rfl rfl rfl | exact d_loadBlk ag37 (h) (i := 3) rfl rfl rfl | exact d_loadBlk ag37 (h) (i := 4) rfl rfl rfl | exact d_loadBlk ag37 (h) (i := 5) rfl rfl rfl | exact d_loadBlk ag37 (h) (i := 6) rfl rfl rfl | exact d_loadBlk ag37 (h) (i := 7) rfl rfl rfl | exact d_loadBlk ag37 (h) (i := 8) rfl rfl rfl) ?_   -- 72 (Op.load 37 t10)
  refine L_on rfl rfl rfl ?_
  refine L_op (d_build (cs := #[.int .i64 _, .int .i64 _]) rfl rfl) ?_   -- 73 (Op.build 37 [(0, ((1))), (1, ((3)))])
  refine L_on rfl rfl rfl ?_
  refine L_op (d_eql2 pair37 rfl rfl) ?_   -- 74 (Op.binOp BinOp.eql 37 t72 t73 37)
  refine L_op (d_pick (r := .bool _) rfl rfl) ?_   -- 75 (Op.pick t71 t74 ((false)))
  refine L_op (d_move (v := .bool _) rfl) ?_   -- 76 (Op.move t75)
  refine L_know (dj := 76) (b := true) rfl (by decide +kernel) ?_
  refine L_on rfl rfl rfl ?_
  refine L_op (d_move (v := .slice _ _ _) rfl) ?_   -- 77 (Op.move t11)
  refine L_on rfl rfl rfl ?_
  refine L_op (d_ix1 (m := 0) sl29 rfl rfl rfl (by decide)) ?_   -- 78 (Op.indexAddr 29 t77 ((0)))
  refine L_on rfl rfl rfl ?_
  refine L_op (d_loadB sc33 (v := .slice _ _ _) rfl (hc0)) ?_   -- 79 (Op.load 33 t78)
  refine L_on rfl rfl rfl ?_
  refine L_op (d_str (xs := [80, 75, 7, 8]) str33 rfl (by rfl) (hr0)) ?_   -- 80 (Op.convert 33 9 t79)
  refine L_on rfl rfl rfl ?_
  refine L_op (d_eqlStr rfl rfl) ?_   -- 81 (Op.binOp BinOp.eql 9 t80 ((Value.string {[80, 75, 7, 8]})) 9)
  refine L_op (d_pick (r := .bool _) rfl rfl) ?_   -- 82 (Op.pick t76 t81 ((false)))
  refine L_op (d_move (v := .bool _) rfl) ?_   -- 83 (Op.move t82)
  refine L_know (dj := 83) (b := true) rfl (by decide +kernel) ?_
  refine L_on rfl rfl rfl ?_
  refine L_op (d_move (v := .slice _ _ _) rfl) ?_   -- 84 (Op.move t11)
  refine L_on rfl rfl rfl ?_
  refine L_op (d_ix1 (m := 1) sl29 rfl rfl rfl (by decide)) ?_   -- 85 (Op.indexAddr 29 t84 ((1)))
  refine L_on rfl rfl rfl ?_
  refine L_op (d_loadB sc33 (v := .slice _ _ _) rfl (hc1)) ?_   -- 86 (Op.load 33 t85)
  refine L_on rfl rfl rfl ?_
  refine L_op (d_str (xs := [97, 98, 99, 117, 118, 119]) str33 rfl (by rfl) (hr1)) ?_   -- 87 (Op.convert 33 9 t86)
  refine L_on rfl rfl rfl ?_
  refine L_op (d_eqlStr rfl rfl) ?_   -- 88 (Op.binOp BinOp.eql 9 t87 ((Value.string {[97, 98, 99, 117, 118, 119]})) 9)
  refine L_op (d_pick (r := .bool _) rfl rfl) ?_   -- 89 (Op.pick t83 t88 ((false)))
  refine L_op (d_move (v := .bool _) rfl) ?_   -- 90 (Op.move t89)
  refine L_know (dj := 90) (b := true) rfl (by decide +kernel) ?_
  refine L_on rfl rfl rfl ?_
  refine L_op (d_move (v := .slice _ _ _) rfl) ?_   -- 91 (Op.move t11)
  refine L_on rfl rfl rfl ?_
  refine L_op (d_ix1 (m := 2) sl29 rfl rfl rfl (by decide)) ?_   -- 92 (Op.indexAddr 29 t91 ((2)))
  refine L_on rfl rfl rfl ?_
  refine L_op (d_loadB sc33 (v := .slice _ _ _) rfl (hc2)) ?_   -- 93 (Op.load 33 t92)
  refine L_on rfl rfl rfl ?_
  refine L_op (d_str (xs := [120, 121, 122]) str33 rfl (by rfl) (hr2)) ?_   -- 94 (Op.convert 33 9 t93)
  refine L_on rfl rfl rfl ?_
  refine L_op (d_eqlStr rfl rfl) ?_   -- 95 (Op.binOp BinOp.eql 9 t94 ((Value.string {[120, 121, 122]})) 9)
  refine L_op (d_pick (r := .bool _) rfl rfl) ?_   -- 96 (Op.pick t90 t95 ((false)))
  refine L_op (d_assign (v := .bool _) rfl) ?_   -- 0 (Op.assign t96)
  refine L_nil ?_
  refine W_ret (Ret1 (v1 := .bool _) rfl rfl ?_)
  exact ⟨congrArg Value.bool (by decide +kernel), h.below⟩
end Go.Proofs.Ytbhjdbkdnandfaa.Sp
