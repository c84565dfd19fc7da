/- Walks of the functions 6, printed by wip/fw/walk.py out of sp13.py. -/
import Derived.Test.YtbhjdbkdnandfaaSpd
import Derived.Test.YtbhjdbkdnandfaaSpp
namespace Go.Proofs.Ytbhjdbkdnandfaa.Sp
open Go Go.RowKit Go.Fw Go.Fw.Asn Go.Proofs
set_option linter.unusedVariables false
set_option maxRecDepth 100000 in
theorem goes_bad {W : World} {A1 A2 : Option Addr} {c1 c2 : Nat} {ahead ops : OpL} {size : Int} (ho1 : FOps (fun k => k < W.heap.size) W A1 ahead) (hl1 : ahead.length ≤ 9223372036854775807) (ho : FOps (fun k => k < W.heap.size) W A2 ops) (hl : ops.length ≤ 9223372036854775807) (hs : -9223372036854775808 ≤ size ∧ size ≤ 9223372036854775807) (hbad : size < 5 ∨ size > 16777216) :
    Runs Try.prog 6 [.int .i64 size, .slice A1 ahead.length c1, .slice A2 ops.length c2] W (fun v w' => v = .bool true ∧ Below W.heap.size W w') := by
  have h := St.start W
  refine Runs_of (N := 195) Try.func6 rfl rfl (by simp) ?_
  refine W_seq ?_
  refine W_region ?_   -- region 0
  refine L_op (d_assign (v := .bool _) rfl) ?_   -- 6 (Op.assign ((false)))
  refine L_nil ?_
  refine W_seq ?_   -- join1: live (0, .append), (1, _), (2, _)
  refine W_seq ?_
  refine W_region ?_   -- region 1
  --- 29 (Op.call {(Callee.value (Operand.func 7)), [], []})
  refine L_callB fn7 rfl (alive_calls _) ?_
  rintro _ w ⟨rfl, b⟩
  replace h := h.keep b
  refine L_op (d_not rfl) ?_   -- 30 (Op.unOp UnOp.not 4 t29)
  refine L_nil ?_
  refine W_false (rfl) ?_
  refine W_skip ?_
  refine W_seq ?_
  refine W_region ?_   -- region 3
  refine L_op (d_move (v := .int .i64 _) rfl) ?_   -- 32 (Op.move t0)
  --- 33 (Op.call {(Callee.value (Operand.func 9)), [t32], [3]})
  refine L_callB fn9 rfl (new_calls _ _ hs) ?_
  rintro v33 w1 hv
  rw [if_pos hbad] at hv
  obtain ⟨rfl, b⟩ := hv
  replace h := h.keep b
  refine L_op (d_move (v := .tuple _) rfl) ?_   -- 31 (Op.move t33)
  refine L_op (d_extract (v := .pointer _) rfl rfl) ?_   -- 34 (Op.extract t31 0)
  refine L_op (d_extract (v := .int .i64 _) rfl rfl) ?_   -- 35 (Op.extract t31 1)
  refine L_op (d_assign (v := .pointer _) rfl) ?_   -- 7 (Op.assign t34)
  refine L_op (d_assign (v := .int .i64 _) rfl) ?_   -- 8 (Op.assign t35)
  refine L_nil ?_
  refine W_seq ?_   -- join2: live (0, .append), (1, _), (2, _), (7, _)
  refine W_seq ?_
  refine W_region ?_   -- region 4
  refine L_op (d_move (v := .slice _ _ _) rfl) ?_   -- 36 (Op.move t1)
  --- 37 (Op.call {(Callee.value (Operand.func 8)), [t36], [22]})
  refine L_callB fn8 rfl (few_calls h ho1 hl1) ?_
  rintro _ w ⟨rfl, h⟩
  refine L_op (d_not rfl) ?_   -- 38 (Op.unOp UnOp.not 4 t37)
  refine L_op (d_move (v := .bool _) rfl) ?_   -- 39 (Op.move t38)
  refine L_case (dj := 39) rfl (fun q39 => ?_) (fun q39 => ?_)
  · -- guard 39 true
    refine L_off rfl rfl rfl ?_   -- 40 (Op.move t2)
    refine L_off rfl rfl rfl ?_   -- 41 (Op.call {(Callee.value (Operand.func 8)), [t40], [22]})
    refine L_off rfl rfl rfl ?_   -- 42 (Op.unOp UnOp.not 4 t41)
    refine L_op (d_pick (r := .bool _) rfl rfl) ?_   -- 43 (Op.pick t39 ((true)) t42)
    refine L_op (d_move (v := .bool _) rfl) ?_   -- 44 (Op.move t43)
    refine L_off rfl rfl rfl ?_   -- 45 (Op.move t8)
    refine L_off rfl rfl rfl ?_   -- 46 (Op.binOp BinOp.neq 26 t45 ((0)) 26)
    refine L_op (d_pick (r := .bool _) rfl rfl) ?_   -- 47 (Op.pick t44 ((true)) t46)
    refine L_nil ?_
    refine W_true (rfl) ?_
    refine W_seq ?_
    refine W_region ?_   -- region 5
    refine L_op (d_assign (v := .bool _) rfl) ?_   -- 6 (Op.assign ((true)))
    refine L_nil ?_
    refine W_ret (Ret1 (v1 := .bool _) rfl rfl ?_)
    exact ⟨rfl, h.below⟩
  · -- guard 39 false
    refine L_on rfl rfl rfl ?_
    refine L_op (d_move (v := .slice _ _ _) rfl) ?_   -- 40 (Op.move t2)
    refine L_on rfl rfl rfl ?_
    --- 41 (Op.call {(Callee.value (Operand.func 8)), [t40], [22]})
    refine L_callB fn8 rfl (few_calls h ho hl) ?_
    rintro _ w ⟨rfl, h⟩
    refine L_on rfl rfl rfl ?_
    refine L_op (d_not rfl) ?_   -- 42 (Op.unOp UnOp.not 4 t41)
    refine L_op (d_pick (r := .bool _) rfl rfl) ?_   -- 43 (Op.pick t39 ((true)) t42)
    refine L_op (d_move (v := .bool _) rfl) ?_   -- 44 (Op.move t43)
    refine L_case (dj := 44) rfl (fun q44 => ?_) (fun q44 => ?_)
    · -- guard 44 true
      refine L_off rfl rfl rfl ?_   -- 45 (Op.move t8)
      refine L_off rfl rfl rfl ?_   -- 46 (Op.binOp BinOp.neq 26 t45 ((0)) 26)
      refine L_op (d_pick (r := .bool _) rfl rfl) ?_   -- 47 (Op.pick t44 ((true)) t46)
      refine L_nil ?_
      refine W_true (rfl) ?_
      refine W_seq ?_
      refine W_region ?_   -- region 5
      refine L_op (d_assign (v := .bool _) rfl) ?_   -- 6 (Op.assign ((true)))
      refine L_nil ?_
      refine W_ret (Ret1 (v1 := .bool _) rfl rfl ?_)
      exact ⟨rfl, h.below⟩
    · -- guard 44 false
      refine L_on rfl rfl rfl ?_
      refine L_op (d_move (v := .int .i64 _) rfl) ?_   -- 45 (Op.move t8)
      refine L_on rfl rfl rfl ?_
      refine L_op (d_neq rfl rfl) ?_   -- 46 (Op.binOp BinOp.neq 26 t45 ((0)) 26)
      refine L_op (d_pick (r := .bool _) rfl rfl) ?_   -- 47 (Op.pick t44 ((true)) t46)
      refine L_nil ?_
      refine W_true (rfl) ?_
      refine W_seq ?_
      refine W_region ?_   -- region 5
      refine L_op (d_assign (v := .bool _) rfl) ?_   -- 6 (Op.assign ((true)))
      refine L_nil ?_
      refine W_ret (Ret1 (v1 := .bool _) rfl rfl ?_)
      exact ⟨rfl, h.below⟩
end Go.Proofs.Ytbhjdbkdnandfaa.Sp
