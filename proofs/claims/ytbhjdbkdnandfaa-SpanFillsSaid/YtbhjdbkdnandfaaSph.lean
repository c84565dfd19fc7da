/- Walks of the functions 4, printed by wip/fw/walk.py out of sp15.py. -/
import Derived.Test.YtbhjdbkdnandfaaSpd
import Derived.Test.YtbhjdbkdnandfaaSpq
namespace Go.Proofs.Ytbhjdbkdnandfaa.Sp
open Go Go.RowKit Go.Fw Go.Fw.Asn Go.Proofs
set_option linter.unusedVariables false
set_option maxRecDepth 100000 in
theorem fills_bad {W : World} {A : Option Addr} {c : Nat} {ops : OpL} {size : Int} (ho : FOps (fun k => k < W.heap.size) W A ops) (hl : ops.length ≤ 9223372036854775807) (hs : -9223372036854775808 ≤ size ∧ size ≤ 9223372036854775807) (hbad : size < 5 ∨ size > 16777216) :
    Runs Try.prog 4 [.int .i64 size, .slice A ops.length c] W (fun v w' => v = .bool true ∧ Below W.heap.size W w') := by
  have h := St.start W
  refine Runs_of (N := 174) Try.func4 rfl rfl (by simp) ?_
  refine W_seq ?_
  refine W_region ?_   -- region 0
  refine L_op (d_assign (v := .bool _) rfl) ?_   -- 4 (Op.assign ((false)))
  refine L_nil ?_
  refine W_seq ?_   -- join1: live (0, .append), (1, _)
  refine W_seq ?_
  refine W_region ?_   -- region 1
  --- 20 (Op.call {(Callee.value (Operand.func 7)), [], []})
  refine L_callB fn7 rfl (alive_calls _) ?_
  rintro _ w ⟨rfl, b⟩
  replace h := h.keep b
  refine L_op (d_not rfl) ?_   -- 21 (Op.unOp UnOp.not 4 t20)
  refine L_nil ?_
  refine W_false (rfl) ?_
  refine W_skip ?_
  refine W_seq ?_
  refine W_region ?_   -- region 3
  refine L_op (d_move (v := .int .i64 _) rfl) ?_   -- 23 (Op.move t0)
  --- 24 (Op.call {(Callee.value (Operand.func 9)), [t23], [3]})
  refine L_callB fn9 rfl (new_calls _ _ hs) ?_
  rintro v24 w1 hv
  rw [if_pos hbad] at hv
  obtain ⟨rfl, b⟩ := hv
  replace h := h.keep b
  refine L_op (d_move (v := .tuple _) rfl) ?_   -- 22 (Op.move t24)
  refine L_op (d_extract (v := .pointer _) rfl rfl) ?_   -- 25 (Op.extract t22 0)
  refine L_op (d_extract (v := .int .i64 _) rfl rfl) ?_   -- 26 (Op.extract t22 1)
  refine L_op (d_assign (v := .pointer _) rfl) ?_   -- 5 (Op.assign t25)
  refine L_op (d_assign (v := .int .i64 _) rfl) ?_   -- 6 (Op.assign t26)
  refine L_nil ?_
  refine W_seq ?_   -- join2: live (0, .append), (1, _), (5, _)
  refine W_seq ?_
  refine W_region ?_   -- region 4
  refine L_op (d_move (v := .slice _ _ _) rfl) ?_   -- 27 (Op.move t1)
  --- 28 (Op.call {(Callee.value (Operand.func 8)), [t27], [22]})
  refine L_callB fn8 rfl (few_calls h ho hl) ?_
  rintro _ w ⟨rfl, h⟩
  refine L_op (d_not rfl) ?_   -- 29 (Op.unOp UnOp.not 4 t28)
  refine L_op (d_move (v := .bool _) rfl) ?_   -- 30 (Op.move t29)
  refine L_case (dj := 30) rfl (fun q30 => ?_) (fun q30 => ?_)
  · -- guard 30 true
    refine L_off rfl rfl rfl ?_   -- 31 (Op.move t6)
    refine L_off rfl rfl rfl ?_   -- 32 (Op.binOp BinOp.neq 26 t31 ((0)) 26)
    refine L_op (d_pick (r := .bool _) rfl rfl) ?_   -- 33 (Op.pick t30 ((true)) t32)
    refine L_nil ?_
    refine W_true (rfl) ?_
    refine W_seq ?_
    refine W_region ?_   -- region 5
    refine L_op (d_assign (v := .bool _) rfl) ?_   -- 4 (Op.assign ((true)))
    refine L_nil ?_
    refine W_ret (Ret1 (v1 := .bool _) rfl rfl ?_)
    exact ⟨rfl, h.below⟩
  · -- guard 30 false
    refine L_on rfl rfl rfl ?_
    refine L_op (d_move (v := .int .i64 _) rfl) ?_   -- 31 (Op.move t6)
    refine L_on rfl rfl rfl ?_
    refine L_op (d_neq rfl rfl) ?_   -- 32 (Op.binOp BinOp.neq 26 t31 ((0)) 26)
    refine L_op (d_pick (r := .bool _) rfl rfl) ?_   -- 33 (Op.pick t30 ((true)) t32)
    refine L_nil ?_
    refine W_true (rfl) ?_
    refine W_seq ?_
    refine W_region ?_   -- region 5
    refine L_op (d_assign (v := .bool _) rfl) ?_   -- 4 (Op.assign ((true)))
    refine L_nil ?_
    refine W_ret (Ret1 (v1 := .bool _) rfl rfl ?_)
    exact ⟨rfl, h.below⟩
end Go.Proofs.Ytbhjdbkdnandfaa.Sp
