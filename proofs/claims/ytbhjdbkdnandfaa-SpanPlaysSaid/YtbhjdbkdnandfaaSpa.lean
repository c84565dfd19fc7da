/- Walks of the functions 3, printed by wip/fw/walk.py out of sp8.py. -/
import Derived.Test.YtbhjdbkdnandfaaSp8
import Derived.Test.YtbhjdbkdnandfaaSpp
namespace Go.Proofs.Ytbhjdbkdnandfaa.Sp
open Go Go.RowKit Go.Fw Go.Fw.Asn Go.Proofs
set_option linter.unusedVariables false
set_option maxRecDepth 100000 in
theorem plays_bad {W : World} {A : Option Addr} {c : Nat} {ops : OpL} {size n : Int} (ho : FOps (fun k => k < W.heap.size) W A ops) (hl : ops.length ≤ 9223372036854775807) (hs : -9223372036854775808 ≤ size ∧ size ≤ 9223372036854775807) (hbad : size < 5 ∨ size > 16777216) :
    Runs Try.prog 3 [.int .i64 size, .slice A ops.length c, .int .i64 n] W (fun v w' => v = .bool true ∧ Below W.heap.size W w') := by
  have h := St.start W
  refine Runs_of (N := 119) Try.func3 rfl rfl (by simp) ?_
  refine W_seq ?_
  refine W_region ?_   -- region 0
  refine L_op (d_assign (v := .bool _) rfl) ?_   -- 6 (Op.assign ((false)))
  refine L_nil ?_
  refine W_seq ?_   -- join1: live (0, .append), (1, _), (2, _)
  refine W_seq ?_
  refine W_region ?_   -- region 1
  --- 20 (Op.call {(Callee.value (Operand.func 7)), [], []})
  refine L_callB fn7 rfl (alive_calls _) ?_
  rintro _ w ⟨rfl, b⟩
  replace h := h.keep b
  refine L_op (d_not rfl) ?_   -- 21 (Op.unOp UnOp.not 4 t20)
  refine L_nil ?_
  refine W_false (rfl) ?_
  refine W_skip ?_
  refine W_seq ?_   -- join2: live (0, .append), (1, _), (2, _)
  refine W_seq ?_
  refine W_region ?_   -- region 3
  refine L_op (d_move (v := .slice _ _ _) rfl) ?_   -- 22 (Op.move t1)
  --- 23 (Op.call {(Callee.value (Operand.func 8)), [t22], [22]})
  refine L_callB fn8 rfl (few_calls h ho hl) ?_
  rintro _ w ⟨rfl, h⟩
  refine L_op (d_not rfl) ?_   -- 24 (Op.unOp UnOp.not 4 t23)
  refine L_nil ?_
  refine W_cond rfl (fun c24 => ?_) (fun c24 => ?_)
  · -- c24 yes
    refine W_seq ?_
    refine W_region ?_   -- region 4
    refine L_op (d_assign (v := .bool _) rfl) ?_   -- 6 (Op.assign ((true)))
    refine L_nil ?_
    refine W_ret (Ret1 (v1 := .bool _) rfl rfl ?_)
    exact ⟨rfl, h.below⟩
  · -- c24 no
    obtain ⟨hfew, hlen⟩ := fewB_iff.1 (by simpa using c24)
    refine W_skip ?_
    refine W_seq ?_
    refine W_region ?_   -- region 5
    refine L_op (d_move (v := .int .i64 _) rfl) ?_   -- 26 (Op.move t0)
    --- 27 (Op.call {(Callee.value (Operand.func 9)), [t26], [3]})
    refine L_callB fn9 rfl (new_calls _ _ hs) ?_
    rintro v27 w1 hv
    rw [if_pos hbad] at hv
    obtain ⟨rfl, b⟩ := hv
    replace h := h.keep b
    refine L_op (d_move (v := .tuple _) rfl) ?_   -- 25 (Op.move t27)
    refine L_op (d_extract (v := .pointer _) rfl rfl) ?_   -- 28 (Op.extract t25 0)
    refine L_op (d_extract (v := .int .i64 _) rfl rfl) ?_   -- 29 (Op.extract t25 1)
    refine L_op (d_assign (v := .pointer _) rfl) ?_   -- 7 (Op.assign t28)
    refine L_op (d_assign (v := .int .i64 _) rfl) ?_   -- 8 (Op.assign t29)
    refine L_nil ?_
    refine W_seq ?_   -- join3: live (0, .append), (1, _), (2, _), (7, _), (8, _)
    refine W_seq ?_
    refine W_region ?_   -- region 6
    refine L_op (d_move (v := .int .i64 _) rfl) ?_   -- 30 (Op.move t0)
    refine L_op (d_lss rfl rfl) ?_   -- 31 (Op.binOp BinOp.lss 3 t30 ((5)) 3)
    refine L_op (d_move (v := .bool _) rfl) ?_   -- 32 (Op.move t31)
    refine L_case (dj := 32) rfl (fun q32 => ?_) (fun q32 => ?_)
    · -- guard 32 true
      refine L_off rfl rfl rfl ?_   -- 33 (Op.move t0)
      refine L_off rfl rfl rfl ?_   -- 34 (Op.binOp BinOp.gtr 3 t33 ((16777216)) 3)
      refine L_op (d_pick (r := .bool _) rfl rfl) ?_   -- 35 (Op.pick t32 ((true)) t34)
      refine L_nil ?_
      refine W_true (rfl) ?_
      refine W_seq ?_
      refine W_region ?_   -- region 7
      refine L_op (d_move (v := .pointer _) rfl) ?_   -- 36 (Op.move t7)
      refine L_op (d_eqlPtr ptr25 rfl rfl) ?_   -- 37 (Op.binOp BinOp.eql 25 t36 ((Value.pointer none)) 25)
      refine L_op (d_move (v := .bool _) rfl) ?_   -- 38 (Op.move t37)
      refine L_know (dj := 38) (b := true) rfl (rfl) ?_
      refine L_on rfl rfl rfl ?_
      refine L_op (d_move (v := .int .i64 _) rfl) ?_   -- 39 (Op.move t8)
      refine L_on rfl rfl rfl ?_
      refine L_op (d_eql rfl rfl) ?_   -- 40 (Op.binOp BinOp.eql 26 t39 ((1)) 26)
      refine L_op (d_pick (r := .bool _) rfl rfl) ?_   -- 41 (Op.pick t38 t40 ((false)))
      refine L_op (d_assign (v := .bool _) rfl) ?_   -- 6 (Op.assign t41)
      refine L_nil ?_
      refine W_ret (Ret1 (v1 := .bool _) rfl rfl ?_)
      exact ⟨rfl, h.below⟩
    · -- guard 32 false
      refine L_on rfl rfl rfl ?_
      refine L_op (d_move (v := .int .i64 _) rfl) ?_   -- 33 (Op.move t0)
      refine L_on rfl rfl rfl ?_
      refine L_op (d_gtr rfl rfl) ?_   -- 34 (Op.binOp BinOp.gtr 3 t33 ((16777216)) 3)
      refine L_op (d_pick (r := .bool _) rfl rfl) ?_   -- 35 (Op.pick t32 ((true)) t34)
      refine L_nil ?_
      refine W_true (congrArg Value.bool (decide_eq_true (by have := of_decide_eq_false q32; omega))) ?_
      refine W_seq ?_
      refine W_region ?_   -- region 7
      refine L_op (d_move (v := .pointer _) rfl) ?_   -- 36 (Op.move t7)
      refine L_op (d_eqlPtr ptr25 rfl rfl) ?_   -- 37 (Op.binOp BinOp.eql 25 t36 ((Value.pointer none)) 25)
      refine L_op (d_move (v := .bool _) rfl) ?_   -- 38 (Op.move t37)
      refine L_know (dj := 38) (b := true) rfl (rfl) ?_
      refine L_on rfl rfl rfl ?_
      refine L_op (d_move (v := .int .i64 _) rfl) ?_   -- 39 (Op.move t8)
      refine L_on rfl rfl rfl ?_
      refine L_op (d_eql rfl rfl) ?_   -- 40 (Op.binOp BinOp.eql 26 t39 ((1)) 26)
      refine L_op (d_pick (r := .bool _) rfl rfl) ?_   -- 41 (Op.pick t38 t40 ((false)))
      refine L_op (d_assign (v := .bool _) rfl) ?_   -- 6 (Op.assign t41)
      refine L_nil ?_
      refine W_ret (Ret1 (v1 := .bool _) rfl rfl ?_)
      exact ⟨rfl, h.below⟩
end Go.Proofs.Ytbhjdbkdnandfaa.Sp
