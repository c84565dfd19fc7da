/- Walks of the functions 3, printed by wip/fw/walk.py out of sp7.py. -/
import Derived.Test.YtbhjdbkdnandfaaSp8
import Derived.Test.YtbhjdbkdnandfaaSpp
namespace Go.Proofs.Ytbhjdbkdnandfaa.Sp
open Go Go.RowKit Go.Fw Go.Fw.Asn Go.Proofs
set_option linter.unusedVariables false
set_option maxRecDepth 100000 in
theorem plays_good {W : World} {A : Option Addr} {c : Nat} {ops : OpL} {size n : Int} (ho : FOps (fun k => k < W.heap.size) W A ops) (hl : ops.length ≤ 9223372036854775807) (hs : -9223372036854775808 ≤ size ∧ size ≤ 9223372036854775807) (hgood : ¬ (size < 5 ∨ size > 16777216)) :
    Runs Try.prog 3 [.int .i64 size, .slice A ops.length c, .int .i64 n] W (fun v w' => v = .bool true ∧ Below W.heap.size W w') := by
  have h := St.start W
  have hs1 : 5 ≤ size := by omega
  have hs2 : size ≤ 16777216 := by omega
  refine Runs_of (N := 119) Try.func3 rfl rfl (by simp) ?_
  refine W_seq ?_
  refine W_region ?_   -- region 0
  refine L_op (d_assign (v := .bool _) rfl) ?_   -- 6 (Op.assign ((false)))
  refine L_nil ?_
  refine W_seq ?_   -- join1: live (0, .append), (1, _), (2, _)
  refine W_seq ?_
  refine W_region ?_   -- region 1
  --- 20 (Op.call {(Callee.value (Operand.func 7)), [], []})
  refine L_callB fn7 rfl (alive_calls _) ?_
  rintro _ w ⟨rfl, b⟩
  replace h := h.keep b
  refine L_op (d_not rfl) ?_   -- 21 (Op.unOp UnOp.not 4 t20)
  refine L_nil ?_
  refine W_false (rfl) ?_
  refine W_skip ?_
  refine W_seq ?_   -- join2: live (0, .append), (1, _), (2, _)
  refine W_seq ?_
  refine W_region ?_   -- region 3
  refine L_op (d_move (v := .slice _ _ _) rfl) ?_   -- 22 (Op.move t1)
  --- 23 (Op.call {(Callee.value (Operand.func 8)), [t22], [22]})
  refine L_callB fn8 rfl (few_calls h ho hl) ?_
  rintro _ w ⟨rfl, h⟩
  refine L_op (d_not rfl) ?_   -- 24 (Op.unOp UnOp.not 4 t23)
  refine L_nil ?_
  refine W_cond rfl (fun c24 => ?_) (fun c24 => ?_)
  · -- c24 yes
    refine W_seq ?_
    refine W_region ?_   -- region 4
    refine L_op (d_assign (v := .bool _) rfl) ?_   -- 6 (Op.assign ((true)))
    refine L_nil ?_
    refine W_ret (Ret1 (v1 := .bool _) rfl rfl ?_)
    exact ⟨rfl, h.below⟩
  · -- c24 no
    obtain ⟨hfew, hlen⟩ := fewB_iff.1 (by simpa using c24)
    refine W_skip ?_
    refine W_seq ?_
    refine W_region ?_   -- region 5
    refine L_op (d_move (v := .int .i64 _) rfl) ?_   -- 26 (Op.move t0)
    --- 27 (Op.call {(Callee.value (Operand.func 9)), [t26], [3]})
    refine L_callB fn9 rfl (new_calls _ _ hs) ?_
    rintro v27 w1 hv
    rw [if_neg hgood] at hv
    obtain ⟨gw, rfl, hm⟩ := hv
    replace h := h.take hm
    refine L_op (d_move (v := .tuple _) rfl) ?_   -- 25 (Op.move t27)
    refine L_op (d_extract (v := .pointer _) rfl rfl) ?_   -- 28 (Op.extract t25 0)
    refine L_op (d_extract (v := .int .i64 _) rfl rfl) ?_   -- 29 (Op.extract t25 1)
    refine L_op (d_assign (v := .pointer _) rfl) ?_   -- 7 (Op.assign t28)
    refine L_op (d_assign (v := .int .i64 _) rfl) ?_   -- 8 (Op.assign t29)
    refine L_nil ?_
    refine W_seq ?_   -- join3: live (0, .append), (1, _), (2, _), (7, _), (8, _)
    refine W_seq ?_
    refine W_region ?_   -- region 6
    refine L_op (d_move (v := .int .i64 _) rfl) ?_   -- 30 (Op.move t0)
    refine L_op (d_lss rfl rfl) ?_   -- 31 (Op.binOp BinOp.lss 3 t30 ((5)) 3)
    refine L_op (d_move (v := .bool _) rfl) ?_   -- 32 (Op.move t31)
    refine L_know (dj := 32) (b := false) rfl (decide_eq_false (by omega)) ?_
    refine L_on rfl rfl rfl ?_
    refine L_op (d_move (v := .int .i64 _) rfl) ?_   -- 33 (Op.move t0)
    refine L_on rfl rfl rfl ?_
    refine L_op (d_gtr rfl rfl) ?_   -- 34 (Op.binOp BinOp.gtr 3 t33 ((16777216)) 3)
    refine L_op (d_pick (r := .bool _) rfl rfl) ?_   -- 35 (Op.pick t32 ((true)) t34)
    refine L_nil ?_
    refine W_false (congrArg Value.bool (decide_eq_false (by omega))) ?_
    refine W_skip ?_
    refine W_seq ?_   -- join4: live (0, .append), (1, _), (2, _), (7, _), (8, _)
    refine W_seq ?_
    refine W_region ?_   -- region 8
    refine L_op (d_move (v := .pointer _) rfl) ?_   -- 42 (Op.move t7)
    refine L_op (d_eqlPtr ptr25 rfl rfl) ?_   -- 43 (Op.binOp BinOp.eql 25 t42 ((Value.pointer none)) 25)
    refine L_nil ?_
    refine W_false (rfl) ?_
    refine W_skip ?_
    refine W_seq ?_
    refine W_region ?_   -- region 10
    refine L_op (d_move (v := .int .i64 _) rfl) ?_   -- 44 (Op.move t0)
    --- 45 (Op.call {(Callee.value (Operand.func 10)), [t44], [3]})
    refine L_callB fn10 rfl (rnew_calls h size) ?_
    rintro _ w ⟨A9, c9, rfl, h⟩
    --- 9 (Op.alloc 31)
    refine L_allocB h [.int .i64 0, .slice none 0 0] zi31 rfl (fun g9 w h b => ?_)
    --- None (Op.store 31 t9 t45)
    first
      | refine L_storeBlk h (i := 0) (vs := [.int .i64 _, .slice _ _ _]) rfl sz31 rfl rfl (by simp [Value.oneCell']) rfl (fun w h => ?_)
      | refine L_storeBlk h (i := 1) (vs := [.int .i64 _, .slice _ _ _]) rfl sz31 rfl rfl (by simp [Value.oneCell']) rfl (fun w h => ?_)
      | refine L_storeBlk h (i := 2) (vs := [.int .i64 _, .slice _ _ _]) rfl sz31 rfl rfl (by simp [Value.oneCell']) rfl (fun w h => ?_)
      | refine L_storeBlk h (i := 3) (vs := [.int .i64 _, .slice _ _ _]) rfl sz31 rfl rfl (by simp [Value.oneCell']) rfl (fun w h => ?_)
      | refine L_storeBlk h (i := 4) (vs := [.int .i64 _, .slice _ _ _]) rfl sz31 rfl rfl (by simp [Value.oneCell']) rfl (fun w h => ?_)
      | refine L_storeBlk h (i := 5) (vs := [.int .i64 _, .slice _ _ _]) rfl sz31 rfl rfl (by simp [Value.oneCell']) rfl (fun w h => ?_)
      | refine L_storeBlk h (i := 6) (vs := [.int .i64 _, .slice _ _ _]) rfl sz31 rfl rfl (by simp [Value.oneCell']) rfl (fun w h => ?_)
      | refine L_storeBlk h (i := 7) (vs := [.int .i64 _, .slice _ _ _]) rfl sz31 rfl rfl (by simp [Value.oneCell']) rfl (fun w h => ?_)
    refine L_nil ?_
    refine W_seq ?_   -- join5: live (8, _)
    refine W_seq ?_
    refine W_region ?_   -- region 11
    refine L_op (d_move (v := .slice _ _ _) rfl) ?_   -- 46 (Op.move t1)
    refine L_op (d_lenB sl22 rfl) ?_   -- 47 (Op.call {(Callee.builtin Builtin.len), [t46], [22]})
    refine L_op (d_move (v := .int .i64 _) rfl) ?_   -- 48 (Op.move ((0)))
    refine L_nil ?_
    refine W_block ?_   -- block 0
    refine W_while (σ := Nat × Option Addr × Nat × List (List Int) × List Int) (0, A9, c9, [], [80, 75, 7, 8]) (fun s => [(0, .int .i64 size), (2, .int .i64 n), (7, .pointer (some ⟨gw, 0, none⟩)), (8, .int .i64 0), (9, .pointer (some ⟨g9, 0, none⟩)), (46, .slice A ops.length c), (47, .int .i64 ops.length), (48, .int .i64 s.1)])
      (fun s w1 => St W (fun k => k < W.heap.size) [blk g9 31 [.int .i64 size, .slice s.2.1 (s.2.2.2.1 ++ [s.2.2.2.2]).length s.2.2.1], roA s.2.1 (s.2.2.2.1 ++ [s.2.2.2.2]), wrA gw size s.2.2.2.1 s.2.2.2.2] w1 ∧ s.1 ≤ ops.length ∧ InvW size s.1 s.2.2.2.1 s.2.2.2.2) (fun s => ops.length - s.1) ⟨rfl, rfl, rfl, rfl, rfl, rfl, rfl, rfl, trivial⟩ ⟨h, Nat.zero_le _, InvW.zero hs1⟩ ?_
    rintro ⟨i, A3, c3, ini, lst⟩ w1 b_ ⟨h, hi, hv⟩
    dsimp only at h hi hv ⊢
    refine W_seq ?_
    refine W_region ?_   -- region 12
    refine L_op (d_lss rfl rfl) ?_   -- 49 (Op.binOp BinOp.lss 3 t48 t47 3)
    refine L_nil ?_
    refine W_seq ?_   -- join6: live (0, .append), (2, _), (7, _), (8, _), (9, _), (46, _), (47, _), (48, _)
    refine W_if rfl (fun c49 => ?_) (fun c49 => ?_)
    · -- c49 yes
      have hi2 : i < ops.length := by omega
      have hi20 : i < 20 := by omega
      obtain ⟨a, B, cb, rfl, hcb, hrb, hld⟩ := ho.get hi2
      have ho60 := hfew _ (List.getElem_mem hi2)
      generalize ops[i] = o at hcb hrb hld ho60
      have hn1 := hv.n
      have hn2 := hv.l
      have hn3 := hv.s
      have hv1 := hv.lay ho60
      have hv2 := hv.put (by omega) ho60
      refine W_skip ?_
      refine W_seq ?_   -- join7: live (0, .append), (2, _), (7, _), (8, _), (9, _), (46, _), (47, _), (48, _)
      refine W_block ?_   -- block 1
      refine W_seq ?_
      refine W_region ?_   -- region 13
      refine L_op (d_ix (m := i) sl22 rfl rfl rfl hi2) ?_   -- 50 (Op.indexAddr 22 t46 t48)
      refine L_op (d_loadAggB [.int .i64 o.1, .slice B o.2.length cb] ag35 rfl rfl (hld h)) ?_   -- 51 (Op.load 35 t50)
      --- 11 (Op.alloc 35)
      refine L_allocB h [.int .i64 0, .slice none 0 0] zi35 rfl (fun g11 w h b => ?_)
      --- None (Op.store 35 t11 t51)
      first
        | refine L_storeBlk h (i := 0) (vs := [.int .i64 _, .slice _ _ _]) rfl sz35 rfl rfl (by simp [Value.oneCell']) rfl (fun w h => ?_)
        | refine L_storeBlk h (i := 1) (vs := [.int .i64 _, .slice _ _ _]) rfl sz35 rfl rfl (by simp [Value.oneCell']) rfl (fun w h => ?_)
        | refine L_storeBlk h (i := 2) (vs := [.int .i64 _, .slice _ _ _]) rfl sz35 rfl rfl (by simp [Value.oneCell']) rfl (fun w h => ?_)
        | refine L_storeBlk h (i := 3) (vs := [.int .i64 _, .slice _ _ _]) rfl sz35 rfl rfl (by simp [Value.oneCell']) rfl (fun w h => ?_)
        | refine L_storeBlk h (i := 4) (vs := [.int .i64 _, .slice _ _ _]) rfl sz35 rfl rfl (by simp [Value.oneCell']) rfl (fun w h => ?_)
        | refine L_storeBlk h (i := 5) (vs := [.int .i64 _, .slice _ _ _]) rfl sz35 rfl rfl (by simp [Value.oneCell']) rfl (fun w h => ?_)
        | refine L_storeBlk h (i := 6) (vs := [.int .i64 _, .slice _ _ _]) rfl sz35 rfl rfl (by simp [Value.oneCell']) rfl (fun w h => ?_)
        | refine L_storeBlk h (i := 7) (vs := [.int .i64 _, .slice _ _ _]) rfl sz35 rfl rfl (by simp [Value.oneCell']) rfl (fun w h => ?_)
      refine L_nil ?_
      refine W_seq ?_   -- join8: live (0, .append), (2, _), (7, _), (8, _), (9, _), (46, _), (47, _), (48, _)
      refine W_seq ?_
      refine W_region ?_   -- region 14
      refine L_op (d_fieldAddrB fa35_0 rfl) ?_   -- 52 (Op.fieldAddr 35 t11 0)
      refine L_op (d_loadB sc3 (v := .int .i64 _) rfl (by first | exact (h).cell (i := 0) rfl rfl | exact (h).cell (i := 1) rfl rfl | exact (h).cell (i := 2) rfl rfl | exact (h).cell (i := 3) rfl rfl | exact (h).cell (i := 4) rfl rfl | exact (h).cell (i := 5) rfl rfl | exact (h).cell (i := 6) rfl rfl | exact (h).cell (i := 7) rfl rfl | exact (h).cell (i := 8) rfl rfl)) ?_   -- 53 (Op.load 3 t52)
      refine L_op (d_eql rfl rfl) ?_   -- 54 (Op.binOp BinOp.eql 3 t53 ((0)) 3)
      refine L_op (d_move (v := .bool _) rfl) ?_   -- 55 (Op.move t54)
      refine L_case (dj := 55) rfl (fun q55 => ?_) (fun q55 => ?_)
      · -- guard 55 true
        refine L_off rfl rfl rfl ?_   -- 56 (Op.fieldAddr 35 t11 0)
        refine L_off rfl rfl rfl ?_   -- 57 (Op.load 3 t56)
        refine L_off rfl rfl rfl ?_   -- 58 (Op.binOp BinOp.eql 3 t57 ((1)) 3)
        refine L_op (d_pick (r := .bool _) rfl rfl) ?_   -- 59 (Op.pick t55 ((true)) t58)
        refine L_nil ?_
        refine W_true (rfl) ?_
        refine W_seq ?_
        refine W_region ?_   -- region 15
        refine L_op (d_move (v := .pointer _) rfl) ?_   -- 61 (Op.move t7)
        refine L_op (d_fieldAddrB fa35_1 rfl) ?_   -- 62 (Op.fieldAddr 35 t11 1)
        refine L_op (d_loadB sc33 (v := .slice _ _ _) rfl (by first | exact (h).cell (i := 0) rfl rfl | exact (h).cell (i := 1) rfl rfl | exact (h).cell (i := 2) rfl rfl | exact (h).cell (i := 3) rfl rfl | exact (h).cell (i := 4) rfl rfl | exact (h).cell (i := 5) rfl rfl | exact (h).cell (i := 6) rfl rfl | exact (h).cell (i := 7) rfl rfl | exact (h).cell (i := 8) rfl rfl)) ?_   -- 63 (Op.load 33 t62)
        replace h := h.front (i := 3) rfl
        --- 64 (Op.call {(Callee.value (Operand.func 11)), [t61, t63], [25, 33]})
        refine L_callB fn11 rfl (record_calls h hrb (by omega) (by omega) (by omega) (by omega)) ?_
        rintro _ w ⟨rfl, h⟩
        refine L_op (d_move (v := .tuple _) rfl) ?_   -- 60 (Op.move t64)
        refine L_op (d_extract (v := .agg _) rfl rfl) ?_   -- 65 (Op.extract t60 0)
        refine L_op (d_extract (v := .int .i64 _) rfl rfl) ?_   -- 66 (Op.extract t60 1)
        --- 12 (Op.alloc 37)
        refine L_allocB h [.int .i64 0, .int .i64 0] zi37 rfl (fun g12 w h b => ?_)
        --- None (Op.store 37 t12 t65)
        first
          | refine L_storeBlk h (i := 0) (vs := [.int .i64 _, .int .i64 _]) rfl sz37 rfl rfl (by simp [Value.oneCell']) rfl (fun w h => ?_)
          | refine L_storeBlk h (i := 1) (vs := [.int .i64 _, .int .i64 _]) rfl sz37 rfl rfl (by simp [Value.oneCell']) rfl (fun w h => ?_)
          | refine L_storeBlk h (i := 2) (vs := [.int .i64 _, .int .i64 _]) rfl sz37 rfl rfl (by simp [Value.oneCell']) rfl (fun w h => ?_)
          | refine L_storeBlk h (i := 3) (vs := [.int .i64 _, .int .i64 _]) rfl sz37 rfl rfl (by simp [Value.oneCell']) rfl (fun w h => ?_)
          | refine L_storeBlk h (i := 4) (vs := [.int .i64 _, .int .i64 _]) rfl sz37 rfl rfl (by simp [Value.oneCell']) rfl (fun w h => ?_)
          | refine L_storeBlk h (i := 5) (vs := [.int .i64 _, .int .i64 _]) rfl sz37 rfl rfl (by simp [Value.oneCell']) rfl (fun w h => ?_)
          | refine L_storeBlk h (i := 6) (vs := [.int .i64 _, .int .i64 _]) rfl sz37 rfl rfl (by simp [Value.oneCell']) rfl (fun w h => ?_)
          | refine L_storeBlk h (i := 7) (vs := [.int .i64 _, .int .i64 _]) rfl sz37 rfl rfl (by simp [Value.oneCell']) rfl (fun w h => ?_)
        refine L_op (d_assign (v := .int .i64 _) rfl) ?_   -- 13 (Op.assign t66)
        refine L_nil ?_
        refine W_seq ?_
        refine W_region ?_   -- region 16
        refine L_op (by first | exact d_loadBlk ag31 (h) (i := 0) rfl rfl rfl | exact d_loadBlk ag31 (h) (i := 1) rfl rfl rfl | exact d_loadBlk ag31 (h) (i := 2) rfl rfl rfl | exact d_loadBlk ag31 (h) (i := 3) rfl rfl rfl | exact d_loadBlk ag31 (h) (i := 4) rfl rfl rfl | exact d_loadBlk ag31 (h) (i := 5) rfl rfl rfl | exact d_loadBlk ag31 (h) (i := 6) rfl rfl rfl | exact d_loadBlk ag31 (h) (i := 7) rfl rfl rfl | exact d_loadBlk ag31 (h) (i := 8) rfl rfl rfl) ?_   -- 68 (Op.load 31 t9)
        refine L_op (d_fieldAddrB fa35_1 rfl) ?_   -- 69 (Op.fieldAddr 35 t11 1)
        refine L_op (d_loadB sc33 (v := .slice _ _ _) rfl (by first | exact (h).cell (i := 0) rfl rfl | exact (h).cell (i := 1) rfl rfl | exact (h).cell (i := 2) rfl rfl | exact (h).cell (i := 3) rfl rfl | exact (h).cell (i := 4) rfl rfl | exact (h).cell (i := 5) rfl rfl | exact (h).cell (i := 6) rfl rfl | exact (h).cell (i := 7) rfl rfl | exact (h).cell (i := 8) rfl rfl)) ?_   -- 70 (Op.load 33 t69)
        replace h := h.front (i := 4) rfl
        --- 71 (Op.call {(Callee.value (Operand.func 12)), [t68, t70], [31, 33]})
        refine L_callB fn12 rfl (rrecord_calls h hrb (by omega) (by omega)) ?_
        rintro _ w ⟨A7, c7, rfl, h⟩
        clear hv2
        generalize recI size ini lst o.2 = I at h hv1 ⊢
        generalize recL size lst o.2 = l at h hv1 ⊢
        replace hv := hv1
        refine L_op (d_move (v := .tuple _) rfl) ?_   -- 67 (Op.move t71)
        refine L_op (d_extract (v := .agg _) rfl rfl) ?_   -- 72 (Op.extract t67 0)
        refine L_op (d_extract (v := .agg _) rfl rfl) ?_   -- 73 (Op.extract t67 1)
        refine L_op (d_extract (v := .int .i64 _) rfl rfl) ?_   -- 74 (Op.extract t67 2)
        --- 14 (Op.alloc 31)
        refine L_allocB h [.int .i64 0, .slice none 0 0] zi31 rfl (fun g14 w h b => ?_)
        --- 15 (Op.alloc 37)
        refine L_allocB h [.int .i64 0, .int .i64 0] zi37 rfl (fun g15 w h b => ?_)
        --- None (Op.store 31 t14 t72)
        first
          | refine L_storeBlk h (i := 0) (vs := [.int .i64 _, .slice _ _ _]) rfl sz31 rfl rfl (by simp [Value.oneCell']) rfl (fun w h => ?_)
          | refine L_storeBlk h (i := 1) (vs := [.int .i64 _, .slice _ _ _]) rfl sz31 rfl rfl (by simp [Value.oneCell']) rfl (fun w h => ?_)
          | refine L_storeBlk h (i := 2) (vs := [.int .i64 _, .slice _ _ _]) rfl sz31 rfl rfl (by simp [Value.oneCell']) rfl (fun w h => ?_)
          | refine L_storeBlk h (i := 3) (vs := [.int .i64 _, .slice _ _ _]) rfl sz31 rfl rfl (by simp [Value.oneCell']) rfl (fun w h => ?_)
          | refine L_storeBlk h (i := 4) (vs := [.int .i64 _, .slice _ _ _]) rfl sz31 rfl rfl (by simp [Value.oneCell']) rfl (fun w h => ?_)
          | refine L_storeBlk h (i := 5) (vs := [.int .i64 _, .slice _ _ _]) rfl sz31 rfl rfl (by simp [Value.oneCell']) rfl (fun w h => ?_)
          | refine L_storeBlk h (i := 6) (vs := [.int .i64 _, .slice _ _ _]) rfl sz31 rfl rfl (by simp [Value.oneCell']) rfl (fun w h => ?_)
          | refine L_storeBlk h (i := 7) (vs := [.int .i64 _, .slice _ _ _]) rfl sz31 rfl rfl (by simp [Value.oneCell']) rfl (fun w h => ?_)
        --- None (Op.store 37 t15 t73)
        first
          | refine L_storeBlk h (i := 0) (vs := [.int .i64 _, .int .i64 _]) rfl sz37 rfl rfl (by simp [Value.oneCell']) rfl (fun w h => ?_)
          | refine L_storeBlk h (i := 1) (vs := [.int .i64 _, .int .i64 _]) rfl sz37 rfl rfl (by simp [Value.oneCell']) rfl (fun w h => ?_)
          | refine L_storeBlk h (i := 2) (vs := [.int .i64 _, .int .i64 _]) rfl sz37 rfl rfl (by simp [Value.oneCell']) rfl (fun w h => ?_)
          | refine L_storeBlk h (i := 3) (vs := [.int .i64 _, .int .i64 _]) rfl sz37 rfl rfl (by simp [Value.oneCell']) rfl (fun w h => ?_)
          | refine L_storeBlk h (i := 4) (vs := [.int .i64 _, .int .i64 _]) rfl sz37 rfl rfl (by simp [Value.oneCell']) rfl (fun w h => ?_)
          | refine L_storeBlk h (i := 5) (vs := [.int .i64 _, .int .i64 _]) rfl sz37 rfl rfl (by simp [Value.oneCell']) rfl (fun w h => ?_)
          | refine L_storeBlk h (i := 6) (vs := [.int .i64 _, .int .i64 _]) rfl sz37 rfl rfl (by simp [Value.oneCell']) rfl (fun w h => ?_)
          | refine L_storeBlk h (i := 7) (vs := [.int .i64 _, .int .i64 _]) rfl sz37 rfl rfl (by simp [Value.oneCell']) rfl (fun w h => ?_)
        refine L_op (d_assign (v := .int .i64 _) rfl) ?_   -- 16 (Op.assign t74)
        refine L_nil ?_
        refine W_seq ?_
        refine W_region ?_   -- region 17
        refine L_op (by first | exact d_loadBlk ag31 (h) (i := 0) rfl rfl rfl | exact d_loadBlk ag31 (h) (i := 1) rfl rfl rfl | exact d_loadBlk ag31 (h) (i := 2) rfl rfl rfl | exact d_loadBlk ag31 (h) (i := 3) rfl rfl rfl | exact d_loadBlk ag31 (h) (i := 4) rfl rfl rfl | exact d_loadBlk ag31 (h) (i := 5) rfl rfl rfl | exact d_loadBlk ag31 (h) (i := 6) rfl rfl rfl | exact d_loadBlk ag31 (h) (i := 7) rfl rfl rfl | exact d_loadBlk ag31 (h) (i := 8) rfl rfl rfl) ?_   -- 75 (Op.load 31 t14)
        --- None (Op.store 31 t9 t75)
        first
          | refine L_storeBlk h (i := 0) (vs := [.int .i64 _, .slice _ _ _]) rfl sz31 rfl rfl (by simp [Value.oneCell']) rfl (fun w h => ?_)
          | refine L_storeBlk h (i := 1) (vs := [.int .i64 _, .slice _ _ _]) rfl sz31 rfl rfl (by simp [Value.oneCell']) rfl (fun w h => ?_)
          | refine L_storeBlk h (i := 2) (vs := [.int .i64 _, .slice _ _ _]) rfl sz31 rfl rfl (by simp [Value.oneCell']) rfl (fun w h => ?_)
          | refine L_storeBlk h (i := 3) (vs := [.int .i64 _, .slice _ _ _]) rfl sz31 rfl rfl (by simp [Value.oneCell']) rfl (fun w h => ?_)
          | refine L_storeBlk h (i := 4) (vs := [.int .i64 _, .slice _ _ _]) rfl sz31 rfl rfl (by simp [Value.oneCell']) rfl (fun w h => ?_)
          | refine L_storeBlk h (i := 5) (vs := [.int .i64 _, .slice _ _ _]) rfl sz31 rfl rfl (by simp [Value.oneCell']) rfl (fun w h => ?_)
          | refine L_storeBlk h (i := 6) (vs := [.int .i64 _, .slice _ _ _]) rfl sz31 rfl rfl (by simp [Value.oneCell']) rfl (fun w h => ?_)
          | refine L_storeBlk h (i := 7) (vs := [.int .i64 _, .slice _ _ _]) rfl sz31 rfl rfl (by simp [Value.oneCell']) rfl (fun w h => ?_)
        refine L_nil ?_
        refine W_seq ?_
        refine W_region ?_   -- region 18
        refine L_op (by first | exact d_loadBlk ag37 (h) (i := 0) rfl rfl rfl | exact d_loadBlk ag37 (h) (i := 1) rfl rfl rfl | exact d_loadBlk ag37 (h) (i := 2) rfl rfl rfl | exact d_loadBlk ag37 (h) (i := 3) rfl rfl rfl | exact d_loadBlk ag37 (h) (i := 4) rfl rfl rfl | exact d_loadBlk ag37 (h) (i := 5) rfl rfl rfl | exact d_loadBlk ag37 (h) (i := 6) rfl rfl rfl | exact d_loadBlk ag37 (h) (i := 7) rfl rfl rfl | exact d_loadBlk ag37 (h) (i := 8) rfl rfl rfl) ?_   -- 76 (Op.load 37 t12)
        refine L_op (by first | exact d_loadBlk ag37 (h) (i := 0) rfl rfl rfl | exact d_loadBlk ag37 (h) (i := 1) rfl rfl rfl | exact d_loadBlk ag37 (h) (i := 2) rfl rfl rfl | exact d_loadBlk ag37 (h) (i := 3) rfl rfl rfl | exact d_loadBlk ag37 (h) (i := 4) rfl rfl rfl | exact d_loadBlk ag37 (h) (i := 5) rfl rfl rfl | exact d_loadBlk ag37 (h) (i := 6) rfl rfl rfl | exact d_loadBlk ag37 (h) (i := 7) rfl rfl rfl | exact d_loadBlk ag37 (h) (i := 8) rfl rfl rfl) ?_   -- 77 (Op.load 37 t15)
        refine L_op (d_neq2 pair37 rfl rfl) ?_   -- 78 (Op.binOp BinOp.neq 37 t76 t77 37)
        refine L_op (d_move (v := .bool _) rfl) ?_   -- 79 (Op.move t78)
        refine L_know (dj := 79) (b := false) rfl (by simp) ?_
        refine L_on rfl rfl rfl ?_
        refine L_op (d_move (v := .int .i64 _) rfl) ?_   -- 80 (Op.move t13)
        refine L_on rfl rfl rfl ?_
        refine L_op (d_move (v := .int .i64 _) rfl) ?_   -- 81 (Op.move t16)
        refine L_on rfl rfl rfl ?_
        refine L_op (d_neq rfl rfl) ?_   -- 82 (Op.binOp BinOp.neq 3 t80 t81 3)
        refine L_op (d_pick (r := .bool _) rfl rfl) ?_   -- 83 (Op.pick t79 ((true)) t82)
        refine L_nil ?_
        refine W_false (congrArg Value.bool (by simp)) ?_
        refine W_skip ?_
        refine W_seq ?_
        refine W_draw [.P, .G, .P, .S, .H, .P, .P, .S, .S, .G, .S, .S, .S, .G, .H, .S, .P] [[], [0], [], [2], [0, 1, 2, 3], [0, 1, 2, 3, 4], [0, 1, 2, 3, 4, 5], [0, 1, 2, 3, 4, 5, 6], [0, 1, 2, 3, 4, 5, 6], [0, 1, 2, 3, 4, 5, 6, 7, 8], [0, 1, 2, 3, 4, 5, 6], [0, 1, 2, 3, 4, 5, 6], [0, 1, 2, 3, 4, 5, 6], [0, 1, 2, 3, 4, 5, 6, 7, 8, 9, 11, 12], [0, 1, 2, 3, 4, 5, 6, 7, 8, 9, 10, 11, 12, 13], [0, 1, 2, 3, 4, 5, 6, 7, 8, 9, 10, 11, 12, 13, 14], [0, 1, 2, 3, 4, 5, 6, 7, 8, 9, 10, 11, 12, 13, 14, 15]] mixed (by decide +kernel) (fun w b => ?_)   -- region 25
        replace h := h.keep b
        refine T_P 0 rfl (by decide +kernel) (fun w2 => d_move (v := .pointer _) rfl) ?_   -- 99 (Op.move t7)
        refine T_P 2 rfl (by decide +kernel) (fun w2 => d_fieldAddrB fa31_1 rfl) ?_   -- 101 (Op.fieldAddr 31 t9 1)
        refine T_S 3 rfl (by decide +kernel) (fun w2 b2 => d_loadB sc29 (v := .slice _ _ _) rfl (by first | exact (h.keep b2).cell (i := 0) rfl rfl | exact (h.keep b2).cell (i := 1) rfl rfl | exact (h.keep b2).cell (i := 2) rfl rfl | exact (h.keep b2).cell (i := 3) rfl rfl | exact (h.keep b2).cell (i := 4) rfl rfl | exact (h.keep b2).cell (i := 5) rfl rfl | exact (h.keep b2).cell (i := 6) rfl rfl | exact (h.keep b2).cell (i := 7) rfl rfl | exact (h.keep b2).cell (i := 8) rfl rfl)) ?_   -- 102 (Op.load 29 t101)
        have hn1 := hv.n
        have hn2 := hv.l
        have hn3 := hv.s
        have hal := hv.all
        have hle := hv.len
        obtain ⟨Aw, cw, hbw, hrw⟩ := wr_rd h (i := 4) rfl
        refine T_G 1 (by decide +kernel) rfl ?_
        --- 100 (Op.call {(Callee.value (Operand.func 16)), [t99], [25]})
        refine L_callB fn16 rfl (row_calls hbw hrw (by omega) (fun xs hx => by have := hal xs hx; omega)) ?_
        rintro v100 w1 hm
        have b := hm.below
        replace h := h.take hm
        obtain ⟨vs100, hvs100, ho⟩ := rows_open h
        obtain ⟨A100, c100, rfl, _⟩ := (ho.rowAt (i := 0) rfl).slice
        have hr100 := rows_rd hvs100 ho
        clear ho
        rw [hvs100] at h ⊢
        refine L_nil ⟨b, ?_⟩
        refine T_H 4 (by decide +kernel) rfl ?_
        --- 103 (Op.call {(Callee.value (Operand.func 15)), [t100, t102], [29, 29]})
        refine L_callB fn15 rfl (rows_calls hr100 (ro_rd (i := 3) h rfl) (by omega) (fun xs hx => by have := hal xs hx; omega)) ?_
        rintro _ w ⟨rfl, b⟩
        replace h := h.keep b
        refine L_nil ?_
        refine T_P 5 rfl (by decide +kernel) (fun w2 => d_not rfl) ?_   -- 104 (Op.unOp UnOp.not 4 t103)
        refine T_P 6 rfl (by decide +kernel) (fun w2 => d_move (v := .bool _) rfl) ?_   -- 105 (Op.move t104)
        refine T_know (dj := 105) (b := false) rfl (by simp) ?_
        refine T_on 7 rfl (by decide +kernel) rfl rfl rfl (fun w2 b2 => d_move (v := .pointer _) rfl) rfl ?_   -- 106 (Op.move t7)
        refine T_on 8 rfl (by decide +kernel) rfl rfl rfl (fun w2 b2 => d_move (v := .int .i64 _) rfl) rfl ?_   -- 107 (Op.move t2)
        refine T_on 10 rfl (by decide +kernel) rfl rfl rfl (fun w2 b2 => by first | exact d_loadBlk ag31 (h.keep b2) (i := 0) rfl rfl rfl | exact d_loadBlk ag31 (h.keep b2) (i := 1) rfl rfl rfl | exact d_loadBlk ag31 (h.keep b2) (i := 2) rfl rfl rfl | exact d_loadBlk ag31 (h.keep b2) (i := 3) rfl rfl rfl | exact d_loadBlk ag31 (h.keep b2) (i := 4) rfl rfl rfl | exact d_loadBlk ag31 (h.keep b2) (i := 5) rfl rfl rfl | exact d_loadBlk ag31 (h.keep b2) (i := 6) rfl rfl rfl | exact d_loadBlk ag31 (h.keep b2) (i := 7) rfl rfl rfl | exact d_loadBlk ag31 (h.keep b2) (i := 8) rfl rfl rfl) rfl ?_   -- 109 (Op.load 31 t9)
        refine T_on 11 rfl (by decide +kernel) rfl rfl rfl (fun w2 b2 => d_move (v := .int .i64 _) rfl) rfl ?_   -- 110 (Op.move t2)
        refine T_on 12 rfl (by decide +kernel) rfl rfl rfl (fun w2 b2 => d_move (v := .int .i64 _) rfl) rfl ?_   -- 111 (Op.move t0)
        obtain ⟨gr8, c8, A8, k8, hb8, hv8, hk8⟩ := wr_reads h (i := 5) rfl
        refine T_G 9 (by decide +kernel) rfl ?_
        refine L_on rfl rfl rfl ?_
        --- 108 (Op.call {(Callee.value (Operand.func 17)), [t106, t107], [25, 3]})
        refine L_callB fn17 rfl (next_calls hb8 hv8 (by omega) (by omega) (by omega) (by omega) n) ?_
        rintro _ w ⟨rfl, b⟩
        replace h := h.keep b
        refine L_nil ⟨b, ?_⟩
        refine T_G 13 (by decide +kernel) rfl ?_
        refine L_on rfl rfl rfl ?_
        --- 112 (Op.call {(Callee.value (Operand.func 19)), [t110, ((1)), t111], [3, 3, 3]})
        refine L_callB fn19 rfl (held01_calls _ _ _ _ (by omega)) ?_
        rintro _ w ⟨rfl, b⟩
        replace h := h.keep b
        refine L_nil ⟨b, ?_⟩
        refine T_H 14 (by decide +kernel) rfl ?_
        refine L_on rfl rfl rfl ?_
        --- 113 (Op.call {(Callee.value (Operand.func 18)), [t109, t112], [31, 3]})
        refine L_callB fn18 rfl (rnext_calls (ro_rd (i := 3) h rfl) (by omega) (by omega) (by omega)) ?_
        rintro _ w ⟨rfl, b⟩
        replace h := h.keep b
        refine L_nil ?_
        refine T_on 15 rfl (by decide +kernel) rfl rfl rfl (fun w2 b2 => d_neq2 pair37 rfl rfl) rfl ?_   -- 114 (Op.binOp BinOp.neq 37 t108 t113 37)
        refine T_P 16 rfl (by decide +kernel) (fun w2 => d_pick (r := .bool _) rfl rfl) ?_   -- 115 (Op.pick t105 ((true)) t114)
        refine T_end (by decide +kernel) ?_
        refine W_false (congrArg Value.bool (next_same (by omega) hn3)) ?_
        refine W_skip ?_
        refine W_region ?_   -- region 27
        refine L_op (d_add' (has_i64 (by omega) (by omega)) rfl rfl) ?_   -- 116 (Op.binOp BinOp.add 3 t48 ((1)) 3)
        refine L_op (d_move (v := .int .i64 _) rfl) ?_   -- 48 (Op.move t116)
        refine L_nil ?_
        refine ⟨(i + 1, A7, c7, I, l), ⟨rfl, rfl, rfl, rfl, rfl, rfl, rfl, rfl, trivial⟩, ⟨?_, by dsimp only; omega, hv⟩, by dsimp only; omega⟩
        exact (((((h.front (i := 7) rfl).dropAt (i := 1) rfl).dropAt (i := 1) rfl).dropAt (i := 1) rfl).dropAt (i := 2) rfl).dropAt (i := 3) rfl
      · -- guard 55 false
        refine L_on rfl rfl rfl ?_
        refine L_op (d_fieldAddrB fa35_0 rfl) ?_   -- 56 (Op.fieldAddr 35 t11 0)
        refine L_on rfl rfl rfl ?_
        refine L_op (d_loadB sc3 (v := .int .i64 _) rfl (by first | exact (h).cell (i := 0) rfl rfl | exact (h).cell (i := 1) rfl rfl | exact (h).cell (i := 2) rfl rfl | exact (h).cell (i := 3) rfl rfl | exact (h).cell (i := 4) rfl rfl | exact (h).cell (i := 5) rfl rfl | exact (h).cell (i := 6) rfl rfl | exact (h).cell (i := 7) rfl rfl | exact (h).cell (i := 8) rfl rfl)) ?_   -- 57 (Op.load 3 t56)
        refine L_on rfl rfl rfl ?_
        refine L_op (d_eql rfl rfl) ?_   -- 58 (Op.binOp BinOp.eql 3 t57 ((1)) 3)
        refine L_op (d_pick (r := .bool _) rfl rfl) ?_   -- 59 (Op.pick t55 ((true)) t58)
        refine L_nil ?_
        refine W_if rfl (fun c59 => ?_) (fun c59 => ?_)
        · -- c59 yes
          refine W_seq ?_
          refine W_region ?_   -- region 15
          refine L_op (d_move (v := .pointer _) rfl) ?_   -- 61 (Op.move t7)
          refine L_op (d_fieldAddrB fa35_1 rfl) ?_   -- 62 (Op.fieldAddr 35 t11 1)
          refine L_op (d_loadB sc33 (v := .slice _ _ _) rfl (by first | exact (h).cell (i := 0) rfl rfl | exact (h).cell (i := 1) rfl rfl | exact (h).cell (i := 2) rfl rfl | exact (h).cell (i := 3) rfl rfl | exact (h).cell (i := 4) rfl rfl | exact (h).cell (i := 5) rfl rfl | exact (h).cell (i := 6) rfl rfl | exact (h).cell (i := 7) rfl rfl | exact (h).cell (i := 8) rfl rfl)) ?_   -- 63 (Op.load 33 t62)
          replace h := h.front (i := 3) rfl
          --- 64 (Op.call {(Callee.value (Operand.func 11)), [t61, t63], [25, 33]})
          refine L_callB fn11 rfl (record_calls h hrb (by omega) (by omega) (by omega) (by omega)) ?_
          rintro _ w ⟨rfl, h⟩
          refine L_op (d_move (v := .tuple _) rfl) ?_   -- 60 (Op.move t64)
          refine L_op (d_extract (v := .agg _) rfl rfl) ?_   -- 65 (Op.extract t60 0)
          refine L_op (d_extract (v := .int .i64 _) rfl rfl) ?_   -- 66 (Op.extract t60 1)
          --- 12 (Op.alloc 37)
          refine L_allocB h [.int .i64 0, .int .i64 0] zi37 rfl (fun g12 w h b => ?_)
          --- None (Op.store 37 t12 t65)
          first
            | refine L_storeBlk h (i := 0) (vs := [.int .i64 _, .int .i64 _]) rfl sz37 rfl rfl (by simp [Value.oneCell']) rfl (fun w h => ?_)
            | refine L_storeBlk h (i := 1) (vs := [.int .i64 _, .int .i64 _]) rfl sz37 rfl rfl (by simp [Value.oneCell']) rfl (fun w h => ?_)
            | refine L_storeBlk h (i := 2) (vs := [.int .i64 _, .int .i64 _]) rfl sz37 rfl rfl (by simp [Value.oneCell']) rfl (fun w h => ?_)
            | refine L_storeBlk h (i := 3) (vs := [.int .i64 _, .int .i64 _]) rfl sz37 rfl rfl (by simp [Value.oneCell']) rfl (fun w h => ?_)
            | refine L_storeBlk h (i := 4) (vs := [.int .i64 _, .int .i64 _]) rfl sz37 rfl rfl (by simp [Value.oneCell']) rfl (fun w h => ?_)
            | refine L_storeBlk h (i := 5) (vs := [.int .i64 _, .int .i64 _]) rfl sz37 rfl rfl (by simp [Value.oneCell']) rfl (fun w h => ?_)
            | refine L_storeBlk h (i := 6) (vs := [.int .i64 _, .int .i64 _]) rfl sz37 rfl rfl (by simp [Value.oneCell']) rfl (fun w h => ?_)
            | refine L_storeBlk h (i := 7) (vs := [.int .i64 _, .int .i64 _]) rfl sz37 rfl rfl (by simp [Value.oneCell']) rfl (fun w h => ?_)
          refine L_op (d_assign (v := .int .i64 _) rfl) ?_   -- 13 (Op.assign t66)
          refine L_nil ?_
          refine W_seq ?_
          refine W_region ?_   -- region 16
          refine L_op (by first | exact d_loadBlk ag31 (h) (i := 0) rfl rfl rfl | exact d_loadBlk ag31 (h) (i := 1) rfl rfl rfl | exact d_loadBlk ag31 (h) (i := 2) rfl rfl rfl | exact d_loadBlk ag31 (h) (i := 3) rfl rfl rfl | exact d_loadBlk ag31 (h) (i := 4) rfl rfl rfl | exact d_loadBlk ag31 (h) (i := 5) rfl rfl rfl | exact d_loadBlk ag31 (h) (i := 6) rfl rfl rfl | exact d_loadBlk ag31 (h) (i := 7) rfl rfl rfl | exact d_loadBlk ag31 (h) (i := 8) rfl rfl rfl) ?_   -- 68 (Op.load 31 t9)
          refine L_op (d_fieldAddrB fa35_1 rfl) ?_   -- 69 (Op.fieldAddr 35 t11 1)
          refine L_op (d_loadB sc33 (v := .slice _ _ _) rfl (by first | exact (h).cell (i := 0) rfl rfl | exact (h).cell (i := 1) rfl rfl | exact (h).cell (i := 2) rfl rfl | exact (h).cell (i := 3) rfl rfl | exact (h).cell (i := 4) rfl rfl | exact (h).cell (i := 5) rfl rfl | exact (h).cell (i := 6) rfl rfl | exact (h).cell (i := 7) rfl rfl | exact (h).cell (i := 8) rfl rfl)) ?_   -- 70 (Op.load 33 t69)
          replace h := h.front (i := 4) rfl
          --- 71 (Op.call {(Callee.value (Operand.func 12)), [t68, t70], [31, 33]})
          refine L_callB fn12 rfl (rrecord_calls h hrb (by omega) (by omega)) ?_
          rintro _ w ⟨A7, c7, rfl, h⟩
          clear hv2
          generalize recI size ini lst o.2 = I at h hv1 ⊢
          generalize recL size lst o.2 = l at h hv1 ⊢
          replace hv := hv1
          refine L_op (d_move (v := .tuple _) rfl) ?_   -- 67 (Op.move t71)
          refine L_op (d_extract (v := .agg _) rfl rfl) ?_   -- 72 (Op.extract t67 0)
          refine L_op (d_extract (v := .agg _) rfl rfl) ?_   -- 73 (Op.extract t67 1)
          refine L_op (d_extract (v := .int .i64 _) rfl rfl) ?_   -- 74 (Op.extract t67 2)
          --- 14 (Op.alloc 31)
          refine L_allocB h [.int .i64 0, .slice none 0 0] zi31 rfl (fun g14 w h b => ?_)
          --- 15 (Op.alloc 37)
          refine L_allocB h [.int .i64 0, .int .i64 0] zi37 rfl (fun g15 w h b => ?_)
          --- None (Op.store 31 t14 t72)
          first
            | refine L_storeBlk h (i := 0) (vs := [.int .i64 _, .slice _ _ _]) rfl sz31 rfl rfl (by simp [Value.oneCell']) rfl (fun w h => ?_)
            | refine L_storeBlk h (i := 1) (vs := [.int .i64 _, .slice _ _ _]) rfl sz31 rfl rfl (by simp [Value.oneCell']) rfl (fun w h => ?_)
            | refine L_storeBlk h (i := 2) (vs := [.int .i64 _, .slice _ _ _]) rfl sz31 rfl rfl (by simp [Value.oneCell']) rfl (fun w h => ?_)
            | refine L_storeBlk h (i := 3) (vs := [.int .i64 _, .slice _ _ _]) rfl sz31 rfl rfl (by simp [Value.oneCell']) rfl (fun w h => ?_)
            | refine L_storeBlk h (i := 4) (vs := [.int .i64 _, .slice _ _ _]) rfl sz31 rfl rfl (by simp [Value.oneCell']) rfl (fun w h => ?_)
            | refine L_storeBlk h (i := 5) (vs := [.int .i64 _, .slice _ _ _]) rfl sz31 rfl rfl (by simp [Value.oneCell']) rfl (fun w h => ?_)
            | refine L_storeBlk h (i := 6) (vs := [.int .i64 _, .slice _ _ _]) rfl sz31 rfl rfl (by simp [Value.oneCell']) rfl (fun w h => ?_)
            | refine L_storeBlk h (i := 7) (vs := [.int .i64 _, .slice _ _ _]) rfl sz31 rfl rfl (by simp [Value.oneCell']) rfl (fun w h => ?_)
          --- None (Op.store 37 t15 t73)
          first
            | refine L_storeBlk h (i := 0) (vs := [.int .i64 _, .int .i64 _]) rfl sz37 rfl rfl (by simp [Value.oneCell']) rfl (fun w h => ?_)
            | refine L_storeBlk h (i := 1) (vs := [.int .i64 _, .int .i64 _]) rfl sz37 rfl rfl (by simp [Value.oneCell']) rfl (fun w h => ?_)
            | refine L_storeBlk h (i := 2) (vs := [.int .i64 _, .int .i64 _]) rfl sz37 rfl rfl (by simp [Value.oneCell']) rfl (fun w h => ?_)
            | refine L_storeBlk h (i := 3) (vs := [.int .i64 _, .int .i64 _]) rfl sz37 rfl rfl (by simp [Value.oneCell']) rfl (fun w h => ?_)
            | refine L_storeBlk h (i := 4) (vs := [.int .i64 _, .int .i64 _]) rfl sz37 rfl rfl (by simp [Value.oneCell']) rfl (fun w h => ?_)
            | refine L_storeBlk h (i := 5) (vs := [.int .i64 _, .int .i64 _]) rfl sz37 rfl rfl (by simp [Value.oneCell']) rfl (fun w h => ?_)
            | refine L_storeBlk h (i := 6) (vs := [.int .i64 _, .int .i64 _]) rfl sz37 rfl rfl (by simp [Value.oneCell']) rfl (fun w h => ?_)
            | refine L_storeBlk h (i := 7) (vs := [.int .i64 _, .int .i64 _]) rfl sz37 rfl rfl (by simp [Value.oneCell']) rfl (fun w h => ?_)
          refine L_op (d_assign (v := .int .i64 _) rfl) ?_   -- 16 (Op.assign t74)
          refine L_nil ?_
          refine W_seq ?_
          refine W_region ?_   -- region 17
          refine L_op (by first | exact d_loadBlk ag31 (h) (i := 0) rfl rfl rfl | exact d_loadBlk ag31 (h) (i := 1) rfl rfl rfl | exact d_loadBlk ag31 (h) (i := 2) rfl rfl rfl | exact d_loadBlk ag31 (h) (i := 3) rfl rfl rfl | exact d_loadBlk ag31 (h) (i := 4) rfl rfl rfl | exact d_loadBlk ag31 (h) (i := 5) rfl rfl rfl | exact d_loadBlk ag31 (h) (i := 6) rfl rfl rfl | exact d_loadBlk ag31 (h) (i := 7) rfl rfl rfl | exact d_loadBlk ag31 (h) (i := 8) rfl rfl rfl) ?_   -- 75 (Op.load 31 t14)
          --- None (Op.store 31 t9 t75)
          first
            | refine L_storeBlk h (i := 0) (vs := [.int .i64 _, .slice _ _ _]) rfl sz31 rfl rfl (by simp [Value.oneCell']) rfl (fun w h => ?_)
            | refine L_storeBlk h (i := 1) (vs := [.int .i64 _, .slice _ _ _]) rfl sz31 rfl rfl (by simp [Value.oneCell']) rfl (fun w h => ?_)
            | refine L_storeBlk h (i := 2) (vs := [.int .i64 _, .slice _ _ _]) rfl sz31 rfl rfl (by simp [Value.oneCell']) rfl (fun w h => ?_)
            | refine L_storeBlk h (i := 3) (vs := [.int .i64 _, .slice _ _ _]) rfl sz31 rfl rfl (by simp [Value.oneCell']) rfl (fun w h => ?_)
            | refine L_storeBlk h (i := 4) (vs := [.int .i64 _, .slice _ _ _]) rfl sz31 rfl rfl (by simp [Value.oneCell']) rfl (fun w h => ?_)
            | refine L_storeBlk h (i := 5) (vs := [.int .i64 _, .slice _ _ _]) rfl sz31 rfl rfl (by simp [Value.oneCell']) rfl (fun w h => ?_)
            | refine L_storeBlk h (i := 6) (vs := [.int .i64 _, .slice _ _ _]) rfl sz31 rfl rfl (by simp [Value.oneCell']) rfl (fun w h => ?_)
            | refine L_storeBlk h (i := 7) (vs := [.int .i64 _, .slice _ _ _]) rfl sz31 rfl rfl (by simp [Value.oneCell']) rfl (fun w h => ?_)
          refine L_nil ?_
          refine W_seq ?_
          refine W_region ?_   -- region 18
          refine L_op (by first | exact d_loadBlk ag37 (h) (i := 0) rfl rfl rfl | exact d_loadBlk ag37 (h) (i := 1) rfl rfl rfl | exact d_loadBlk ag37 (h) (i := 2) rfl rfl rfl | exact d_loadBlk ag37 (h) (i := 3) rfl rfl rfl | exact d_loadBlk ag37 (h) (i := 4) rfl rfl rfl | exact d_loadBlk ag37 (h) (i := 5) rfl rfl rfl | exact d_loadBlk ag37 (h) (i := 6) rfl rfl rfl | exact d_loadBlk ag37 (h) (i := 7) rfl rfl rfl | exact d_loadBlk ag37 (h) (i := 8) rfl rfl rfl) ?_   -- 76 (Op.load 37 t12)
          refine L_op (by first | exact d_loadBlk ag37 (h) (i := 0) rfl rfl rfl | exact d_loadBlk ag37 (h) (i := 1) rfl rfl rfl | exact d_loadBlk ag37 (h) (i := 2) rfl rfl rfl | exact d_loadBlk ag37 (h) (i := 3) rfl rfl rfl | exact d_loadBlk ag37 (h) (i := 4) rfl rfl rfl | exact d_loadBlk ag37 (h) (i := 5) rfl rfl rfl | exact d_loadBlk ag37 (h) (i := 6) rfl rfl rfl | exact d_loadBlk ag37 (h) (i := 7) rfl rfl rfl | exact d_loadBlk ag37 (h) (i := 8) rfl rfl rfl) ?_   -- 77 (Op.load 37 t15)
          refine L_op (d_neq2 pair37 rfl rfl) ?_   -- 78 (Op.binOp BinOp.neq 37 t76 t77 37)
          refine L_op (d_move (v := .bool _) rfl) ?_   -- 79 (Op.move t78)
          refine L_know (dj := 79) (b := false) rfl (by simp) ?_
          refine L_on rfl rfl rfl ?_
          refine L_op (d_move (v := .int .i64 _) rfl) ?_   -- 80 (Op.move t13)
          refine L_on rfl rfl rfl ?_
          refine L_op (d_move (v := .int .i64 _) rfl) ?_   -- 81 (Op.move t16)
          refine L_on rfl rfl rfl ?_
          refine L_op (d_neq rfl rfl) ?_   -- 82 (Op.binOp BinOp.neq 3 t80 t81 3)
          refine L_op (d_pick (r := .bool _) rfl rfl) ?_   -- 83 (Op.pick t79 ((true)) t82)
          refine L_nil ?_
          refine W_false (congrArg Value.bool (by simp)) ?_
          refine W_skip ?_
          refine W_seq ?_
          refine W_draw [.P, .G, .P, .S, .H, .P, .P, .S, .S, .G, .S, .S, .S, .G, .H, .S, .P] [[], [0], [], [2], [0, 1, 2, 3], [0, 1, 2, 3, 4], [0, 1, 2, 3, 4, 5], [0, 1, 2, 3, 4, 5, 6], [0, 1, 2, 3, 4, 5, 6], [0, 1, 2, 3, 4, 5, 6, 7, 8], [0, 1, 2, 3, 4, 5, 6], [0, 1, 2, 3, 4, 5, 6], [0, 1, 2, 3, 4, 5, 6], [0, 1, 2, 3, 4, 5, 6, 7, 8, 9, 11, 12], [0, 1, 2, 3, 4, 5, 6, 7, 8, 9, 10, 11, 12, 13], [0, 1, 2, 3, 4, 5, 6, 7, 8, 9, 10, 11, 12, 13, 14], [0, 1, 2, 3, 4, 5, 6, 7, 8, 9, 10, 11, 12, 13, 14, 15]] mixed (by decide +kernel) (fun w b => ?_)   -- region 25
          replace h := h.keep b
          refine T_P 0 rfl (by decide +kernel) (fun w2 => d_move (v := .pointer _) rfl) ?_   -- 99 (Op.move t7)
          refine T_P 2 rfl (by decide +kernel) (fun w2 => d_fieldAddrB fa31_1 rfl) ?_   -- 101 (Op.fieldAddr 31 t9 1)
          refine T_S 3 rfl (by decide +kernel) (fun w2 b2 => d_loadB sc29 (v := .slice _ _ _) rfl (by first | exact (h.keep b2).cell (i := 0) rfl rfl | exact (h.keep b2).cell (i := 1) rfl rfl | exact (h.keep b2).cell (i := 2) rfl rfl | exact (h.keep b2).cell (i := 3) rfl rfl | exact (h.keep b2).cell (i := 4) rfl rfl | exact (h.keep b2).cell (i := 5) rfl rfl | exact (h.keep b2).cell (i := 6) rfl rfl | exact (h.keep b2).cell (i := 7) rfl rfl | exact (h.keep b2).cell (i := 8) rfl rfl)) ?_   -- 102 (Op.load 29 t101)
          have hn1 := hv.n
          have hn2 := hv.l
          have hn3 := hv.s
          have hal := hv.all
          have hle := hv.len
          obtain ⟨Aw, cw, hbw, hrw⟩ := wr_rd h (i := 4) rfl
          refine T_G 1 (by decide +kernel) rfl ?_
          --- 100 (Op.call {(Callee.value (Operand.func 16)), [t99], [25]})
          refine L_callB fn16 rfl (row_calls hbw hrw (by omega) (fun xs hx => by have := hal xs hx; omega)) ?_
          rintro v100 w1 hm
          have b := hm.below
          replace h := h.take hm
          obtain ⟨vs100, hvs100, ho⟩ := rows_open h
          obtain ⟨A100, c100, rfl, _⟩ := (ho.rowAt (i := 0) rfl).slice
          have hr100 := rows_rd hvs100 ho
          clear ho
          rw [hvs100] at h ⊢
          refine L_nil ⟨b, ?_⟩
          refine T_H 4 (by decide +kernel) rfl ?_
          --- 103 (Op.call {(Callee.value (Operand.func 15)), [t100, t102], [29, 29]})
          refine L_callB fn15 rfl (rows_calls hr100 (ro_rd (i := 3) h rfl) (by omega) (fun xs hx => by have := hal xs hx; omega)) ?_
          rintro _ w ⟨rfl, b⟩
          replace h := h.keep b
          refine L_nil ?_
          refine T_P 5 rfl (by decide +kernel) (fun w2 => d_not rfl) ?_   -- 104 (Op.unOp UnOp.not 4 t103)
          refine T_P 6 rfl (by decide +kernel) (fun w2 => d_move (v := .bool _) rfl) ?_   -- 105 (Op.move t104)
          refine T_know (dj := 105) (b := false) rfl (by simp) ?_
          refine T_on 7 rfl (by decide +kernel) rfl rfl rfl (fun w2 b2 => d_move (v := .pointer _) rfl) rfl ?_   -- 106 (Op.move t7)
          refine T_on 8 rfl (by decide +kernel) rfl rfl rfl (fun w2 b2 => d_move (v := .int .i64 _) rfl) rfl ?_   -- 107 (Op.move t2)
          refine T_on 10 rfl (by decide +kernel) rfl rfl rfl (fun w2 b2 => by first | exact d_loadBlk ag31 (h.keep b2) (i := 0) rfl rfl rfl | exact d_loadBlk ag31 (h.keep b2) (i := 1) rfl rfl rfl | exact d_loadBlk ag31 (h.keep b2) (i := 2) rfl rfl rfl | exact d_loadBlk ag31 (h.keep b2) (i := 3) rfl rfl rfl | exact d_loadBlk ag31 (h.keep b2) (i := 4) rfl rfl rfl | exact d_loadBlk ag31 (h.keep b2) (i := 5) rfl rfl rfl | exact d_loadBlk ag31 (h.keep b2) (i := 6) rfl rfl rfl | exact d_loadBlk ag31 (h.keep b2) (i := 7) rfl rfl rfl | exact d_loadBlk ag31 (h.keep b2) (i := 8) rfl rfl rfl) rfl ?_   -- 109 (Op.load 31 t9)
          refine T_on 11 rfl (by decide +kernel) rfl rfl rfl (fun w2 b2 => d_move (v := .int .i64 _) rfl) rfl ?_   -- 110 (Op.move t2)
          refine T_on 12 rfl (by decide +kernel) rfl rfl rfl (fun w2 b2 => d_move (v := .int .i64 _) rfl) rfl ?_   -- 111 (Op.move t0)
          obtain ⟨gr8, c8, A8, k8, hb8, hv8, hk8⟩ := wr_reads h (i := 5) rfl
          refine T_G 9 (by decide +kernel) rfl ?_
          refine L_on rfl rfl rfl ?_
          --- 108 (Op.call {(Callee.value (Operand.func 17)), [t106, t107], [25, 3]})
          refine L_callB fn17 rfl (next_calls hb8 hv8 (by omega) (by omega) (by omega) (by omega) n) ?_
          rintro _ w ⟨rfl, b⟩
          replace h := h.keep b
          refine L_nil ⟨b, ?_⟩
          refine T_G 13 (by decide +kernel) rfl ?_
          refine L_on rfl rfl rfl ?_
          --- 112 (Op.call {(Callee.value (Operand.func 19)), [t110, ((1)), t111], [3, 3, 3]})
          refine L_callB fn19 rfl (held01_calls _ _ _ _ (by omega)) ?_
          rintro _ w ⟨rfl, b⟩
          replace h := h.keep b
          refine L_nil ⟨b, ?_⟩
          refine T_H 14 (by decide +kernel) rfl ?_
          refine L_on rfl rfl rfl ?_
          --- 113 (Op.call {(Callee.value (Operand.func 18)), [t109, t112], [31, 3]})
          refine L_callB fn18 rfl (rnext_calls (ro_rd (i := 3) h rfl) (by omega) (by omega) (by omega)) ?_
          rintro _ w ⟨rfl, b⟩
          replace h := h.keep b
          refine L_nil ?_
          refine T_on 15 rfl (by decide +kernel) rfl rfl rfl (fun w2 b2 => d_neq2 pair37 rfl rfl) rfl ?_   -- 114 (Op.binOp BinOp.neq 37 t108 t113 37)
          refine T_P 16 rfl (by decide +kernel) (fun w2 => d_pick (r := .bool _) rfl rfl) ?_   -- 115 (Op.pick t105 ((true)) t114)
          refine T_end (by decide +kernel) ?_
          refine W_false (congrArg Value.bool (next_same (by omega) hn3)) ?_
          refine W_skip ?_
          refine W_region ?_   -- region 27
          refine L_op (d_add' (has_i64 (by omega) (by omega)) rfl rfl) ?_   -- 116 (Op.binOp BinOp.add 3 t48 ((1)) 3)
          refine L_op (d_move (v := .int .i64 _) rfl) ?_   -- 48 (Op.move t116)
          refine L_nil ?_
          refine ⟨(i + 1, A7, c7, I, l), ⟨rfl, rfl, rfl, rfl, rfl, rfl, rfl, rfl, trivial⟩, ⟨?_, by dsimp only; omega, hv⟩, by dsimp only; omega⟩
          exact (((((h.front (i := 7) rfl).dropAt (i := 1) rfl).dropAt (i := 1) rfl).dropAt (i := 1) rfl).dropAt (i := 2) rfl).dropAt (i := 3) rfl
        · -- c59 no
          refine W_seq ?_
          refine W_region ?_   -- region 20
          refine L_op (d_move (v := .pointer _) rfl) ?_   -- 84 (Op.move t7)
          refine L_op (d_fieldAddrB fa35_1 rfl) ?_   -- 85 (Op.fieldAddr 35 t11 1)
          refine L_op (d_loadB sc33 (v := .slice _ _ _) rfl (by first | exact (h).cell (i := 0) rfl rfl | exact (h).cell (i := 1) rfl rfl | exact (h).cell (i := 2) rfl rfl | exact (h).cell (i := 3) rfl rfl | exact (h).cell (i := 4) rfl rfl | exact (h).cell (i := 5) rfl rfl | exact (h).cell (i := 6) rfl rfl | exact (h).cell (i := 7) rfl rfl | exact (h).cell (i := 8) rfl rfl)) ?_   -- 86 (Op.load 33 t85)
          replace h := h.front (i := 3) rfl
          --- 87 (Op.call {(Callee.value (Operand.func 13)), [t84, t86], [25, 33]})
          refine L_callB fn13 rfl (data_calls h hrb hcb (by omega) (by omega) (by omega) (by omega)) ?_
          rintro _ w ⟨rfl, h⟩
          --- 17 (Op.alloc 37)
          refine L_allocB h [.int .i64 0, .int .i64 0] zi37 rfl (fun g17 w h b => ?_)
          --- None (Op.store 37 t17 t87)
          first
            | refine L_storeBlk h (i := 0) (vs := [.int .i64 _, .int .i64 _]) rfl sz37 rfl rfl (by simp [Value.oneCell']) rfl (fun w h => ?_)
            | refine L_storeBlk h (i := 1) (vs := [.int .i64 _, .int .i64 _]) rfl sz37 rfl rfl (by simp [Value.oneCell']) rfl (fun w h => ?_)
            | refine L_storeBlk h (i := 2) (vs := [.int .i64 _, .int .i64 _]) rfl sz37 rfl rfl (by simp [Value.oneCell']) rfl (fun w h => ?_)
            | refine L_storeBlk h (i := 3) (vs := [.int .i64 _, .int .i64 _]) rfl sz37 rfl rfl (by simp [Value.oneCell']) rfl (fun w h => ?_)
            | refine L_storeBlk h (i := 4) (vs := [.int .i64 _, .int .i64 _]) rfl sz37 rfl rfl (by simp [Value.oneCell']) rfl (fun w h => ?_)
            | refine L_storeBlk h (i := 5) (vs := [.int .i64 _, .int .i64 _]) rfl sz37 rfl rfl (by simp [Value.oneCell']) rfl (fun w h => ?_)
            | refine L_storeBlk h (i := 6) (vs := [.int .i64 _, .int .i64 _]) rfl sz37 rfl rfl (by simp [Value.oneCell']) rfl (fun w h => ?_)
            | refine L_storeBlk h (i := 7) (vs := [.int .i64 _, .int .i64 _]) rfl sz37 rfl rfl (by simp [Value.oneCell']) rfl (fun w h => ?_)
          refine L_nil ?_
          refine W_seq ?_
          refine W_region ?_   -- region 21
          refine L_op (by first | exact d_loadBlk ag31 (h) (i := 0) rfl rfl rfl | exact d_loadBlk ag31 (h) (i := 1) rfl rfl rfl | exact d_loadBlk ag31 (h) (i := 2) rfl rfl rfl | exact d_loadBlk ag31 (h) (i := 3) rfl rfl rfl | exact d_loadBlk ag31 (h) (i := 4) rfl rfl rfl | exact d_loadBlk ag31 (h) (i := 5) rfl rfl rfl | exact d_loadBlk ag31 (h) (i := 6) rfl rfl rfl | exact d_loadBlk ag31 (h) (i := 7) rfl rfl rfl | exact d_loadBlk ag31 (h) (i := 8) rfl rfl rfl) ?_   -- 89 (Op.load 31 t9)
          refine L_op (d_fieldAddrB fa35_1 rfl) ?_   -- 90 (Op.fieldAddr 35 t11 1)
          refine L_op (d_loadB sc33 (v := .slice _ _ _) rfl (by first | exact (h).cell (i := 0) rfl rfl | exact (h).cell (i := 1) rfl rfl | exact (h).cell (i := 2) rfl rfl | exact (h).cell (i := 3) rfl rfl | exact (h).cell (i := 4) rfl rfl | exact (h).cell (i := 5) rfl rfl | exact (h).cell (i := 6) rfl rfl | exact (h).cell (i := 7) rfl rfl | exact (h).cell (i := 8) rfl rfl)) ?_   -- 91 (Op.load 33 t90)
          replace h := h.front (i := 4) rfl
          --- 92 (Op.call {(Callee.value (Operand.func 14)), [t89, t91], [31, 33]})
          refine L_callB fn14 rfl (rdata_calls h hrb (by omega) (by omega)) ?_
          rintro _ w ⟨A7, c7, rfl, h⟩
          clear hv1
          generalize (List.foldl (putB size) (ini, lst) o.2).1 = I at h hv2 ⊢
          generalize (List.foldl (putB size) (ini, lst) o.2).2 = l at h hv2 ⊢
          replace hv := hv2
          refine L_op (d_move (v := .tuple _) rfl) ?_   -- 88 (Op.move t92)
          refine L_op (d_extract (v := .agg _) rfl rfl) ?_   -- 93 (Op.extract t88 0)
          refine L_op (d_extract (v := .agg _) rfl rfl) ?_   -- 94 (Op.extract t88 1)
          --- 18 (Op.alloc 31)
          refine L_allocB h [.int .i64 0, .slice none 0 0] zi31 rfl (fun g18 w h b => ?_)
          --- 19 (Op.alloc 37)
          refine L_allocB h [.int .i64 0, .int .i64 0] zi37 rfl (fun g19 w h b => ?_)
          --- None (Op.store 31 t18 t93)
          first
            | refine L_storeBlk h (i := 0) (vs := [.int .i64 _, .slice _ _ _]) rfl sz31 rfl rfl (by simp [Value.oneCell']) rfl (fun w h => ?_)
            | refine L_storeBlk h (i := 1) (vs := [.int .i64 _, .slice _ _ _]) rfl sz31 rfl rfl (by simp [Value.oneCell']) rfl (fun w h => ?_)
            | refine L_storeBlk h (i := 2) (vs := [.int .i64 _, .slice _ _ _]) rfl sz31 rfl rfl (by simp [Value.oneCell']) rfl (fun w h => ?_)
            | refine L_storeBlk h (i := 3) (vs := [.int .i64 _, .slice _ _ _]) rfl sz31 rfl rfl (by simp [Value.oneCell']) rfl (fun w h => ?_)
            | refine L_storeBlk h (i := 4) (vs := [.int .i64 _, .slice _ _ _]) rfl sz31 rfl rfl (by simp [Value.oneCell']) rfl (fun w h => ?_)
            | refine L_storeBlk h (i := 5) (vs := [.int .i64 _, .slice _ _ _]) rfl sz31 rfl rfl (by simp [Value.oneCell']) rfl (fun w h => ?_)
            | refine L_storeBlk h (i := 6) (vs := [.int .i64 _, .slice _ _ _]) rfl sz31 rfl rfl (by simp [Value.oneCell']) rfl (fun w h => ?_)
            | refine L_storeBlk h (i := 7) (vs := [.int .i64 _, .slice _ _ _]) rfl sz31 rfl rfl (by simp [Value.oneCell']) rfl (fun w h => ?_)
          --- None (Op.store 37 t19 t94)
          first
            | refine L_storeBlk h (i := 0) (vs := [.int .i64 _, .int .i64 _]) rfl sz37 rfl rfl (by simp [Value.oneCell']) rfl (fun w h => ?_)
            | refine L_storeBlk h (i := 1) (vs := [.int .i64 _, .int .i64 _]) rfl sz37 rfl rfl (by simp [Value.oneCell']) rfl (fun w h => ?_)
            | refine L_storeBlk h (i := 2) (vs := [.int .i64 _, .int .i64 _]) rfl sz37 rfl rfl (by simp [Value.oneCell']) rfl (fun w h => ?_)
            | refine L_storeBlk h (i := 3) (vs := [.int .i64 _, .int .i64 _]) rfl sz37 rfl rfl (by simp [Value.oneCell']) rfl (fun w h => ?_)
            | refine L_storeBlk h (i := 4) (vs := [.int .i64 _, .int .i64 _]) rfl sz37 rfl rfl (by simp [Value.oneCell']) rfl (fun w h => ?_)
            | refine L_storeBlk h (i := 5) (vs := [.int .i64 _, .int .i64 _]) rfl sz37 rfl rfl (by simp [Value.oneCell']) rfl (fun w h => ?_)
            | refine L_storeBlk h (i := 6) (vs := [.int .i64 _, .int .i64 _]) rfl sz37 rfl rfl (by simp [Value.oneCell']) rfl (fun w h => ?_)
            | refine L_storeBlk h (i := 7) (vs := [.int .i64 _, .int .i64 _]) rfl sz37 rfl rfl (by simp [Value.oneCell']) rfl (fun w h => ?_)
          refine L_nil ?_
          refine W_seq ?_
          refine W_region ?_   -- region 22
          refine L_op (by first | exact d_loadBlk ag31 (h) (i := 0) rfl rfl rfl | exact d_loadBlk ag31 (h) (i := 1) rfl rfl rfl | exact d_loadBlk ag31 (h) (i := 2) rfl rfl rfl | exact d_loadBlk ag31 (h) (i := 3) rfl rfl rfl | exact d_loadBlk ag31 (h) (i := 4) rfl rfl rfl | exact d_loadBlk ag31 (h) (i := 5) rfl rfl rfl | exact d_loadBlk ag31 (h) (i := 6) rfl rfl rfl | exact d_loadBlk ag31 (h) (i := 7) rfl rfl rfl | exact d_loadBlk ag31 (h) (i := 8) rfl rfl rfl) ?_   -- 95 (Op.load 31 t18)
          --- None (Op.store 31 t9 t95)
          first
            | refine L_storeBlk h (i := 0) (vs := [.int .i64 _, .slice _ _ _]) rfl sz31 rfl rfl (by simp [Value.oneCell']) rfl (fun w h => ?_)
            | refine L_storeBlk h (i := 1) (vs := [.int .i64 _, .slice _ _ _]) rfl sz31 rfl rfl (by simp [Value.oneCell']) rfl (fun w h => ?_)
            | refine L_storeBlk h (i := 2) (vs := [.int .i64 _, .slice _ _ _]) rfl sz31 rfl rfl (by simp [Value.oneCell']) rfl (fun w h => ?_)
            | refine L_storeBlk h (i := 3) (vs := [.int .i64 _, .slice _ _ _]) rfl sz31 rfl rfl (by simp [Value.oneCell']) rfl (fun w h => ?_)
            | refine L_storeBlk h (i := 4) (vs := [.int .i64 _, .slice _ _ _]) rfl sz31 rfl rfl (by simp [Value.oneCell']) rfl (fun w h => ?_)
            | refine L_storeBlk h (i := 5) (vs := [.int .i64 _, .slice _ _ _]) rfl sz31 rfl rfl (by simp [Value.oneCell']) rfl (fun w h => ?_)
            | refine L_storeBlk h (i := 6) (vs := [.int .i64 _, .slice _ _ _]) rfl sz31 rfl rfl (by simp [Value.oneCell']) rfl (fun w h => ?_)
            | refine L_storeBlk h (i := 7) (vs := [.int .i64 _, .slice _ _ _]) rfl sz31 rfl rfl (by simp [Value.oneCell']) rfl (fun w h => ?_)
          refine L_nil ?_
          refine W_seq ?_
          refine W_region ?_   -- region 23
          refine L_op (by first | exact d_loadBlk ag37 (h) (i := 0) rfl rfl rfl | exact d_loadBlk ag37 (h) (i := 1) rfl rfl rfl | exact d_loadBlk ag37 (h) (i := 2) rfl rfl rfl | exact d_loadBlk ag37 (h) (i := 3) rfl rfl rfl | exact d_loadBlk ag37 (h) (i := 4) rfl rfl rfl | exact d_loadBlk ag37 (h) (i := 5) rfl rfl rfl | exact d_loadBlk ag37 (h) (i := 6) rfl rfl rfl | exact d_loadBlk ag37 (h) (i := 7) rfl rfl rfl | exact d_loadBlk ag37 (h) (i := 8) rfl rfl rfl) ?_   -- 96 (Op.load 37 t17)
          refine L_op (by first | exact d_loadBlk ag37 (h) (i := 0) rfl rfl rfl | exact d_loadBlk ag37 (h) (i := 1) rfl rfl rfl | exact d_loadBlk ag37 (h) (i := 2) rfl rfl rfl | exact d_loadBlk ag37 (h) (i := 3) rfl rfl rfl | exact d_loadBlk ag37 (h) (i := 4) rfl rfl rfl | exact d_loadBlk ag37 (h) (i := 5) rfl rfl rfl | exact d_loadBlk ag37 (h) (i := 6) rfl rfl rfl | exact d_loadBlk ag37 (h) (i := 7) rfl rfl rfl | exact d_loadBlk ag37 (h) (i := 8) rfl rfl rfl) ?_   -- 97 (Op.load 37 t19)
          refine L_op (d_neq2 pair37 rfl rfl) ?_   -- 98 (Op.binOp BinOp.neq 37 t96 t97 37)
          refine L_nil ?_
          refine W_false (congrArg Value.bool place_same) ?_
          refine W_skip ?_
          refine W_seq ?_
          refine W_draw [.P, .G, .P, .S, .H, .P, .P, .S, .S, .G, .S, .S, .S, .G, .H, .S, .P] [[], [0], [], [2], [0, 1, 2, 3], [0, 1, 2, 3, 4], [0, 1, 2, 3, 4, 5], [0, 1, 2, 3, 4, 5, 6], [0, 1, 2, 3, 4, 5, 6], [0, 1, 2, 3, 4, 5, 6, 7, 8], [0, 1, 2, 3, 4, 5, 6], [0, 1, 2, 3, 4, 5, 6], [0, 1, 2, 3, 4, 5, 6], [0, 1, 2, 3, 4, 5, 6, 7, 8, 9, 11, 12], [0, 1, 2, 3, 4, 5, 6, 7, 8, 9, 10, 11, 12, 13], [0, 1, 2, 3, 4, 5, 6, 7, 8, 9, 10, 11, 12, 13, 14], [0, 1, 2, 3, 4, 5, 6, 7, 8, 9, 10, 11, 12, 13, 14, 15]] mixed (by decide +kernel) (fun w b => ?_)   -- region 25
          replace h := h.keep b
          refine T_P 0 rfl (by decide +kernel) (fun w2 => d_move (v := .pointer _) rfl) ?_   -- 99 (Op.move t7)
          refine T_P 2 rfl (by decide +kernel) (fun w2 => d_fieldAddrB fa31_1 rfl) ?_   -- 101 (Op.fieldAddr 31 t9 1)
          refine T_S 3 rfl (by decide +kernel) (fun w2 b2 => d_loadB sc29 (v := .slice _ _ _) rfl (by first | exact (h.keep b2).cell (i := 0) rfl rfl | exact (h.keep b2).cell (i := 1) rfl rfl | exact (h.keep b2).cell (i := 2) rfl rfl | exact (h.keep b2).cell (i := 3) rfl rfl | exact (h.keep b2).cell (i := 4) rfl rfl | exact (h.keep b2).cell (i := 5) rfl rfl | exact (h.keep b2).cell (i := 6) rfl rfl | exact (h.keep b2).cell (i := 7) rfl rfl | exact (h.keep b2).cell (i := 8) rfl rfl)) ?_   -- 102 (Op.load 29 t101)
          have hn1 := hv.n
          have hn2 := hv.l
          have hn3 := hv.s
          have hal := hv.all
          have hle := hv.len
          obtain ⟨Aw, cw, hbw, hrw⟩ := wr_rd h (i := 4) rfl
          refine T_G 1 (by decide +kernel) rfl ?_
          --- 100 (Op.call {(Callee.value (Operand.func 16)), [t99], [25]})
          refine L_callB fn16 rfl (row_calls hbw hrw (by omega) (fun xs hx => by have := hal xs hx; omega)) ?_
          rintro v100 w1 hm
          have b := hm.below
          replace h := h.take hm
          obtain ⟨vs100, hvs100, ho⟩ := rows_open h
          obtain ⟨A100, c100, rfl, _⟩ := (ho.rowAt (i := 0) rfl).slice
          have hr100 := rows_rd hvs100 ho
          clear ho
          rw [hvs100] at h ⊢
          refine L_nil ⟨b, ?_⟩
          refine T_H 4 (by decide +kernel) rfl ?_
          --- 103 (Op.call {(Callee.value (Operand.func 15)), [t100, t102], [29, 29]})
          refine L_callB fn15 rfl (rows_calls hr100 (ro_rd (i := 3) h rfl) (by omega) (fun xs hx => by have := hal xs hx; omega)) ?_
          rintro _ w ⟨rfl, b⟩
          replace h := h.keep b
          refine L_nil ?_
          refine T_P 5 rfl (by decide +kernel) (fun w2 => d_not rfl) ?_   -- 104 (Op.unOp UnOp.not 4 t103)
          refine T_P 6 rfl (by decide +kernel) (fun w2 => d_move (v := .bool _) rfl) ?_   -- 105 (Op.move t104)
          refine T_know (dj := 105) (b := false) rfl (by simp) ?_
          refine T_on 7 rfl (by decide +kernel) rfl rfl rfl (fun w2 b2 => d_move (v := .pointer _) rfl) rfl ?_   -- 106 (Op.move t7)
          refine T_on 8 rfl (by decide +kernel) rfl rfl rfl (fun w2 b2 => d_move (v := .int .i64 _) rfl) rfl ?_   -- 107 (Op.move t2)
          refine T_on 10 rfl (by decide +kernel) rfl rfl rfl (fun w2 b2 => by first | exact d_loadBlk ag31 (h.keep b2) (i := 0) rfl rfl rfl | exact d_loadBlk ag31 (h.keep b2) (i := 1) rfl rfl rfl | exact d_loadBlk ag31 (h.keep b2) (i := 2) rfl rfl rfl | exact d_loadBlk ag31 (h.keep b2) (i := 3) rfl rfl rfl | exact d_loadBlk ag31 (h.keep b2) (i := 4) rfl rfl rfl | exact d_loadBlk ag31 (h.keep b2) (i := 5) rfl rfl rfl | exact d_loadBlk ag31 (h.keep b2) (i := 6) rfl rfl rfl | exact d_loadBlk ag31 (h.keep b2) (i := 7) rfl rfl rfl | exact d_loadBlk ag31 (h.keep b2) (i := 8) rfl rfl rfl) rfl ?_   -- 109 (Op.load 31 t9)
          refine T_on 11 rfl (by decide +kernel) rfl rfl rfl (fun w2 b2 => d_move (v := .int .i64 _) rfl) rfl ?_   -- 110 (Op.move t2)
          refine T_on 12 rfl (by decide +kernel) rfl rfl rfl (fun w2 b2 => d_move (v := .int .i64 _) rfl) rfl ?_   -- 111 (Op.move t0)
          obtain ⟨gr8, c8, A8, k8, hb8, hv8, hk8⟩ := wr_reads h (i := 5) rfl
          refine T_G 9 (by decide +kernel) rfl ?_
          refine L_on rfl rfl rfl ?_
          --- 108 (Op.call {(Callee.value (Operand.func 17)), [t106, t107], [25, 3]})
          refine L_callB fn17 rfl (next_calls hb8 hv8 (by omega) (by omega) (by omega) (by omega) n) ?_
          rintro _ w ⟨rfl, b⟩
          replace h := h.keep b
          refine L_nil ⟨b, ?_⟩
          refine T_G 13 (by decide +kernel) rfl ?_
          refine L_on rfl rfl rfl ?_
          --- 112 (Op.call {(Callee.value (Operand.func 19)), [t110, ((1)), t111], [3, 3, 3]})
          refine L_callB fn19 rfl (held01_calls _ _ _ _ (by omega)) ?_
          rintro _ w ⟨rfl, b⟩
          replace h := h.keep b
          refine L_nil ⟨b, ?_⟩
          refine T_H 14 (by decide +kernel) rfl ?_
          refine L_on rfl rfl rfl ?_
          --- 113 (Op.call {(Callee.value (Operand.func 18)), [t109, t112], [31, 3]})
          refine L_callB fn18 rfl (rnext_calls (ro_rd (i := 3) h rfl) (by omega) (by omega) (by omega)) ?_
          rintro _ w ⟨rfl, b⟩
          replace h := h.keep b
          refine L_nil ?_
          refine T_on 15 rfl (by decide +kernel) rfl rfl rfl (fun w2 b2 => d_neq2 pair37 rfl rfl) rfl ?_   -- 114 (Op.binOp BinOp.neq 37 t108 t113 37)
          refine T_P 16 rfl (by decide +kernel) (fun w2 => d_pick (r := .bool _) rfl rfl) ?_   -- 115 (Op.pick t105 ((true)) t114)
          refine T_end (by decide +kernel) ?_
          refine W_false (congrArg Value.bool (next_same (by omega) hn3)) ?_
          refine W_skip ?_
          refine W_region ?_   -- region 27
          refine L_op (d_add' (has_i64 (by omega) (by omega)) rfl rfl) ?_   -- 116 (Op.binOp BinOp.add 3 t48 ((1)) 3)
          refine L_op (d_move (v := .int .i64 _) rfl) ?_   -- 48 (Op.move t116)
          refine L_nil ?_
          refine ⟨(i + 1, A7, c7, I, l), ⟨rfl, rfl, rfl, rfl, rfl, rfl, rfl, rfl, trivial⟩, ⟨?_, by dsimp only; omega, hv⟩, by dsimp only; omega⟩
          exact (((((h.front (i := 7) rfl).dropAt (i := 1) rfl).dropAt (i := 1) rfl).dropAt (i := 1) rfl).dropAt (i := 2) rfl).dropAt (i := 3) rfl
    · -- c49 no
      refine W_exit (X_here ?_)
      refine W_seq ?_
      refine W_region ?_   -- region 28
      refine L_op (d_move (v := .int .i64 _) rfl) ?_   -- 117 (Op.move t8)
      refine L_op (d_eql rfl rfl) ?_   -- 118 (Op.binOp BinOp.eql 26 t117 ((0)) 26)
      refine L_op (d_assign (v := .bool _) rfl) ?_   -- 6 (Op.assign t118)
      refine L_nil ?_
      refine W_ret (Ret1 (v1 := .bool _) rfl rfl ?_)
      exact ⟨rfl, h.below⟩
end Go.Proofs.Ytbhjdbkdnandfaa.Sp
