/- Walks of the functions 20,15,19,21, printed by wip/fw/walk.py out of sp3.py. -/
import Derived.Test.YtbhjdbkdnandfaaSp4
namespace Go.Proofs.Ytbhjdbkdnandfaa.Sp
open Go Go.RowKit Go.Fw Go.Fw.Asn Go.Proofs
set_option linter.unusedVariables false
set_option maxRecDepth 100000 in
theorem same_calls {w : World} {A B : Option Addr} {ca cb : Nat} {xs ys : List Int} (ha : Rd w A (bys xs)) (hb : Rd w B (bys ys)) (hl : xs.length ≤ 4611686018427387904) :
    Runs Try.prog 20 [.slice A xs.length ca, .slice B ys.length cb] w (fun v w' => v = .bool (decide (xs = ys)) ∧ Below w.heap.size w w') := by
  have h := St.start w
  refine Runs_of (N := 26) Try.func20 rfl rfl (by simp) ?_
  refine W_seq ?_
  refine W_region ?_   -- region 0
  refine L_op (d_assign (v := .bool _) rfl) ?_   -- 4 (Op.assign ((false)))
  refine L_nil ?_
  refine W_seq ?_   -- join1: live (0, a), (1, b)
  refine W_seq ?_
  refine W_region ?_   -- region 1
  refine L_op (d_move (v := .slice _ _ _) rfl) ?_   -- 6 (Op.move t0)
  refine L_op (d_lenB sl33 rfl) ?_   -- 7 (Op.call {(Callee.builtin Builtin.len), [t6], [33]})
  refine L_op (d_move (v := .slice _ _ _) rfl) ?_   -- 8 (Op.move t1)
  refine L_op (d_lenB sl33 rfl) ?_   -- 9 (Op.call {(Callee.builtin Builtin.len), [t8], [33]})
  refine L_op (d_neq rfl rfl) ?_   -- 10 (Op.binOp BinOp.neq 3 t7 t9 3)
  refine L_nil ?_
  refine W_if rfl (fun c10 => ?_) (fun c10 => ?_)
  · -- c10 yes
    refine W_seq ?_
    refine W_region ?_   -- region 2
    refine L_op (d_assign (v := .bool _) rfl) ?_   -- 4 (Op.assign ((false)))
    refine L_nil ?_
    refine W_ret (Ret1 (v1 := .bool _) rfl rfl ?_)
    refine ⟨?_, h.below⟩
    rw [decide_eq_false (fun e => c10 (by rw [e]))]
  · -- c10 no
    refine W_skip ?_
    refine W_seq ?_   -- join2: live 
    refine W_seq ?_
    refine W_region ?_   -- region 3
    refine L_op (d_assign (v := .int .i64 _) rfl) ?_   -- 5 (Op.assign ((0)))
    refine L_nil ?_
    refine W_block ?_   -- block 0
    have hxy : xs.length = ys.length := by omega
    refine W_while (σ := Nat) 0 (fun i => [(0, .slice A xs.length ca), (1, .slice B ys.length cb), (5, .int .i64 i)]) (fun i w1 => St w (fun k => k < w.heap.size) [] w1 ∧ i ≤ xs.length ∧ xs.take i = ys.take i) (fun i => xs.length - i) ⟨rfl, rfl, rfl, trivial⟩ ⟨h, Nat.zero_le _, rfl⟩ ?_
    rintro i w1 b_ ⟨h, hi, ht⟩
    refine W_seq ?_   -- join3: live (0, a), (1, b), (5, i)
    refine W_seq ?_
    refine W_region ?_   -- region 4
    refine L_op (d_move (v := .int .i64 _) rfl) ?_   -- 11 (Op.move t5)
    refine L_op (d_move (v := .slice _ _ _) rfl) ?_   -- 12 (Op.move t0)
    refine L_op (d_lenB sl33 rfl) ?_   -- 13 (Op.call {(Callee.builtin Builtin.len), [t12], [33]})
    refine L_op (d_lss rfl rfl) ?_   -- 14 (Op.binOp BinOp.lss 3 t11 t13 3)
    refine L_nil ?_
    refine W_if rfl (fun c14 => ?_) (fun c14 => ?_)
    · -- c14 yes
      have hi1 : i < xs.length := by omega
      have hi2 : i < ys.length := by omega
      obtain ⟨a, rfl⟩ := ha.addr (by rw [bys_length]; omega)
      obtain ⟨a2, rfl⟩ := hb.addr (by rw [bys_length]; omega)
      have hca := ha.cell (ints_get (List.getElem?_eq_getElem hi1))
      have hcb := hb.cell (ints_get (List.getElem?_eq_getElem hi2))
      refine W_skip ?_
      refine W_seq ?_   -- join4: live (0, a), (1, b), (5, i)
      refine W_block ?_   -- block 1
      refine W_seq ?_
      refine W_draw [.P, .P, .P, .S, .P, .P, .P, .S, .P] [[], [], [0, 1], [0, 1, 2], [], [], [4, 5], [4, 5, 6], [0, 1, 2, 3, 4, 5, 6, 7]] mixed (by decide +kernel) (fun w b => ?_)   -- region 6
      replace h := h.keep b
      refine T_P 0 rfl (by decide +kernel) (fun w2 => d_move (v := .slice _ _ _) rfl) ?_   -- 17 (Op.move t0)
      refine T_P 1 rfl (by decide +kernel) (fun w2 => d_move (v := .int .i64 _) rfl) ?_   -- 18 (Op.move t5)
      refine T_P 2 rfl (by decide +kernel) (fun w2 => d_ix1 (m := i) sl33 rfl rfl rfl (by omega)) ?_   -- 19 (Op.indexAddr 33 t17 t18)
      refine T_S 3 rfl (by decide +kernel) (fun w2 b2 => d_loadB sc5 (v := .int .u8 _) rfl (cell_keep hca (h.keep b2).below)) ?_   -- 20 (Op.load 5 t19)
      refine T_P 4 rfl (by decide +kernel) (fun w2 => d_move (v := .slice _ _ _) rfl) ?_   -- 21 (Op.move t1)
      refine T_P 5 rfl (by decide +kernel) (fun w2 => d_move (v := .int .i64 _) rfl) ?_   -- 22 (Op.move t5)
      refine T_P 6 rfl (by decide +kernel) (fun w2 => d_ix1 (m := i) sl33 rfl rfl rfl (by omega)) ?_   -- 23 (Op.indexAddr 33 t21 t22)
      refine T_S 7 rfl (by decide +kernel) (fun w2 b2 => d_loadB sc5 (v := .int .u8 _) rfl (cell_keep hcb (h.keep b2).below)) ?_   -- 24 (Op.load 5 t23)
      refine T_P 8 rfl (by decide +kernel) (fun w2 => d_neq rfl rfl) ?_   -- 25 (Op.binOp BinOp.neq 5 t20 t24 5)
      refine T_end (by decide +kernel) ?_
      refine W_if rfl (fun c25 => ?_) (fun c25 => ?_)
      · -- c25 yes
        refine W_seq ?_
        refine W_region ?_   -- region 7
        refine L_op (d_assign (v := .bool _) rfl) ?_   -- 4 (Op.assign ((false)))
        refine L_nil ?_
        refine W_ret (Ret1 (v1 := .bool _) rfl rfl ?_)
        refine ⟨?_, h.below⟩
        rw [decide_eq_false (fun e => c25 (by subst e; rfl))]
      · -- c25 no
        refine W_skip ?_
        refine W_region ?_   -- region 5
        refine L_op (d_move (v := .int .i64 _) rfl) ?_   -- 15 (Op.move t5)
        refine L_op (d_add' (has_i64 (by omega) (by omega)) rfl rfl) ?_   -- 16 (Op.binOp BinOp.add 3 t15 ((1)) 3)
        refine L_op (d_assign (v := .int .i64 _) rfl) ?_   -- 5 (Op.assign t16)
        refine L_nil ?_
        have e : xs[i] = ys[i] := Decidable.not_not.1 c25
        refine ⟨i + 1, ⟨rfl, rfl, rfl, trivial⟩, ⟨h, by omega, ?_⟩, by omega⟩
        rw [← List.take_append_getElem hi1, ← List.take_append_getElem hi2, ht, e]
    · -- c14 no
      refine W_exit (X_here ?_)
      refine W_seq ?_
      refine W_region ?_   -- region 8
      refine L_op (d_assign (v := .bool _) rfl) ?_   -- 4 (Op.assign ((true)))
      refine L_nil ?_
      refine W_ret (Ret1 (v1 := .bool _) rfl rfl ?_)
      refine ⟨?_, h.below⟩
      obtain rfl : i = xs.length := by omega
      rw [List.take_length, List.take_of_length_le (by omega)] at ht
      rw [decide_eq_true ht]

set_option maxRecDepth 100000 in
theorem rows_calls {w : World} {A B : Option Addr} {ca cb : Nat} {xs ys : List (List Int)} (ha : RowsRd w A xs) (hb : RowsRd w B ys) (hl : xs.length ≤ 4611686018427387904) (hx : ∀ x ∈ xs, x.length ≤ 4611686018427387904) :
    Runs Try.prog 15 [.slice A xs.length ca, .slice B ys.length cb] w (fun v w' => v = .bool (decide (xs = ys)) ∧ Below w.heap.size w w') := by
  have h := St.start w
  refine Runs_of (N := 27) Try.func15 rfl rfl (by simp) ?_
  refine W_seq ?_
  refine W_region ?_   -- region 0
  refine L_op (d_assign (v := .bool _) rfl) ?_   -- 4 (Op.assign ((false)))
  refine L_nil ?_
  refine W_seq ?_   -- join1: live (0, a), (1, b)
  refine W_seq ?_
  refine W_region ?_   -- region 1
  refine L_op (d_move (v := .slice _ _ _) rfl) ?_   -- 6 (Op.move t0)
  refine L_op (d_lenB sl29 rfl) ?_   -- 7 (Op.call {(Callee.builtin Builtin.len), [t6], [29]})
  refine L_op (d_move (v := .slice _ _ _) rfl) ?_   -- 8 (Op.move t1)
  refine L_op (d_lenB sl29 rfl) ?_   -- 9 (Op.call {(Callee.builtin Builtin.len), [t8], [29]})
  refine L_op (d_neq rfl rfl) ?_   -- 10 (Op.binOp BinOp.neq 3 t7 t9 3)
  refine L_nil ?_
  refine W_if rfl (fun c10 => ?_) (fun c10 => ?_)
  · -- c10 yes
    refine W_seq ?_
    refine W_region ?_   -- region 2
    refine L_op (d_assign (v := .bool _) rfl) ?_   -- 4 (Op.assign ((false)))
    refine L_nil ?_
    refine W_ret (Ret1 (v1 := .bool _) rfl rfl ?_)
    refine ⟨?_, h.below⟩
    rw [decide_eq_false (fun e => c10 (by rw [e]))]
  · -- c10 no
    refine W_skip ?_
    refine W_seq ?_   -- join2: live 
    refine W_seq ?_
    refine W_region ?_   -- region 3
    refine L_op (d_assign (v := .int .i64 _) rfl) ?_   -- 5 (Op.assign ((0)))
    refine L_nil ?_
    refine W_block ?_   -- block 0
    have hxy : xs.length = ys.length := by omega
    refine W_while (σ := Nat) 0 (fun i => [(0, .slice A xs.length ca), (1, .slice B ys.length cb), (5, .int .i64 i)]) (fun i w1 => St w (fun k => k < w.heap.size) [] w1 ∧ i ≤ xs.length ∧ xs.take i = ys.take i) (fun i => xs.length - i) ⟨rfl, rfl, rfl, trivial⟩ ⟨h, Nat.zero_le _, rfl⟩ ?_
    rintro i w1 b_ ⟨h, hi, ht⟩
    refine W_seq ?_   -- join3: live (0, a), (1, b), (5, i)
    refine W_seq ?_
    refine W_region ?_   -- region 4
    refine L_op (d_move (v := .int .i64 _) rfl) ?_   -- 11 (Op.move t5)
    refine L_op (d_move (v := .slice _ _ _) rfl) ?_   -- 12 (Op.move t0)
    refine L_op (d_lenB sl29 rfl) ?_   -- 13 (Op.call {(Callee.builtin Builtin.len), [t12], [29]})
    refine L_op (d_lss rfl rfl) ?_   -- 14 (Op.binOp BinOp.lss 3 t11 t13 3)
    refine L_nil ?_
    refine W_if rfl (fun c14 => ?_) (fun c14 => ?_)
    · -- c14 yes
      have hi1 : i < xs.length := by omega
      have hi2 : i < ys.length := by omega
      obtain ⟨a, A1, c1, rfl, hca, hla, hra⟩ := ha i xs[i] (List.getElem?_eq_getElem hi1)
      obtain ⟨a2, A2, c2, rfl, hcb, hlb, hrb⟩ := hb i ys[i] (List.getElem?_eq_getElem hi2)
      refine W_skip ?_
      refine W_seq ?_   -- join4: live (0, a), (1, b), (5, i)
      refine W_block ?_   -- block 1
      refine W_seq ?_
      refine W_draw [.P, .P, .P, .S, .P, .P, .P, .S, .H, .P] [[], [], [0, 1], [0, 1, 2], [], [], [4, 5], [4, 5, 6], [0, 1, 2, 3, 4, 5, 6, 7], [0, 1, 2, 3, 4, 5, 6, 7, 8]] mixed (by decide +kernel) (fun w b => ?_)   -- region 6
      replace h := h.keep b
      refine T_P 0 rfl (by decide +kernel) (fun w2 => d_move (v := .slice _ _ _) rfl) ?_   -- 17 (Op.move t0)
      refine T_P 1 rfl (by decide +kernel) (fun w2 => d_move (v := .int .i64 _) rfl) ?_   -- 18 (Op.move t5)
      refine T_P 2 rfl (by decide +kernel) (fun w2 => d_ix1 (m := i) sl29 rfl rfl rfl (by omega)) ?_   -- 19 (Op.indexAddr 29 t17 t18)
      refine T_S 3 rfl (by decide +kernel) (fun w2 b2 => d_loadB sc33 (v := .slice _ _ _) rfl (cell_keep hca (h.keep b2).below)) ?_   -- 20 (Op.load 33 t19)
      refine T_P 4 rfl (by decide +kernel) (fun w2 => d_move (v := .slice _ _ _) rfl) ?_   -- 21 (Op.move t1)
      refine T_P 5 rfl (by decide +kernel) (fun w2 => d_move (v := .int .i64 _) rfl) ?_   -- 22 (Op.move t5)
      refine T_P 6 rfl (by decide +kernel) (fun w2 => d_ix1 (m := i) sl29 rfl rfl rfl (by omega)) ?_   -- 23 (Op.indexAddr 29 t21 t22)
      refine T_S 7 rfl (by decide +kernel) (fun w2 b2 => d_loadB sc33 (v := .slice _ _ _) rfl (cell_keep hcb (h.keep b2).below)) ?_   -- 24 (Op.load 33 t23)
      refine T_H 8 (by decide +kernel) rfl ?_
      --- 25 (Op.call {(Callee.value (Operand.func 20)), [t20, t24], [33, 33]})
      refine L_callB fn20 rfl (same_calls (hra.keep h.below) (hrb.keep h.below) (hx _ (List.getElem_mem hi1))) ?_
      rintro _ w ⟨rfl, b⟩
      replace h := h.keep b
      refine L_nil ?_
      refine T_P 9 rfl (by decide +kernel) (fun w2 => d_not rfl) ?_   -- 26 (Op.unOp UnOp.not 4 t25)
      refine T_end (by decide +kernel) ?_
      refine W_cond rfl (fun c26 => ?_) (fun c26 => ?_)
      · -- c26 yes
        refine W_seq ?_
        refine W_region ?_   -- region 7
        refine L_op (d_assign (v := .bool _) rfl) ?_   -- 4 (Op.assign ((false)))
        refine L_nil ?_
        refine W_ret (Ret1 (v1 := .bool _) rfl rfl ?_)
        refine ⟨?_, h.below⟩
        have hne : xs[i] ≠ ys[i] := by simpa using c26
        rw [decide_eq_false (fun e => hne (by subst e; rfl))]
      · -- c26 no
        refine W_skip ?_
        refine W_region ?_   -- region 5
        refine L_op (d_move (v := .int .i64 _) rfl) ?_   -- 15 (Op.move t5)
        refine L_op (d_add' (has_i64 (by omega) (by omega)) rfl rfl) ?_   -- 16 (Op.binOp BinOp.add 3 t15 ((1)) 3)
        refine L_op (d_assign (v := .int .i64 _) rfl) ?_   -- 5 (Op.assign t16)
        refine L_nil ?_
        have e : xs[i] = ys[i] := by simpa using c26
        refine ⟨i + 1, ⟨rfl, rfl, rfl, trivial⟩, ⟨h, by omega, ?_⟩, by omega⟩
        rw [← List.take_append_getElem hi1, ← List.take_append_getElem hi2, ht, e]
    · -- c14 no
      refine W_exit (X_here ?_)
      refine W_seq ?_
      refine W_region ?_   -- region 8
      refine L_op (d_assign (v := .bool _) rfl) ?_   -- 4 (Op.assign ((true)))
      refine L_nil ?_
      refine W_ret (Ret1 (v1 := .bool _) rfl rfl ?_)
      refine ⟨?_, h.below⟩
      obtain rfl : i = xs.length := by omega
      rw [List.take_length, List.take_of_length_le (by omega)] at ht
      rw [decide_eq_true ht]

set_option maxRecDepth 100000 in
theorem held01_calls (w : World) (n lo hi : Int) (hlh : lo ≤ hi) : Runs Try.prog 19 [.int .i64 n, .int .i64 lo, .int .i64 hi] w (fun v w' => v = .int .i64 (max lo (min n hi)) ∧ Below w.heap.size w w') := by
  have h := St.start w
  refine Runs_of (N := 16) Try.func19 rfl rfl (by simp) ?_
  refine W_seq ?_
  refine W_region ?_   -- region 0
  refine L_op (d_assign (v := .int .i64 _) rfl) ?_   -- 6 (Op.assign ((0)))
  refine L_nil ?_
  refine W_seq ?_   -- join1: live (0, n), (1, low)
  refine W_seq ?_
  refine W_region ?_   -- region 1
  refine L_op (d_move (v := .int .i64 _) rfl) ?_   -- 7 (Op.move t0)
  refine L_op (d_move (v := .int .i64 _) rfl) ?_   -- 8 (Op.move t2)
  refine L_op (d_gtr rfl rfl) ?_   -- 9 (Op.binOp BinOp.gtr 3 t7 t8 3)
  refine L_nil ?_
  refine W_if rfl (fun c9 => ?_) (fun c9 => ?_)
  · -- c9 yes
    refine W_region ?_   -- region 2
    refine L_op (d_move (v := .int .i64 _) rfl) ?_   -- 10 (Op.move t2)
    refine L_op (d_assign (v := .int .i64 _) rfl) ?_   -- 0 (Op.assign t10)
    refine L_nil ?_
    refine W_seq ?_   -- join2: live (0, n)
    refine W_seq ?_
    refine W_region ?_   -- region 3
    refine L_op (d_move (v := .int .i64 _) rfl) ?_   -- 11 (Op.move t0)
    refine L_op (d_move (v := .int .i64 _) rfl) ?_   -- 12 (Op.move t1)
    refine L_op (d_lss rfl rfl) ?_   -- 13 (Op.binOp BinOp.lss 3 t11 t12 3)
    refine L_nil ?_
    refine W_if rfl (fun c13 => ?_) (fun c13 => ?_)
    · -- c13 yes
      refine W_region ?_   -- region 4
      refine L_op (d_move (v := .int .i64 _) rfl) ?_   -- 14 (Op.move t1)
      refine L_op (d_assign (v := .int .i64 _) rfl) ?_   -- 0 (Op.assign t14)
      refine L_nil ?_
      refine W_seq ?_
      refine W_region ?_   -- region 5
      refine L_op (d_move (v := .int .i64 _) rfl) ?_   -- 15 (Op.move t0)
      refine L_op (d_assign (v := .int .i64 _) rfl) ?_   -- 6 (Op.assign t15)
      refine L_nil ?_
      refine W_ret (Ret1 (v1 := .int .i64 _) rfl rfl ?_)
      refine ⟨?_, h.below⟩
      congr 1
      omega
    · -- c13 no
      refine W_skip ?_
      refine W_seq ?_
      refine W_region ?_   -- region 5
      refine L_op (d_move (v := .int .i64 _) rfl) ?_   -- 15 (Op.move t0)
      refine L_op (d_assign (v := .int .i64 _) rfl) ?_   -- 6 (Op.assign t15)
      refine L_nil ?_
      refine W_ret (Ret1 (v1 := .int .i64 _) rfl rfl ?_)
      refine ⟨?_, h.below⟩
      congr 1
      omega
  · -- c9 no
    refine W_skip ?_
    refine W_seq ?_   -- join3: live (0, n)
    refine W_seq ?_
    refine W_region ?_   -- region 3
    refine L_op (d_move (v := .int .i64 _) rfl) ?_   -- 11 (Op.move t0)
    refine L_op (d_move (v := .int .i64 _) rfl) ?_   -- 12 (Op.move t1)
    refine L_op (d_lss rfl rfl) ?_   -- 13 (Op.binOp BinOp.lss 3 t11 t12 3)
    refine L_nil ?_
    refine W_if rfl (fun c13 => ?_) (fun c13 => ?_)
    · -- c13 yes
      refine W_region ?_   -- region 4
      refine L_op (d_move (v := .int .i64 _) rfl) ?_   -- 14 (Op.move t1)
      refine L_op (d_assign (v := .int .i64 _) rfl) ?_   -- 0 (Op.assign t14)
      refine L_nil ?_
      refine W_seq ?_
      refine W_region ?_   -- region 5
      refine L_op (d_move (v := .int .i64 _) rfl) ?_   -- 15 (Op.move t0)
      refine L_op (d_assign (v := .int .i64 _) rfl) ?_   -- 6 (Op.assign t15)
      refine L_nil ?_
      refine W_ret (Ret1 (v1 := .int .i64 _) rfl rfl ?_)
      refine ⟨?_, h.below⟩
      congr 1
      omega
    · -- c13 no
      refine W_skip ?_
      refine W_seq ?_
      refine W_region ?_   -- region 5
      refine L_op (d_move (v := .int .i64 _) rfl) ?_   -- 15 (Op.move t0)
      refine L_op (d_assign (v := .int .i64 _) rfl) ?_   -- 6 (Op.assign t15)
      refine L_nil ?_
      refine W_ret (Ret1 (v1 := .int .i64 _) rfl rfl ?_)
      refine ⟨?_, h.below⟩
      congr 1
      omega

set_option maxRecDepth 100000 in
theorem join_calls {W : World} {A : Option Addr} {c : Nat} {rows : List (List Int)} (hr : RowsRd W A rows) (hl : rows.length ≤ 4611686018427387904) (hx : rows.flatten.length ≤ 140737488355328) :
    Runs Try.prog 21 [.slice A rows.length c] W (fun v w' => Made (row 5 1 v rows.flatten.length (bys rows.flatten)) W w') := by
  have h := St.start W
  refine Runs_of (N := 19) Try.func21 rfl rfl (by simp) ?_
  refine W_seq ?_
  refine W_region ?_   -- region 0
  refine L_op (d_assign (v := .slice _ _ _) rfl) ?_   -- 2 (Op.assign ((Value.slice none 0 0)))
  refine L_nil ?_
  refine W_seq ?_
  refine W_region ?_   -- region 1
  --- 5 (Op.buildSlice 33 0 [])
  refine L_buildSlice h [] [] Try.underlying33 zs5 rfl rfl rfl rfl (by decide) (by decide) (fun g5 w h b => ?_)
  refine L_op (d_assign (v := .slice _ _ _) rfl) ?_   -- 3 (Op.assign t5)
  refine L_nil ?_
  refine W_seq ?_   -- join1: live (3, out)
  refine W_seq ?_
  refine W_region ?_   -- region 2
  refine L_op (d_assign (v := .int .i64 _) rfl) ?_   -- 4 (Op.assign ((0)))
  refine L_nil ?_
  refine W_block ?_   -- block 0
  refine W_while (σ := Nat × Option Addr × Nat) (0, _, 0) (fun s => [(0, .slice A rows.length c), (3, .slice s.2.1 (rows.take s.1).flatten.length s.2.2), (4, .int .i64 s.1)])
    (fun s w1 => St W (fun k => k < W.heap.size) [row 5 1 (.slice s.2.1 (rows.take s.1).flatten.length s.2.2) (rows.take s.1).flatten.length (bys (rows.take s.1).flatten)] w1 ∧ s.1 ≤ rows.length) (fun s => rows.length - s.1) ⟨rfl, rfl, rfl, trivial⟩ ⟨h, Nat.zero_le _⟩ ?_
  rintro ⟨i, A3, c3⟩ w1 b_ ⟨h, hi⟩
  dsimp only at h hi ⊢
  refine W_seq ?_   -- join2: live (0, parts), (3, out), (4, i)
  refine W_seq ?_
  refine W_region ?_   -- region 3
  refine L_op (d_move (v := .int .i64 _) rfl) ?_   -- 6 (Op.move t4)
  refine L_op (d_move (v := .slice _ _ _) rfl) ?_   -- 7 (Op.move t0)
  refine L_op (d_lenB sl29 rfl) ?_   -- 8 (Op.call {(Callee.builtin Builtin.len), [t7], [29]})
  refine L_op (d_lss rfl rfl) ?_   -- 9 (Op.binOp BinOp.lss 3 t6 t8 3)
  refine L_nil ?_
  refine W_if rfl (fun c9 => ?_) (fun c9 => ?_)
  · -- c9 yes
    have hi2 : i < rows.length := by omega
    obtain ⟨a, A2, c2, rfl, hcell, hle, hrd⟩ := hr.keep h.below i rows[i] (List.getElem?_eq_getElem hi2)
    have e2 : (rows.take (i + 1)).flatten = (rows.take i).flatten ++ rows[i] := by rw [← List.take_append_getElem hi2, List.flatten_append, List.flatten_singleton]
    have hfl : (rows.take i).flatten.length + rows[i].length = (rows.take (i + 1)).flatten.length := by rw [e2, List.length_append]
    have hfm : (rows.take (i + 1)).flatten.length ≤ rows.flatten.length := by
      conv => rhs; rw [← List.take_append_drop (i + 1) rows]
      rw [List.flatten_append, List.length_append]
      omega
    refine W_skip ?_
    refine W_seq ?_   -- join3: live (0, parts), (3, out), (4, i)
    refine W_block ?_   -- block 1
    refine W_region ?_   -- region 5
    refine L_op (d_move (v := .slice _ _ _) rfl) ?_   -- 12 (Op.move t3)
    refine L_op (d_move (v := .slice _ _ _) rfl) ?_   -- 13 (Op.move t0)
    refine L_op (d_move (v := .int .i64 _) rfl) ?_   -- 14 (Op.move t4)
    refine L_op (d_ix1 (m := i) sl29 rfl rfl rfl hi2) ?_   -- 15 (Op.indexAddr 29 t13 t14)
    refine L_op (d_loadB sc33 (v := .slice _ _ _) rfl (hcell)) ?_   -- 16 (Op.load 33 t15)
    --- 17 (Op.call {(Callee.builtin Builtin.append), [t12, t16], [33, 33]})
    refine L_appendRd h (i := 0) rfl Try.underlying33 info5 rfl (by decide) (by decide) rfl rfl (by simp [ints]) hrd (bys_one _) (by omega) (fun v17 w h => ?_)
    obtain ⟨A17, c17, rfl, _⟩ := (h.rowAt (i := 0) rfl).slice
    refine L_op (d_assign (v := .slice _ _ _) rfl) ?_   -- 3 (Op.assign t17)
    refine L_nil ?_
    refine W_region ?_   -- region 4
    refine L_op (d_move (v := .int .i64 _) rfl) ?_   -- 10 (Op.move t4)
    refine L_op (d_add' (has_i64 (by omega) (by omega)) rfl rfl) ?_   -- 11 (Op.binOp BinOp.add 3 t10 ((1)) 3)
    refine L_op (d_assign (v := .int .i64 _) rfl) ?_   -- 4 (Op.assign t11)
    refine L_nil ?_
    refine ⟨(i + 1, A17, c17), ⟨rfl, by dsimp only; rw [← hfl]; rfl, rfl, trivial⟩, ⟨?_, by dsimp only; omega⟩, by dsimp only; omega⟩
    dsimp only
    rw [e2, List.length_append, bys_append]
    exact h
  · -- c9 no
    refine W_exit (X_here ?_)
    refine W_seq ?_
    refine W_region ?_   -- region 6
    refine L_op (d_move (v := .slice _ _ _) rfl) ?_   -- 18 (Op.move t3)
    refine L_op (d_assign (v := .slice _ _ _) rfl) ?_   -- 2 (Op.assign t18)
    refine L_nil ?_
    refine W_ret (Ret1 (v1 := .slice _ _ _) rfl rfl ?_)
    obtain rfl : i = rows.length := by omega
    rw [List.take_length] at h ⊢
    exact h.made
end Go.Proofs.Ytbhjdbkdnandfaa.Sp
