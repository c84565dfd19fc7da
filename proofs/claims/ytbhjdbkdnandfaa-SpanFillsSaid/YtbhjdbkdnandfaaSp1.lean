/- Walks of the functions 33,28,25, printed by wip/fw/walk.py out of sp.py. -/
import Derived.Test.YtbhjdbkdnandfaaSp0
namespace Go.Proofs.Ytbhjdbkdnandfaa.Sp
open Go Go.RowKit Go.Fw Go.Fw.Asn Go.Proofs
set_option linter.unusedVariables false
set_option maxRecDepth 100000 in
theorem last_calls {w : World} {gp gr n c : Nat} {size : Int} (hb : w.heap[gp]? = some (.cells [.int .i64 size, .slice (some ⟨gr, 0, none⟩) n c].toArray 61 (0, 0))) (hn : 0 < n) (hm : n ≤ 140737488355328) :
    Runs Try.prog 33 [.pointer (some ⟨gp, 0, none⟩)] w (fun v w' => v = .pointer (some ⟨gr, n - 1, none⟩) ∧ Below w.heap.size w w') := by
  have h := St.start w
  have b0 := Below.refl w.heap.size w
  refine Runs_of (N := 14) Try.func33 rfl rfl (by simp) ?_
  refine W_seq ?_
  refine W_region ?_   -- region 0
  refine L_op (d_assign (v := .pointer _) rfl) ?_   -- 2 (Op.assign ((Value.pointer none)))
  refine L_nil ?_
  refine W_seq ?_
  refine W_draw [.P, .P, .P, .S, .P, .P, .P, .S, .P, .P, .P, .P] [[], [0], [0, 1], [0, 1, 2], [], [4], [4, 5], [4, 5, 6], [4, 5, 6, 7], [4, 5, 6, 7, 8], [0, 1, 2, 3, 4, 5, 6, 7, 8, 9], [0, 1, 2, 3, 4, 5, 6, 7, 8, 9, 10]] mixed (by decide +kernel) (fun w b => ?_)   -- region 1
  replace h := h.keep b
  refine T_P 0 rfl (by decide +kernel) (fun w2 => d_move (v := .pointer _) rfl) ?_   -- 3 (Op.move t0)
  refine T_P 1 rfl (by decide +kernel) (fun w2 => d_nilCheck rfl) ?_   -- 4 (Op.nilCheck t3)
  refine T_P 2 rfl (by decide +kernel) (fun w2 => d_fieldAddrB fa61_1 rfl) ?_   -- 5 (Op.fieldAddr 61 t4 1)
  refine T_S 3 rfl (by decide +kernel) (fun w2 b2 => d_loadB sc29 (v := .slice _ _ _) rfl (blk_cell (blk_keep hb (h.keep b2).below) rfl)) ?_   -- 6 (Op.load 29 t5)
  refine T_P 4 rfl (by decide +kernel) (fun w2 => d_move (v := .pointer _) rfl) ?_   -- 7 (Op.move t0)
  refine T_P 5 rfl (by decide +kernel) (fun w2 => d_nilCheck rfl) ?_   -- 8 (Op.nilCheck t7)
  refine T_P 6 rfl (by decide +kernel) (fun w2 => d_fieldAddrB fa61_1 rfl) ?_   -- 9 (Op.fieldAddr 61 t8 1)
  refine T_S 7 rfl (by decide +kernel) (fun w2 b2 => d_loadB sc29 (v := .slice _ _ _) rfl (blk_cell (blk_keep hb (h.keep b2).below) rfl)) ?_   -- 10 (Op.load 29 t9)
  refine T_P 8 rfl (by decide +kernel) (fun w2 => d_lenB sl29 rfl) ?_   -- 11 (Op.call {(Callee.builtin Builtin.len), [t10], [29]})
  refine T_P 9 rfl (by decide +kernel) (fun w2 => d_sub' (has_i64 (by omega) (by omega)) rfl rfl) ?_   -- 12 (Op.binOp BinOp.sub 3 t11 ((1)) 3)
  refine T_P 10 rfl (by decide +kernel) (fun w2 => d_ixOwn1 (m := n - 1) sl29 rfl rfl (by omega) (by omega)) ?_   -- 13 (Op.indexAddr 29 t6 t12)
  refine T_P 11 rfl (by decide +kernel) (fun w2 => d_assign (v := .pointer _) rfl) ?_   -- 2 (Op.assign t13)
  refine T_end (by decide +kernel) ?_
  refine W_ret (Ret1 (v1 := .pointer _) rfl rfl ?_)
  exact ⟨rfl, h.below⟩

set_option maxRecDepth 100000 in
theorem room_calls {w : World} {gp gr m c k k' : Nat} {size : Int} {A : Option Addr} (hb : w.heap[gp]? = some (.cells [.int .i64 size, .slice (some ⟨gr, 0, none⟩) (m + 1) c].toArray 61 (0, 0))) (hv : w.cell? ⟨gr, m, none⟩ = some (.slice A k k')) (hm : m ≤ 140737488355327) (hs0 : 0 ≤ size) (hs1 : size ≤ 140737488355328) (hk : k ≤ 140737488355328) :
    Runs Try.prog 28 [.pointer (some ⟨gp, 0, none⟩)] w (fun v w' => v = .int .i64 (size - k) ∧ Below w.heap.size w w') := by
  have h := St.start w
  refine Runs_of (N := 13) Try.func28 rfl rfl (by simp) ?_
  refine W_seq ?_
  refine W_region ?_   -- region 0
  refine L_op (d_assign (v := .int .i64 _) rfl) ?_   -- 2 (Op.assign ((0)))
  refine L_nil ?_
  refine W_seq ?_
  refine W_draw [.P, .P, .P, .S, .P, .G, .P, .S, .P, .P, .P] [[], [0], [0, 1], [0, 1, 2], [], [4], [4, 5], [4, 5, 6], [4, 5, 6, 7], [0, 1, 2, 3, 4, 5, 6, 7, 8], [0, 1, 2, 3, 4, 5, 6, 7, 8, 9]] mixed (by decide +kernel) (fun w b => ?_)   -- region 1
  replace h := h.keep b
  refine T_P 0 rfl (by decide +kernel) (fun w2 => d_move (v := .pointer _) rfl) ?_   -- 3 (Op.move t0)
  refine T_P 1 rfl (by decide +kernel) (fun w2 => d_nilCheck rfl) ?_   -- 4 (Op.nilCheck t3)
  refine T_P 2 rfl (by decide +kernel) (fun w2 => d_fieldAddrB fa61_0 rfl) ?_   -- 5 (Op.fieldAddr 61 t4 0)
  refine T_S 3 rfl (by decide +kernel) (fun w2 b2 => d_loadB sc3 (v := .int .i64 _) rfl (blk_cell (blk_keep hb (h.keep b2).below) rfl)) ?_   -- 6 (Op.load 3 t5)
  refine T_P 4 rfl (by decide +kernel) (fun w2 => d_move (v := .pointer _) rfl) ?_   -- 7 (Op.move t0)
  refine T_G 5 (by decide +kernel) rfl ?_
  --- 8 (Op.call {(Callee.value (Operand.func 33)), [t7], [25]})
  refine L_callB fn33 rfl (last_calls (blk_keep hb h.below) (by omega) (by omega)) ?_
  rintro _ w ⟨rfl, b⟩
  replace h := h.keep b
  refine L_nil ⟨b, ?_⟩
  refine T_P 6 rfl (by decide +kernel) (fun w2 => d_nilCheck rfl) ?_   -- 9 (Op.nilCheck t8)
  refine T_S 7 rfl (by decide +kernel) (fun w2 b2 => d_loadB sc33 (v := .slice _ _ _) rfl (cell_keep hv (h.keep b2).below)) ?_   -- 10 (Op.load 33 t9)
  refine T_P 8 rfl (by decide +kernel) (fun w2 => d_lenB sl33 rfl) ?_   -- 11 (Op.call {(Callee.builtin Builtin.len), [t10], [33]})
  refine T_P 9 rfl (by decide +kernel) (fun w2 => d_sub' (has_i64 (by omega) (by omega)) rfl rfl) ?_   -- 12 (Op.binOp BinOp.sub 3 t6 t11 3)
  refine T_P 10 rfl (by decide +kernel) (fun w2 => d_assign (v := .int .i64 _) rfl) ?_   -- 2 (Op.assign t12)
  refine T_end (by decide +kernel) ?_
  refine W_ret (Ret1 (v1 := .int .i64 _) rfl rfl ?_)
  exact ⟨rfl, h.below⟩

set_option maxRecDepth 100000 in
theorem place_calls {w : World} {gp gr m c k k' : Nat} {size : Int} {A : Option Addr} (hb : w.heap[gp]? = some (.cells [.int .i64 size, .slice (some ⟨gr, 0, none⟩) (m + 1) c].toArray 61 (0, 0))) (hv : w.cell? ⟨gr, m, none⟩ = some (.slice A k k')) (hm : m ≤ 140737488355327) (hs0 : 0 ≤ size) (hs1 : size ≤ 140737488355328) (hk : k ≤ 140737488355328) (n : Int) :
    Runs Try.prog 25 [.pointer (some ⟨gp, 0, none⟩), .int .i64 n] w (fun v w' => v = .agg #[.int .i64 (if size - k < n then (m : Int) + 1 else m), .int .i64 (if size - k < n then 0 else k)] ∧ Below w.heap.size w w') := by
  have h := St.start w
  refine Runs_of (N := 27) Try.func25 rfl rfl (by simp) ?_
  refine W_seq ?_
  refine W_region ?_   -- region 0
  --- 4 (Op.alloc 37)
  refine L_allocB h [.int .i64 0, .int .i64 0] zi37 rfl (fun g4 w h b => ?_)
  refine L_nil ?_
  refine W_seq ?_   -- join1: live (0, w), (4, _)
  refine W_seq ?_
  refine W_region ?_   -- region 1
  refine L_op (d_move (v := .pointer _) rfl) ?_   -- 5 (Op.move t0)
  --- 6 (Op.call {(Callee.value (Operand.func 28)), [t5], [25]})
  refine L_callB fn28 rfl (room_calls (blk_keep hb h.below) (cell_keep hv h.below) hm hs0 hs1 hk) ?_
  rintro _ w ⟨rfl, b⟩
  replace h := h.keep b
  refine L_op (d_move (v := .int .i64 _) rfl) ?_   -- 7 (Op.move t1)
  refine L_op (d_lss rfl rfl) ?_   -- 8 (Op.binOp BinOp.lss 3 t6 t7 3)
  refine L_nil ?_
  refine W_if rfl (fun c8 => ?_) (fun c8 => ?_)
  · -- c8 yes
    refine W_seq ?_
    refine W_region ?_   -- region 2
    refine L_op (d_move (v := .pointer _) rfl) ?_   -- 9 (Op.move t0)
    refine L_op (d_nilCheck rfl) ?_   -- 10 (Op.nilCheck t9)
    refine L_op (d_fieldAddrB fa61_1 rfl) ?_   -- 11 (Op.fieldAddr 61 t10 1)
    refine L_op (d_loadB sc29 (v := .slice _ _ _) rfl (blk_cell (blk_keep hb h.below) rfl)) ?_   -- 12 (Op.load 29 t11)
    refine L_op (d_lenB sl29 rfl) ?_   -- 13 (Op.call {(Callee.builtin Builtin.len), [t12], [29]})
    refine L_op (d_build (cs := #[.int .i64 _, .int .i64 _]) rfl rfl) ?_   -- 14 (Op.build 37 [(0, t13)])
    --- None (Op.store 37 t4 t14)
    first
      | refine L_storeBlk h (i := 0) (vs := [.int .i64 _, .int .i64 _]) rfl sz37 rfl rfl (by simp [Value.oneCell']) rfl (fun w h => ?_)
      | refine L_storeBlk h (i := 1) (vs := [.int .i64 _, .int .i64 _]) rfl sz37 rfl rfl (by simp [Value.oneCell']) rfl (fun w h => ?_)
      | refine L_storeBlk h (i := 2) (vs := [.int .i64 _, .int .i64 _]) rfl sz37 rfl rfl (by simp [Value.oneCell']) rfl (fun w h => ?_)
      | refine L_storeBlk h (i := 3) (vs := [.int .i64 _, .int .i64 _]) rfl sz37 rfl rfl (by simp [Value.oneCell']) rfl (fun w h => ?_)
      | refine L_storeBlk h (i := 4) (vs := [.int .i64 _, .int .i64 _]) rfl sz37 rfl rfl (by simp [Value.oneCell']) rfl (fun w h => ?_)
      | refine L_storeBlk h (i := 5) (vs := [.int .i64 _, .int .i64 _]) rfl sz37 rfl rfl (by simp [Value.oneCell']) rfl (fun w h => ?_)
      | refine L_storeBlk h (i := 6) (vs := [.int .i64 _, .int .i64 _]) rfl sz37 rfl rfl (by simp [Value.oneCell']) rfl (fun w h => ?_)
      | refine L_storeBlk h (i := 7) (vs := [.int .i64 _, .int .i64 _]) rfl sz37 rfl rfl (by simp [Value.oneCell']) rfl (fun w h => ?_)
    refine L_nil ?_
    refine W_ret (RetV (resC Try.f25 rfl ag37 h (i := 0) rfl rfl rfl) ⟨?_, h.below⟩)
    rw [if_pos c8, if_pos c8]; simp
  · -- c8 no
    refine W_skip ?_
    refine W_seq ?_
    refine W_draw [.P, .P, .P, .S, .P, .P, .P, .G, .P, .S, .P, .P, .H] [[], [0], [0, 1], [0, 1, 2], [0, 1, 2, 3], [0, 1, 2, 3, 4], [], [6], [6, 7], [6, 7, 8], [6, 7, 8, 9], [0, 1, 2, 3, 4, 5, 6, 7, 8, 9, 10], [0, 1, 2, 3, 4, 5, 6, 7, 8, 9, 10, 11]] mixed (by decide +kernel) (fun w b => ?_)   -- region 3
    replace h := h.keep b
    refine T_P 0 rfl (by decide +kernel) (fun w2 => d_move (v := .pointer _) rfl) ?_   -- 15 (Op.move t0)
    refine T_P 1 rfl (by decide +kernel) (fun w2 => d_nilCheck rfl) ?_   -- 16 (Op.nilCheck t15)
    refine T_P 2 rfl (by decide +kernel) (fun w2 => d_fieldAddrB fa61_1 rfl) ?_   -- 17 (Op.fieldAddr 61 t16 1)
    refine T_S 3 rfl (by decide +kernel) (fun w2 b2 => d_loadB sc29 (v := .slice _ _ _) rfl (blk_cell (blk_keep hb (h.keep b2).below) rfl)) ?_   -- 18 (Op.load 29 t17)
    refine T_P 4 rfl (by decide +kernel) (fun w2 => d_lenB sl29 rfl) ?_   -- 19 (Op.call {(Callee.builtin Builtin.len), [t18], [29]})
    refine T_P 5 rfl (by decide +kernel) (fun w2 => d_sub' (has_i64 (by omega) (by omega)) rfl rfl) ?_   -- 20 (Op.binOp BinOp.sub 3 t19 ((1)) 3)
    refine T_P 6 rfl (by decide +kernel) (fun w2 => d_move (v := .pointer _) rfl) ?_   -- 21 (Op.move t0)
    refine T_G 7 (by decide +kernel) rfl ?_
    --- 22 (Op.call {(Callee.value (Operand.func 33)), [t21], [25]})
    refine L_callB fn33 rfl (last_calls (blk_keep hb h.below) (by omega) (by omega)) ?_
    rintro _ w ⟨rfl, b⟩
    replace h := h.keep b
    refine L_nil ⟨b, ?_⟩
    refine T_P 8 rfl (by decide +kernel) (fun w2 => d_nilCheck rfl) ?_   -- 23 (Op.nilCheck t22)
    refine T_S 9 rfl (by decide +kernel) (fun w2 b2 => d_loadB sc33 (v := .slice _ _ _) rfl (cell_keep hv (h.keep b2).below)) ?_   -- 24 (Op.load 33 t23)
    refine T_P 10 rfl (by decide +kernel) (fun w2 => d_lenB sl33 rfl) ?_   -- 25 (Op.call {(Callee.builtin Builtin.len), [t24], [33]})
    refine T_P 11 rfl (by decide +kernel) (fun w2 => d_build (cs := #[.int .i64 _, .int .i64 _]) rfl rfl) ?_   -- 26 (Op.build 37 [(0, t20), (1, t25)])
    refine T_H 12 (by decide +kernel) rfl ?_
    --- None (Op.store 37 t4 t26)
    first
      | refine L_storeBlk h (i := 0) (vs := [.int .i64 _, .int .i64 _]) rfl sz37 rfl rfl (by simp [Value.oneCell']) rfl (fun w h => ?_)
      | refine L_storeBlk h (i := 1) (vs := [.int .i64 _, .int .i64 _]) rfl sz37 rfl rfl (by simp [Value.oneCell']) rfl (fun w h => ?_)
      | refine L_storeBlk h (i := 2) (vs := [.int .i64 _, .int .i64 _]) rfl sz37 rfl rfl (by simp [Value.oneCell']) rfl (fun w h => ?_)
      | refine L_storeBlk h (i := 3) (vs := [.int .i64 _, .int .i64 _]) rfl sz37 rfl rfl (by simp [Value.oneCell']) rfl (fun w h => ?_)
      | refine L_storeBlk h (i := 4) (vs := [.int .i64 _, .int .i64 _]) rfl sz37 rfl rfl (by simp [Value.oneCell']) rfl (fun w h => ?_)
      | refine L_storeBlk h (i := 5) (vs := [.int .i64 _, .int .i64 _]) rfl sz37 rfl rfl (by simp [Value.oneCell']) rfl (fun w h => ?_)
      | refine L_storeBlk h (i := 6) (vs := [.int .i64 _, .int .i64 _]) rfl sz37 rfl rfl (by simp [Value.oneCell']) rfl (fun w h => ?_)
      | refine L_storeBlk h (i := 7) (vs := [.int .i64 _, .int .i64 _]) rfl sz37 rfl rfl (by simp [Value.oneCell']) rfl (fun w h => ?_)
    refine L_nil ?_
    refine T_end (by decide +kernel) ?_
    refine W_ret (RetV (resC Try.f25 rfl ag37 h (i := 0) rfl rfl rfl) ⟨?_, h.below⟩)
    rw [if_neg c8, if_neg c8]; simp
end Go.Proofs.Ytbhjdbkdnandfaa.Sp
