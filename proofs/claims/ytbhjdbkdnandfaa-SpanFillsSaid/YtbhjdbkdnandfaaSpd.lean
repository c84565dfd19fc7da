/- Walks of the functions 31,34,30,22, printed by wip/fw/walk.py out of sp11.py. -/
import Derived.Test.YtbhjdbkdnandfaaSp8
import Derived.Test.YtbhjdbkdnandfaaSpp
namespace Go.Proofs.Ytbhjdbkdnandfaa.Sp
open Go Go.RowKit Go.Fw Go.Fw.Asn Go.Proofs
set_option linter.unusedVariables false
set_option maxRecDepth 100000 in
theorem goes1_calls {w : World} {A : Option Addr} {n c g : Nat} {size : Int} (hb : w.heap[g]? = some (.cells [.int .i64 size].toArray 3 (0, 0))) :
    Runs Try.prog 31 [.slice A n c, .pointer (some ⟨g, 0, none⟩)] w (fun v w' => v = .bool (decide (n = 0 ∨ (n : Int) > size)) ∧ Below w.heap.size w w') := by
  have h := St.start w
  refine Runs_of (N := 13) Try.func31 rfl rfl (by simp) ?_
  refine W_seq ?_
  refine W_region ?_   -- region 0
  refine L_op (d_assign (v := .bool _) rfl) ?_   -- 3 (Op.assign ((false)))
  refine L_nil ?_
  refine W_seq ?_
  refine W_region ?_   -- region 1
  refine L_op (d_move (v := .slice _ _ _) rfl) ?_   -- 4 (Op.move t0)
  refine L_op (d_lenB sl33 rfl) ?_   -- 5 (Op.call {(Callee.builtin Builtin.len), [t4], [33]})
  refine L_op (d_eql rfl rfl) ?_   -- 6 (Op.binOp BinOp.eql 3 t5 ((0)) 3)
  refine L_op (d_move (v := .bool _) rfl) ?_   -- 7 (Op.move t6)
  refine L_case (dj := 7) rfl (fun q7 => ?_) (fun q7 => ?_)
  · -- guard 7 true
    refine L_off rfl rfl rfl ?_   -- 8 (Op.move t0)
    refine L_off rfl rfl rfl ?_   -- 9 (Op.call {(Callee.builtin Builtin.len), [t8], [33]})
    refine L_off rfl rfl rfl ?_   -- 10 (Op.load 3 t1)
    refine L_off rfl rfl rfl ?_   -- 11 (Op.binOp BinOp.gtr 3 t9 t10 3)
    refine L_op (d_pick (r := .bool _) rfl rfl) ?_   -- 12 (Op.pick t7 ((true)) t11)
    refine L_op (d_assign (v := .bool _) rfl) ?_   -- 3 (Op.assign t12)
    refine L_nil ?_
    refine W_ret (Ret1 (v1 := .bool _) rfl rfl ?_)
    refine ⟨?_, h.below⟩
    have := of_decide_eq_true q7
    rw [decide_eq_true (.inl (by omega) : n = 0 ∨ (n : Int) > size)]
  · -- guard 7 false
    refine L_on rfl rfl rfl ?_
    refine L_op (d_move (v := .slice _ _ _) rfl) ?_   -- 8 (Op.move t0)
    refine L_on rfl rfl rfl ?_
    refine L_op (d_lenB sl33 rfl) ?_   -- 9 (Op.call {(Callee.builtin Builtin.len), [t8], [33]})
    refine L_on rfl rfl rfl ?_
    refine L_op (d_loadB sc3 (v := .int .i64 _) rfl (blk_cell (blk_keep hb h.below) rfl)) ?_   -- 10 (Op.load 3 t1)
    refine L_on rfl rfl rfl ?_
    refine L_op (d_gtr rfl rfl) ?_   -- 11 (Op.binOp BinOp.gtr 3 t9 t10 3)
    refine L_op (d_pick (r := .bool _) rfl rfl) ?_   -- 12 (Op.pick t7 ((true)) t11)
    refine L_op (d_assign (v := .bool _) rfl) ?_   -- 3 (Op.assign t12)
    refine L_nil ?_
    refine W_ret (Ret1 (v1 := .bool _) rfl rfl ?_)
    refine ⟨?_, h.below⟩
    have h0 := of_decide_eq_false q7
    congr 1
    exact decide_eq_decide.2 ⟨fun e => .inr e, fun e => by omega⟩

set_option maxRecDepth 100000 in
theorem index_calls {w : World} {A : Option Addr} {c g : Nat} {size : Int} {rows : List (List Int)} (hb : w.heap[g]? = some (.cells [.int .i64 size].toArray 3 (0, 0))) (hr : RowsRd w A rows) (hl : rows.length ≤ 9223372036854775807) :
    Runs Try.prog 34 [.slice A rows.length c, .func (.func 31) #[] #[.pointer (some ⟨g, 0, none⟩)]] w (fun v w' => (∃ k : Int, v = .int .i64 k ∧ (0 ≤ k ↔ (∃ x ∈ rows, x.length = 0 ∨ (x.length : Int) > size))) ∧ Below w.heap.size w w') := by
  have h := St.start w
  refine Runs_of (N := 19) Try.func34 rfl rfl (by simp) ?_
  refine W_seq ?_
  refine W_region ?_   -- region 0
  refine L_op (d_assign (v := .int .i64 _) rfl) ?_   -- 4 (Op.assign ((0)))
  refine L_nil ?_
  refine W_seq ?_   -- join1: live 
  refine W_seq ?_
  refine W_region ?_   -- region 1
  refine L_op (d_move (v := .slice _ _ _) rfl) ?_   -- 6 (Op.move t0)
  refine L_op (d_lenB sl29 rfl) ?_   -- 7 (Op.call {(Callee.builtin Builtin.len), [t6], [29]})
  refine L_op (d_move (v := .int .i64 _) rfl) ?_   -- 8 (Op.move ((0)))
  refine L_nil ?_
  refine W_block ?_   -- block 0
  refine W_while (σ := Nat) 0 (fun i => [(0, .slice A rows.length c), (1, .func (.func 31) #[] #[.pointer (some ⟨g, 0, none⟩)]), (7, .int .i64 rows.length), (8, .int .i64 i)])
    (fun i w1 => St w (fun k => k < w.heap.size) [] w1 ∧ i ≤ rows.length ∧ ¬ (∃ x ∈ rows.take i, x.length = 0 ∨ (x.length : Int) > size)) (fun i => rows.length - i) ⟨rfl, rfl, rfl, rfl, trivial⟩ ⟨h, Nat.zero_le _, by simp⟩ ?_
  rintro i w1 b_ ⟨h, hi, hbx⟩
  refine W_seq ?_
  refine W_region ?_   -- region 2
  refine L_op (d_lss rfl rfl) ?_   -- 9 (Op.binOp BinOp.lss 3 t8 t7 3)
  refine L_nil ?_
  refine W_seq ?_   -- join2: live (0, s), (1, f), (7, _), (8, _)
  refine W_if rfl (fun c9 => ?_) (fun c9 => ?_)
  · -- c9 yes
    have hi2 : i < rows.length := by omega
    obtain ⟨a, A2, c2, rfl, hcell, hle, hrd⟩ := hr.keep h.below i rows[i] (List.getElem?_eq_getElem hi2)
    refine W_skip ?_
    refine W_seq ?_   -- join3: live (0, s), (1, f), (7, _), (8, _)
    refine W_block ?_   -- block 1
    refine W_seq ?_
    refine W_region ?_   -- region 3
    refine L_op (d_move (v := .int .i64 _) rfl) ?_   -- 10 (Op.move t8)
    refine L_op (d_assign (v := .int .i64 _) rfl) ?_   -- 5 (Op.assign t10)
    refine L_nil ?_
    refine W_seq ?_
    refine W_region ?_   -- region 4
    refine L_op (d_move (v := .func _ _ _) rfl) ?_   -- 11 (Op.move t1)
    refine L_op (d_move (v := .slice _ _ _) rfl) ?_   -- 12 (Op.move t0)
    refine L_op (d_move (v := .int .i64 _) rfl) ?_   -- 13 (Op.move t5)
    refine L_op (d_ix1 (m := i) sl29 rfl rfl rfl hi2) ?_   -- 14 (Op.indexAddr 29 t12 t13)
    refine L_op (d_loadB sc33 (v := .slice _ _ _) rfl (hcell)) ?_   -- 15 (Op.load 33 t14)
    --- 16 (Op.call {(Callee.value t11), [t15], [33]})
    refine L_callV fn31 rfl rfl (goes1_calls (blk_keep hb h.below)) ?_
    rintro _ w ⟨rfl, b⟩
    replace h := h.keep b
    refine L_nil ?_
    refine W_if rfl (fun c16 => ?_) (fun c16 => ?_)
    · -- c16 yes
      refine W_seq ?_
      refine W_region ?_   -- region 5
      refine L_op (d_move (v := .int .i64 _) rfl) ?_   -- 17 (Op.move t5)
      refine L_op (d_assign (v := .int .i64 _) rfl) ?_   -- 4 (Op.assign t17)
      refine L_nil ?_
      refine W_ret (Ret1 (v1 := .int .i64 _) rfl rfl ?_)
      exact ⟨⟨i, rfl, ⟨fun _ => ⟨rows[i], List.getElem_mem hi2, c16⟩, fun _ => by omega⟩⟩, h.below⟩
    · -- c16 no
      refine W_skip ?_
      refine W_region ?_   -- region 6
      refine L_op (d_add' (has_i64 (by omega) (by omega)) rfl rfl) ?_   -- 18 (Op.binOp BinOp.add 3 t8 ((1)) 3)
      refine L_op (d_move (v := .int .i64 _) rfl) ?_   -- 8 (Op.move t18)
      refine L_nil ?_
      refine ⟨i + 1, ⟨rfl, rfl, rfl, rfl, trivial⟩, ⟨h, by omega, ?_⟩, by omega⟩
      rintro ⟨x, hx, hbad⟩
      rw [← List.take_append_getElem hi2] at hx
      rcases List.mem_append.1 hx with hx | hx
      · exact hbx ⟨x, hx, hbad⟩
      · obtain rfl : x = rows[i] := by simpa using hx
        exact c16 hbad
  · -- c9 no
    refine W_exit (X_here ?_)
    refine W_seq ?_
    refine W_region ?_   -- region 7
    refine L_op (d_assign (v := .int .i64 _) rfl) ?_   -- 4 (Op.assign ((-1)))
    refine L_nil ?_
    refine W_ret (Ret1 (v1 := .int .i64 _) rfl rfl ?_)
    obtain rfl : i = rows.length := by omega
    rw [List.take_length] at hbx
    exact ⟨⟨-1, rfl, ⟨fun hk => absurd hk (by decide), fun hk => absurd hk hbx⟩⟩, h.below⟩

set_option maxRecDepth 100000 in
theorem contains_calls {w : World} {A : Option Addr} {c g : Nat} {size : Int} {rows : List (List Int)} (hb : w.heap[g]? = some (.cells [.int .i64 size].toArray 3 (0, 0))) (hr : RowsRd w A rows) (hl : rows.length ≤ 9223372036854775807) :
    Runs Try.prog 30 [.slice A rows.length c, .func (.func 31) #[] #[.pointer (some ⟨g, 0, none⟩)]] w (fun v w' => v = .bool (decide (∃ x ∈ rows, x.length = 0 ∨ (x.length : Int) > size)) ∧ Below w.heap.size w w') := by
  have h := St.start w
  refine Runs_of (N := 9) Try.func30 rfl rfl (by simp) ?_
  refine W_seq ?_
  refine W_region ?_   -- region 0
  refine L_op (d_assign (v := .bool _) rfl) ?_   -- 4 (Op.assign ((false)))
  refine L_nil ?_
  refine W_seq ?_
  refine W_region ?_   -- region 1
  refine L_op (d_move (v := .slice _ _ _) rfl) ?_   -- 5 (Op.move t0)
  refine L_op (d_move (v := .func _ _ _) rfl) ?_   -- 6 (Op.move t1)
  --- 7 (Op.call {(Callee.value (Operand.func 34)), [t5, t6], [29, 67]})
  refine L_callB fn34 rfl (index_calls (blk_keep hb h.below) (hr.keep h.below) hl) ?_
  rintro _ w ⟨⟨k, rfl, hk⟩, b⟩
  replace h := h.keep b
  refine L_op (d_geq rfl rfl) ?_   -- 8 (Op.binOp BinOp.geq 3 t7 ((0)) 3)
  refine L_op (d_assign (v := .bool _) rfl) ?_   -- 4 (Op.assign t8)
  refine L_nil ?_
  refine W_ret (Ret1 (v1 := .bool _) rfl rfl ?_)
  refine ⟨?_, h.below⟩
  congr 1
  exact decide_eq_decide.2 hk

set_option maxRecDepth 100000 in
theorem go_calls {w : World} {A : Option Addr} {c : Nat} {size : Int} {rows : List (List Int)} (hr : RowsRd w A rows) (hl : rows.length ≤ 1000000000001) (hx : ∀ xs ∈ rows, xs.length ≤ 140737488355328) :
    Runs Try.prog 22 [.int .i64 size, .slice A rows.length c] w (fun v w' => if (size < 5 ∨ size > 16777216) then v = .tuple #[.pointer none, .int .i64 1] ∧ Below w.heap.size w w' else if (rows = [] ∨ (∃ x ∈ rows, x.length = 0 ∨ (x.length : Int) > size)) then v = .tuple #[.pointer none, .int .i64 21] ∧ Below w.heap.size w w' else ∀ ini lst, rows = ini ++ [lst] → ∃ g, v = .tuple #[.pointer (some ⟨g, 0, none⟩), .int .i64 0] ∧ Made (wrA g size ini lst) w w') := by
  have h := St.start w
  refine Runs_of (N := 27) Try.func22 rfl rfl (by simp) ?_
  refine W_seq ?_
  refine W_region ?_   -- region 0
  --- 2 (Op.box 3 t0)
  refine L_box h [.int .i64 _] rfl rfl (fun g2 w h b => ?_)
  refine L_op (d_assign (v := .pointer _) rfl) ?_   -- 4 (Op.assign ((Value.pointer none)))
  refine L_op (d_assign (v := .int .i64 _) rfl) ?_   -- 5 (Op.assign ((0)))
  refine L_nil ?_
  refine W_seq ?_   -- join1: live (1, row), (2, size)
  refine W_seq ?_
  refine W_region ?_   -- region 1
  refine L_op (d_loadB sc3 (v := .int .i64 _) rfl (by first | exact (h).cell (i := 0) rfl rfl | exact (h).cell (i := 1) rfl rfl | exact (h).cell (i := 2) rfl rfl | exact (h).cell (i := 3) rfl rfl | exact (h).cell (i := 4) rfl rfl | exact (h).cell (i := 5) rfl rfl | exact (h).cell (i := 6) rfl rfl | exact (h).cell (i := 7) rfl rfl | exact (h).cell (i := 8) rfl rfl)) ?_   -- 7 (Op.load 3 t2)
  refine L_op (d_lss rfl rfl) ?_   -- 8 (Op.binOp BinOp.lss 3 t7 ((5)) 3)
  refine L_op (d_move (v := .bool _) rfl) ?_   -- 9 (Op.move t8)
  refine L_case (dj := 9) rfl (fun q9 => ?_) (fun q9 => ?_)
  · -- guard 9 true
    refine L_off rfl rfl rfl ?_   -- 10 (Op.load 3 t2)
    refine L_off rfl rfl rfl ?_   -- 11 (Op.binOp BinOp.gtr 3 t10 ((16777216)) 3)
    refine L_op (d_pick (r := .bool _) rfl rfl) ?_   -- 12 (Op.pick t9 ((true)) t11)
    refine L_nil ?_
    refine W_true (rfl) ?_
    refine W_seq ?_
    refine W_region ?_   -- region 2
    refine L_op (d_assign (v := .pointer _) rfl) ?_   -- 4 (Op.assign ((Value.pointer none)))
    refine L_op (d_assign (v := .int .i64 _) rfl) ?_   -- 5 (Op.assign ((1)))
    refine L_nil ?_
    refine W_ret (Ret2 (v1 := .pointer _) (v2 := .int .i64 _) rfl rfl rfl ?_)
    rw [if_pos (.inl (of_decide_eq_true q9))]
    exact ⟨rfl, h.below⟩
  · -- guard 9 false
    refine L_on rfl rfl rfl ?_
    refine L_op (d_loadB sc3 (v := .int .i64 _) rfl (by first | exact (h).cell (i := 0) rfl rfl | exact (h).cell (i := 1) rfl rfl | exact (h).cell (i := 2) rfl rfl | exact (h).cell (i := 3) rfl rfl | exact (h).cell (i := 4) rfl rfl | exact (h).cell (i := 5) rfl rfl | exact (h).cell (i := 6) rfl rfl | exact (h).cell (i := 7) rfl rfl | exact (h).cell (i := 8) rfl rfl)) ?_   -- 10 (Op.load 3 t2)
    refine L_on rfl rfl rfl ?_
    refine L_op (d_gtr rfl rfl) ?_   -- 11 (Op.binOp BinOp.gtr 3 t10 ((16777216)) 3)
    refine L_op (d_pick (r := .bool _) rfl rfl) ?_   -- 12 (Op.pick t9 ((true)) t11)
    refine L_nil ?_
    refine W_if rfl (fun c12 => ?_) (fun c12 => ?_)
    · -- c12 yes
      refine W_seq ?_
      refine W_region ?_   -- region 2
      refine L_op (d_assign (v := .pointer _) rfl) ?_   -- 4 (Op.assign ((Value.pointer none)))
      refine L_op (d_assign (v := .int .i64 _) rfl) ?_   -- 5 (Op.assign ((1)))
      refine L_nil ?_
      refine W_ret (Ret2 (v1 := .pointer _) (v2 := .int .i64 _) rfl rfl rfl ?_)
      rw [if_pos (.inr c12)]
      exact ⟨rfl, h.below⟩
    · -- c12 no
      refine W_skip ?_
      refine W_seq ?_   -- join2: live (1, row), (2, size)
      refine W_seq ?_
      refine W_region ?_   -- region 3
      refine L_op (d_move (v := .slice _ _ _) rfl) ?_   -- 13 (Op.move t1)
      refine L_op (d_lenB sl29 rfl) ?_   -- 14 (Op.call {(Callee.builtin Builtin.len), [t13], [29]})
      refine L_op (d_eql rfl rfl) ?_   -- 15 (Op.binOp BinOp.eql 3 t14 ((0)) 3)
      refine L_op (d_move (v := .bool _) rfl) ?_   -- 16 (Op.move t15)
      refine L_case (dj := 16) rfl (fun q16 => ?_) (fun q16 => ?_)
      · -- guard 16 true
        refine L_off rfl rfl rfl ?_   -- 17 (Op.move t1)
        refine L_off rfl rfl rfl ?_   -- 18 (Op.makeFunc (Fn.func 31) [] [t2])
        refine L_off rfl rfl rfl ?_   -- 19 (Op.call {(Callee.value (Operand.func 30)), [t17, t18], [29, 67]})
        refine L_op (d_pick (r := .bool _) rfl rfl) ?_   -- 20 (Op.pick t16 ((true)) t19)
        refine L_nil ?_
        refine W_true (rfl) ?_
        refine W_seq ?_
        refine W_region ?_   -- region 4
        refine L_op (d_assign (v := .pointer _) rfl) ?_   -- 4 (Op.assign ((Value.pointer none)))
        refine L_op (d_assign (v := .int .i64 _) rfl) ?_   -- 5 (Op.assign ((21)))
        refine L_nil ?_
        refine W_ret (Ret2 (v1 := .pointer _) (v2 := .int .i64 _) rfl rfl rfl ?_)
        have hg1 : ¬ (size < 5 ∨ size > 16777216) := by
          have := of_decide_eq_false q9
          omega
        rw [if_neg hg1]
        have h0 : rows = [] := List.eq_nil_of_length_eq_zero (by have := of_decide_eq_true q16; omega)
        rw [if_pos (.inl h0)]
        exact ⟨rfl, h.below⟩
      · -- guard 16 false
        refine L_on rfl rfl rfl ?_
        refine L_op (d_move (v := .slice _ _ _) rfl) ?_   -- 17 (Op.move t1)
        refine L_on rfl rfl rfl ?_
        refine L_op (d_makeFunc1 rfl) ?_   -- 18 (Op.makeFunc (Fn.func 31) [] [t2])
        refine L_on rfl rfl rfl ?_
        --- 19 (Op.call {(Callee.value (Operand.func 30)), [t17, t18], [29, 67]})
        refine L_callB fn30 rfl (contains_calls (h.blkAt (i := 0) rfl) (hr.keep h.below) (by omega)) ?_
        rintro _ w ⟨rfl, b⟩
        replace h := h.keep b
        refine L_op (d_pick (r := .bool _) rfl rfl) ?_   -- 20 (Op.pick t16 ((true)) t19)
        refine L_nil ?_
        refine W_if rfl (fun c20 => ?_) (fun c20 => ?_)
        · -- c20 yes
          refine W_seq ?_
          refine W_region ?_   -- region 4
          refine L_op (d_assign (v := .pointer _) rfl) ?_   -- 4 (Op.assign ((Value.pointer none)))
          refine L_op (d_assign (v := .int .i64 _) rfl) ?_   -- 5 (Op.assign ((21)))
          refine L_nil ?_
          refine W_ret (Ret2 (v1 := .pointer _) (v2 := .int .i64 _) rfl rfl rfl ?_)
          have hg1 : ¬ (size < 5 ∨ size > 16777216) := by
            have := of_decide_eq_false q9
            omega
          rw [if_neg hg1]
          rw [if_pos (.inr c20)]
          exact ⟨rfl, h.below⟩
        · -- c20 no
          obtain ⟨ini, lst, rfl⟩ : ∃ ini lst, rows = ini ++ [lst] := by
            have hne : rows ≠ [] := by
              intro e
              subst e
              exact absurd rfl (of_decide_eq_false q16)
            exact ⟨rows.dropLast, rows.getLast hne, (List.dropLast_concat_getLast hne).symm⟩
          refine W_skip ?_
          refine W_seq ?_
          refine W_region ?_   -- region 5
          refine L_op (d_loadB sc3 (v := .int .i64 _) rfl (by first | exact (h).cell (i := 0) rfl rfl | exact (h).cell (i := 1) rfl rfl | exact (h).cell (i := 2) rfl rfl | exact (h).cell (i := 3) rfl rfl | exact (h).cell (i := 4) rfl rfl | exact (h).cell (i := 5) rfl rfl | exact (h).cell (i := 6) rfl rfl | exact (h).cell (i := 7) rfl rfl | exact (h).cell (i := 8) rfl rfl)) ?_   -- 21 (Op.load 3 t2)
          refine L_op (d_move (v := .slice _ _ _) rfl) ?_   -- 22 (Op.move t1)
          refine L_op (d_build (cs := #[.int .i64 _, .slice _ _ _]) rfl rfl) ?_   -- 23 (Op.build 61 [(0, t21), (1, t22)])
          --- 24 (Op.box 61 t23)
          refine L_box h [.int .i64 _, .slice _ _ _] rfl rfl (fun g24 w h b => ?_)
          refine L_op (d_assign (v := .pointer _) rfl) ?_   -- 6 (Op.assign t24)
          refine L_nil ?_
          refine W_seq ?_
          refine W_region ?_   -- region 6
          refine L_op (d_move (v := .pointer _) rfl) ?_   -- 25 (Op.move t6)
          --- 26 (Op.call {(Callee.value (Operand.func 23)), [t25], [25]})
          refine L_callB fn23 rfl (wclone_calls (h.blkAt (i := 0) rfl) (hr.keep h.below) hl hx) ?_
          rintro _ w1 ⟨g26, rfl, hm⟩
          replace h := h.take hm
          refine L_op (d_assign (v := .pointer _) rfl) ?_   -- 4 (Op.assign t26)
          refine L_op (d_assign (v := .int .i64 _) rfl) ?_   -- 5 (Op.assign ((0)))
          refine L_nil ?_
          refine W_ret (Ret2 (v1 := .pointer _) (v2 := .int .i64 _) rfl rfl rfl ?_)
          have hg1 : ¬ (size < 5 ∨ size > 16777216) := by
            have := of_decide_eq_false q9
            omega
          rw [if_neg hg1]
          rw [if_neg (fun e => by
            rcases e with e | e
            · simp at e
            · exact c20 e)]
          intro ini2 lst2 e2
          obtain ⟨rfl, e3⟩ := List.append_inj' e2 rfl
          obtain rfl : lst = lst2 := by simpa using e3
          exact ⟨g26, rfl, h.made⟩
end Go.Proofs.Ytbhjdbkdnandfaa.Sp
