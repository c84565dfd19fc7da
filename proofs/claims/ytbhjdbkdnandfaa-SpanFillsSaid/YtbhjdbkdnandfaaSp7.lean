/- Walks of the functions 14,12, printed by wip/fw/walk.py out of sp5.py. -/
import Derived.Test.YtbhjdbkdnandfaaSp6
namespace Go.Proofs.Ytbhjdbkdnandfaa.Sp
open Go Go.RowKit Go.Fw Go.Fw.Asn Go.Proofs
set_option linter.unusedVariables false
set_option maxRecDepth 100000 in
theorem rdata_calls {w0 w : World} {F : Nat → Prop} {L : List Asn} {A B : Option Addr} {c cb : Nat} {size : Int} {ini : List (List Int)} {lst xs : List Int} (h : St w0 F (roA A (ini ++ [lst]) :: L) w) (hb : FRd F w0 B (bys xs)) (hi : ini.length + xs.length ≤ 100000000000) (hl : lst.length + xs.length ≤ 100000000000) :
    Runs Try.prog 14 [.agg #[.int .i64 size, .slice A (ini ++ [lst]).length c], .slice B xs.length cb] w (fun v w' => ∃ A' c', v = .tuple #[.agg #[.int .i64 size, .slice A' ((xs.foldl (putB size) (ini, lst)).1 ++ [(xs.foldl (putB size) (ini, lst)).2]).length c'], .agg #[.int .i64 (if (lst.length : Int) + 1 > size then (ini.length : Int) + 1 else ini.length), .int .i64 (if (lst.length : Int) + 1 > size then 0 else lst.length)]] ∧ St w0 F (roA A' ((xs.foldl (putB size) (ini, lst)).1 ++ [(xs.foldl (putB size) (ini, lst)).2]) :: L) w') := by
  have hrl : (ini ++ [lst]).length = ini.length + 1 := by simp
  refine Runs_of (N := 36) Try.func14 rfl rfl (by simp) ?_
  refine W_seq ?_
  refine W_region ?_   -- region 0
  --- 2 (Op.box 31 t0)
  refine L_box h [.int .i64 _, .slice _ _ _] rfl rfl (fun g2 w h b => ?_)
  --- 4 (Op.alloc 31)
  refine L_allocB h [.int .i64 0, .slice none 0 0] zi31 rfl (fun g4 w h b => ?_)
  --- 5 (Op.alloc 37)
  refine L_allocB h [.int .i64 0, .int .i64 0] zi37 rfl (fun g5 w h b => ?_)
  refine L_nil ?_
  refine W_seq ?_
  refine W_region ?_   -- region 1
  refine L_op (by first | exact d_loadBlk ag31 (h) (i := 0) rfl rfl rfl | exact d_loadBlk ag31 (h) (i := 1) rfl rfl rfl | exact d_loadBlk ag31 (h) (i := 2) rfl rfl rfl | exact d_loadBlk ag31 (h) (i := 3) rfl rfl rfl | exact d_loadBlk ag31 (h) (i := 4) rfl rfl rfl | exact d_loadBlk ag31 (h) (i := 5) rfl rfl rfl | exact d_loadBlk ag31 (h) (i := 6) rfl rfl rfl | exact d_loadBlk ag31 (h) (i := 7) rfl rfl rfl | exact d_loadBlk ag31 (h) (i := 8) rfl rfl rfl) ?_   -- 8 (Op.load 31 t2)
  --- 9 (Op.call {(Callee.value (Operand.func 18)), [t8, ((1))], [31, 3]})
  refine L_callB fn18 rfl (rnext_calls (ro_rd (i := 3) h rfl) (by omega) (by omega) (by decide)) ?_
  rintro _ w ⟨rfl, b⟩
  replace h := h.keep b
  --- 6 (Op.alloc 37)
  refine L_allocB h [.int .i64 0, .int .i64 0] zi37 rfl (fun g6 w h b => ?_)
  --- None (Op.store 37 t6 t9)
  first
    | refine L_storeBlk h (i := 0) (vs := [.int .i64 _, .int .i64 _]) rfl sz37 rfl rfl (by simp [Value.oneCell']) rfl (fun w h => ?_)
    | refine L_storeBlk h (i := 1) (vs := [.int .i64 _, .int .i64 _]) rfl sz37 rfl rfl (by simp [Value.oneCell']) rfl (fun w h => ?_)
    | refine L_storeBlk h (i := 2) (vs := [.int .i64 _, .int .i64 _]) rfl sz37 rfl rfl (by simp [Value.oneCell']) rfl (fun w h => ?_)
    | refine L_storeBlk h (i := 3) (vs := [.int .i64 _, .int .i64 _]) rfl sz37 rfl rfl (by simp [Value.oneCell']) rfl (fun w h => ?_)
    | refine L_storeBlk h (i := 4) (vs := [.int .i64 _, .int .i64 _]) rfl sz37 rfl rfl (by simp [Value.oneCell']) rfl (fun w h => ?_)
    | refine L_storeBlk h (i := 5) (vs := [.int .i64 _, .int .i64 _]) rfl sz37 rfl rfl (by simp [Value.oneCell']) rfl (fun w h => ?_)
    | refine L_storeBlk h (i := 6) (vs := [.int .i64 _, .int .i64 _]) rfl sz37 rfl rfl (by simp [Value.oneCell']) rfl (fun w h => ?_)
    | refine L_storeBlk h (i := 7) (vs := [.int .i64 _, .int .i64 _]) rfl sz37 rfl rfl (by simp [Value.oneCell']) rfl (fun w h => ?_)
  refine L_nil ?_
  refine W_seq ?_   -- join1: live (2, w), (4, _), (5, _), (6, p)
  refine W_seq ?_
  refine W_region ?_   -- region 2
  refine L_op (d_assign (v := .int .i64 _) rfl) ?_   -- 7 (Op.assign ((0)))
  refine L_nil ?_
  refine W_block ?_   -- block 0
  generalize (if (lst.length : Int) + 1 > size then (ini.length : Int) + 1 else ini.length) = pd at h ⊢
  generalize (if (lst.length : Int) + 1 > size then 0 else (lst.length : Int)) = pa at h ⊢
  refine W_while (σ := Nat × Option Addr × Nat) (0, A, c) (fun s => [(1, .slice B xs.length cb), (2, .pointer (some ⟨g2, 0, none⟩)), (4, .pointer (some ⟨g4, 0, none⟩)), (5, .pointer (some ⟨g5, 0, none⟩)), (6, .pointer (some ⟨g6, 0, none⟩)), (7, .int .i64 s.1)])
    (fun s w1 => St w0 F (roA s.2.1 (((xs.take s.1).foldl (putB size) (ini, lst)).1 ++ [((xs.take s.1).foldl (putB size) (ini, lst)).2]) :: blk g6 37 [.int .i64 pd, .int .i64 pa] :: blk g5 37 [.int .i64 0, .int .i64 0] :: blk g4 31 [.int .i64 0, .slice none 0 0] :: blk g2 31 [.int .i64 size, .slice s.2.1 (((xs.take s.1).foldl (putB size) (ini, lst)).1 ++ [((xs.take s.1).foldl (putB size) (ini, lst)).2]).length s.2.2] :: L) w1 ∧ s.1 ≤ xs.length) (fun s => xs.length - s.1) ⟨rfl, rfl, rfl, rfl, rfl, rfl, trivial⟩ ⟨h.front (i := 4) rfl, Nat.zero_le _⟩ ?_
  rintro ⟨i, A3, c3⟩ w1 b_ ⟨h, hix⟩
  dsimp only at h hix ⊢
  have hf := fold_le (size := size) (xs.take i) (ini, lst)
  rw [List.length_take, Nat.min_eq_left hix] at hf
  generalize hD : (xs.take i).foldl (putB size) (ini, lst) = D at h hf ⊢
  obtain ⟨I, l⟩ := D
  dsimp only at h hf ⊢
  have hrl2 : (I ++ [l]).length = I.length + 1 := by simp
  refine W_seq ?_   -- join2: live (1, b), (2, w), (4, _), (5, _), (6, p), (7, i)
  refine W_seq ?_
  refine W_region ?_   -- region 3
  refine L_op (d_move (v := .int .i64 _) rfl) ?_   -- 10 (Op.move t7)
  refine L_op (d_move (v := .slice _ _ _) rfl) ?_   -- 11 (Op.move t1)
  refine L_op (d_lenB sl33 rfl) ?_   -- 12 (Op.call {(Callee.builtin Builtin.len), [t11], [33]})
  refine L_op (d_lss rfl rfl) ?_   -- 13 (Op.binOp BinOp.lss 3 t10 t12 3)
  refine L_nil ?_
  refine W_if rfl (fun c13 => ?_) (fun c13 => ?_)
  · -- c13 yes
    have hi2 : i < xs.length := by omega
    obtain ⟨a, rfl⟩ := (hb.at h).addr (by rw [bys_length]; omega)
    obtain ⟨a3, A4, c4, rfl, hlast, hle4, hrd4⟩ := ro_rd (i := 0) h rfl I.length l (by simp)
    refine W_skip ?_
    refine W_seq ?_   -- join3: live (1, b), (2, w), (4, _), (5, _), (6, p), (7, i)
    refine W_block ?_   -- block 1
    refine W_draw [.S, .P, .P, .P, .S, .P, .S, .P, .S, .P, .P, .P, .S, .P, .P, .S, .P, .H, .H] [[], [], [], [1, 2], [1, 2, 3], [], [5], [], [7], [7, 8], [7, 8, 9], [5, 6, 7, 8, 9, 10], [5, 6, 7, 8, 9, 10, 11], [5, 6, 7, 8, 9, 10, 11, 12], [], [14], [5, 6, 7, 8, 9, 10, 11, 12, 13, 14, 15], [0, 1, 2, 3, 4, 5, 6, 7, 8, 9, 10, 11, 12, 13, 14, 15, 16], [0, 1, 2, 3, 4, 5, 6, 7, 8, 9, 10, 11, 12, 13, 14, 15, 16, 17]] mixed (by decide +kernel) (fun w b => ?_)   -- region 5
    replace h := h.keep b
    refine T_S 0 rfl (by decide +kernel) (fun w2 b2 => by first | exact d_loadBlk ag31 (h.keep b2) (i := 0) rfl rfl rfl | exact d_loadBlk ag31 (h.keep b2) (i := 1) rfl rfl rfl | exact d_loadBlk ag31 (h.keep b2) (i := 2) rfl rfl rfl | exact d_loadBlk ag31 (h.keep b2) (i := 3) rfl rfl rfl | exact d_loadBlk ag31 (h.keep b2) (i := 4) rfl rfl rfl | exact d_loadBlk ag31 (h.keep b2) (i := 5) rfl rfl rfl | exact d_loadBlk ag31 (h.keep b2) (i := 6) rfl rfl rfl | exact d_loadBlk ag31 (h.keep b2) (i := 7) rfl rfl rfl | exact d_loadBlk ag31 (h.keep b2) (i := 8) rfl rfl rfl) ?_   -- 16 (Op.load 31 t2)
    refine T_P 1 rfl (by decide +kernel) (fun w2 => d_move (v := .slice _ _ _) rfl) ?_   -- 17 (Op.move t1)
    refine T_P 2 rfl (by decide +kernel) (fun w2 => d_move (v := .int .i64 _) rfl) ?_   -- 18 (Op.move t7)
    refine T_P 3 rfl (by decide +kernel) (fun w2 => d_ix1 (m := i) sl33 rfl rfl rfl hi2) ?_   -- 19 (Op.indexAddr 33 t17 t18)
    refine T_S 4 rfl (by decide +kernel) (fun w2 b2 => d_loadB sc5 (v := .int .u8 _) rfl ((hb.at (h.keep b2)).cell (ints_get (List.getElem?_eq_getElem hi2)))) ?_   -- 20 (Op.load 5 t19)
    refine T_P 5 rfl (by decide +kernel) (fun w2 => d_fieldAddrB fa31_1 rfl) ?_   -- 21 (Op.fieldAddr 31 t2 1)
    refine T_S 6 rfl (by decide +kernel) (fun w2 b2 => d_loadB sc29 (v := .slice _ _ _) rfl (by first | exact (h.keep b2).cell (i := 0) rfl rfl | exact (h.keep b2).cell (i := 1) rfl rfl | exact (h.keep b2).cell (i := 2) rfl rfl | exact (h.keep b2).cell (i := 3) rfl rfl | exact (h.keep b2).cell (i := 4) rfl rfl | exact (h.keep b2).cell (i := 5) rfl rfl | exact (h.keep b2).cell (i := 6) rfl rfl | exact (h.keep b2).cell (i := 7) rfl rfl | exact (h.keep b2).cell (i := 8) rfl rfl)) ?_   -- 22 (Op.load 29 t21)
    refine T_P 7 rfl (by decide +kernel) (fun w2 => d_fieldAddrB fa31_1 rfl) ?_   -- 23 (Op.fieldAddr 31 t2 1)
    refine T_S 8 rfl (by decide +kernel) (fun w2 b2 => d_loadB sc29 (v := .slice _ _ _) rfl (by first | exact (h.keep b2).cell (i := 0) rfl rfl | exact (h.keep b2).cell (i := 1) rfl rfl | exact (h.keep b2).cell (i := 2) rfl rfl | exact (h.keep b2).cell (i := 3) rfl rfl | exact (h.keep b2).cell (i := 4) rfl rfl | exact (h.keep b2).cell (i := 5) rfl rfl | exact (h.keep b2).cell (i := 6) rfl rfl | exact (h.keep b2).cell (i := 7) rfl rfl | exact (h.keep b2).cell (i := 8) rfl rfl)) ?_   -- 24 (Op.load 29 t23)
    refine T_P 9 rfl (by decide +kernel) (fun w2 => d_lenB sl29 rfl) ?_   -- 25 (Op.call {(Callee.builtin Builtin.len), [t24], [29]})
    refine T_P 10 rfl (by decide +kernel) (fun w2 => d_sub' (has_i64 (by omega) (by omega)) rfl rfl) ?_   -- 26 (Op.binOp BinOp.sub 3 t25 ((1)) 3)
    refine T_P 11 rfl (by decide +kernel) (fun w2 => d_ix1 (m := I.length) sl29 rfl rfl (by omega) (by omega)) ?_   -- 27 (Op.indexAddr 29 t22 t26)
    refine T_S 12 rfl (by decide +kernel) (fun w2 b2 => d_loadB sc33 (v := .slice _ _ _) rfl (cell_keep (cell_keep hlast b) b2)) ?_   -- 28 (Op.load 33 t27)
    refine T_P 13 rfl (by decide +kernel) (fun w2 => d_lenB sl33 rfl) ?_   -- 29 (Op.call {(Callee.builtin Builtin.len), [t28], [33]})
    refine T_P 14 rfl (by decide +kernel) (fun w2 => d_fieldAddrB fa31_0 rfl) ?_   -- 30 (Op.fieldAddr 31 t2 0)
    refine T_S 15 rfl (by decide +kernel) (fun w2 b2 => d_loadB sc3 (v := .int .i64 _) rfl (by first | exact (h.keep b2).cell (i := 0) rfl rfl | exact (h.keep b2).cell (i := 1) rfl rfl | exact (h.keep b2).cell (i := 2) rfl rfl | exact (h.keep b2).cell (i := 3) rfl rfl | exact (h.keep b2).cell (i := 4) rfl rfl | exact (h.keep b2).cell (i := 5) rfl rfl | exact (h.keep b2).cell (i := 6) rfl rfl | exact (h.keep b2).cell (i := 7) rfl rfl | exact (h.keep b2).cell (i := 8) rfl rfl)) ?_   -- 31 (Op.load 3 t30)
    refine T_P 16 rfl (by decide +kernel) (fun w2 => d_eql rfl rfl) ?_   -- 32 (Op.binOp BinOp.eql 3 t29 t31 3)
    refine T_H 17 (by decide +kernel) rfl ?_
    --- 33 (Op.call {(Callee.value (Operand.func 27)), [t16, t20, t32], [31, 5, 4]})
    refine L_callB fn27 rfl (rput_calls h (by omega) (by omega)) ?_
    rintro _ w ⟨A33, c33, rfl, h⟩
    refine L_nil ?_
    refine T_H 18 (by decide +kernel) rfl ?_
    --- None (Op.store 31 t2 t33)
    first
      | refine L_storeBlk h (i := 0) (vs := [.int .i64 _, .slice _ _ _]) rfl sz31 rfl rfl (by simp [Value.oneCell']) rfl (fun w h => ?_)
      | refine L_storeBlk h (i := 1) (vs := [.int .i64 _, .slice _ _ _]) rfl sz31 rfl rfl (by simp [Value.oneCell']) rfl (fun w h => ?_)
      | refine L_storeBlk h (i := 2) (vs := [.int .i64 _, .slice _ _ _]) rfl sz31 rfl rfl (by simp [Value.oneCell']) rfl (fun w h => ?_)
      | refine L_storeBlk h (i := 3) (vs := [.int .i64 _, .slice _ _ _]) rfl sz31 rfl rfl (by simp [Value.oneCell']) rfl (fun w h => ?_)
      | refine L_storeBlk h (i := 4) (vs := [.int .i64 _, .slice _ _ _]) rfl sz31 rfl rfl (by simp [Value.oneCell']) rfl (fun w h => ?_)
      | refine L_storeBlk h (i := 5) (vs := [.int .i64 _, .slice _ _ _]) rfl sz31 rfl rfl (by simp [Value.oneCell']) rfl (fun w h => ?_)
      | refine L_storeBlk h (i := 6) (vs := [.int .i64 _, .slice _ _ _]) rfl sz31 rfl rfl (by simp [Value.oneCell']) rfl (fun w h => ?_)
      | refine L_storeBlk h (i := 7) (vs := [.int .i64 _, .slice _ _ _]) rfl sz31 rfl rfl (by simp [Value.oneCell']) rfl (fun w h => ?_)
    refine L_nil ?_
    refine T_end (by decide +kernel) ?_
    refine W_region ?_   -- region 4
    refine L_op (d_move (v := .int .i64 _) rfl) ?_   -- 14 (Op.move t7)
    refine L_op (d_add' (has_i64 (by omega) (by omega)) rfl rfl) ?_   -- 15 (Op.binOp BinOp.add 3 t14 ((1)) 3)
    refine L_op (d_assign (v := .int .i64 _) rfl) ?_   -- 7 (Op.assign t15)
    refine L_nil ?_
    have hD1 := fold_snoc hi2 hD
    rw [putB_eq] at hD1
    refine ⟨(i + 1, A33, c33), ⟨rfl, rfl, rfl, rfl, rfl, rfl, trivial⟩, ⟨?_, by dsimp only; omega⟩, by dsimp only; omega⟩
    dsimp only
    rw [hD1]
    exact h
  · -- c13 no
    refine W_exit (X_here ?_)
    refine W_seq ?_
    refine W_draw [.S, .S, .H, .H] [[], [], [0], [0, 1, 2]] mixed (by decide +kernel) (fun w b => ?_)   -- region 6
    replace h := h.keep b
    refine T_S 0 rfl (by decide +kernel) (fun w2 b2 => by first | exact d_loadBlk ag31 (h.keep b2) (i := 0) rfl rfl rfl | exact d_loadBlk ag31 (h.keep b2) (i := 1) rfl rfl rfl | exact d_loadBlk ag31 (h.keep b2) (i := 2) rfl rfl rfl | exact d_loadBlk ag31 (h.keep b2) (i := 3) rfl rfl rfl | exact d_loadBlk ag31 (h.keep b2) (i := 4) rfl rfl rfl | exact d_loadBlk ag31 (h.keep b2) (i := 5) rfl rfl rfl | exact d_loadBlk ag31 (h.keep b2) (i := 6) rfl rfl rfl | exact d_loadBlk ag31 (h.keep b2) (i := 7) rfl rfl rfl | exact d_loadBlk ag31 (h.keep b2) (i := 8) rfl rfl rfl) ?_   -- 34 (Op.load 31 t2)
    refine T_fork [1, 2] (by decide +kernel) ⟨fun o ho => ?_, fun o ho => ?_, trivial⟩
    · obtain rfl := Option.some.inj ho
      refine ⟨_, fun w2 b2 => .inl ⟨rfl, by rw [eval_act]; exact by first | exact d_loadBlk ag37 (h.keep b2) (i := 0) rfl rfl rfl | exact d_loadBlk ag37 (h.keep b2) (i := 1) rfl rfl rfl | exact d_loadBlk ag37 (h.keep b2) (i := 2) rfl rfl rfl | exact d_loadBlk ag37 (h.keep b2) (i := 3) rfl rfl rfl | exact d_loadBlk ag37 (h.keep b2) (i := 4) rfl rfl rfl | exact d_loadBlk ag37 (h.keep b2) (i := 5) rfl rfl rfl | exact d_loadBlk ag37 (h.keep b2) (i := 6) rfl rfl rfl | exact d_loadBlk ag37 (h.keep b2) (i := 7) rfl rfl rfl | exact d_loadBlk ag37 (h.keep b2) (i := 8) rfl rfl rfl⟩, ?_⟩   -- 35 (Op.load 37 t6)
      refine T_H 2 (by decide +kernel) rfl ?_
      --- None (Op.store 31 t4 t34)
      first
        | refine L_storeBlk h (i := 0) (vs := [.int .i64 _, .slice _ _ _]) rfl sz31 rfl rfl (by simp [Value.oneCell']) rfl (fun w h => ?_)
        | refine L_storeBlk h (i := 1) (vs := [.int .i64 _, .slice _ _ _]) rfl sz31 rfl rfl (by simp [Value.oneCell']) rfl (fun w h => ?_)
        | refine L_storeBlk h (i := 2) (vs := [.int .i64 _, .slice _ _ _]) rfl sz31 rfl rfl (by simp [Value.oneCell']) rfl (fun w h => ?_)
        | refine L_storeBlk h (i := 3) (vs := [.int .i64 _, .slice _ _ _]) rfl sz31 rfl rfl (by simp [Value.oneCell']) rfl (fun w h => ?_)
        | refine L_storeBlk h (i := 4) (vs := [.int .i64 _, .slice _ _ _]) rfl sz31 rfl rfl (by simp [Value.oneCell']) rfl (fun w h => ?_)
        | refine L_storeBlk h (i := 5) (vs := [.int .i64 _, .slice _ _ _]) rfl sz31 rfl rfl (by simp [Value.oneCell']) rfl (fun w h => ?_)
        | refine L_storeBlk h (i := 6) (vs := [.int .i64 _, .slice _ _ _]) rfl sz31 rfl rfl (by simp [Value.oneCell']) rfl (fun w h => ?_)
        | refine L_storeBlk h (i := 7) (vs := [.int .i64 _, .slice _ _ _]) rfl sz31 rfl rfl (by simp [Value.oneCell']) rfl (fun w h => ?_)
      refine L_nil ?_
      refine T_H 3 (by decide +kernel) rfl ?_
      --- None (Op.store 37 t5 t35)
      first
        | refine L_storeBlk h (i := 0) (vs := [.int .i64 _, .int .i64 _]) rfl sz37 rfl rfl (by simp [Value.oneCell']) rfl (fun w h => ?_)
        | refine L_storeBlk h (i := 1) (vs := [.int .i64 _, .int .i64 _]) rfl sz37 rfl rfl (by simp [Value.oneCell']) rfl (fun w h => ?_)
        | refine L_storeBlk h (i := 2) (vs := [.int .i64 _, .int .i64 _]) rfl sz37 rfl rfl (by simp [Value.oneCell']) rfl (fun w h => ?_)
        | refine L_storeBlk h (i := 3) (vs := [.int .i64 _, .int .i64 _]) rfl sz37 rfl rfl (by simp [Value.oneCell']) rfl (fun w h => ?_)
        | refine L_storeBlk h (i := 4) (vs := [.int .i64 _, .int .i64 _]) rfl sz37 rfl rfl (by simp [Value.oneCell']) rfl (fun w h => ?_)
        | refine L_storeBlk h (i := 5) (vs := [.int .i64 _, .int .i64 _]) rfl sz37 rfl rfl (by simp [Value.oneCell']) rfl (fun w h => ?_)
        | refine L_storeBlk h (i := 6) (vs := [.int .i64 _, .int .i64 _]) rfl sz37 rfl rfl (by simp [Value.oneCell']) rfl (fun w h => ?_)
        | refine L_storeBlk h (i := 7) (vs := [.int .i64 _, .int .i64 _]) rfl sz37 rfl rfl (by simp [Value.oneCell']) rfl (fun w h => ?_)
      refine L_nil ?_
      refine T_end (by decide +kernel) ?_
      obtain rfl : i = xs.length := by omega
      rw [List.take_length] at hD
      rw [hD]
      refine W_ret (RetV (resCC Try.f14 rfl ag31 ag37 h (i := 3) (j := 2) rfl rfl rfl rfl rfl rfl) ⟨A3, c3, rfl, ?_⟩)
      exact (((h.dropAt (i := 1) rfl).dropAt (i := 1) rfl).dropAt (i := 1) rfl).dropAt (i := 1) rfl
    · obtain rfl := Option.some.inj ho
      --- None (Op.store 31 t4 t34)
      first
        | refine L_storeBlk h (i := 0) (vs := [.int .i64 _, .slice _ _ _]) rfl sz31 rfl rfl (by simp [Value.oneCell']) rfl (fun w h => ?_)
        | refine L_storeBlk h (i := 1) (vs := [.int .i64 _, .slice _ _ _]) rfl sz31 rfl rfl (by simp [Value.oneCell']) rfl (fun w h => ?_)
        | refine L_storeBlk h (i := 2) (vs := [.int .i64 _, .slice _ _ _]) rfl sz31 rfl rfl (by simp [Value.oneCell']) rfl (fun w h => ?_)
        | refine L_storeBlk h (i := 3) (vs := [.int .i64 _, .slice _ _ _]) rfl sz31 rfl rfl (by simp [Value.oneCell']) rfl (fun w h => ?_)
        | refine L_storeBlk h (i := 4) (vs := [.int .i64 _, .slice _ _ _]) rfl sz31 rfl rfl (by simp [Value.oneCell']) rfl (fun w h => ?_)
        | refine L_storeBlk h (i := 5) (vs := [.int .i64 _, .slice _ _ _]) rfl sz31 rfl rfl (by simp [Value.oneCell']) rfl (fun w h => ?_)
        | refine L_storeBlk h (i := 6) (vs := [.int .i64 _, .slice _ _ _]) rfl sz31 rfl rfl (by simp [Value.oneCell']) rfl (fun w h => ?_)
        | refine L_storeBlk h (i := 7) (vs := [.int .i64 _, .slice _ _ _]) rfl sz31 rfl rfl (by simp [Value.oneCell']) rfl (fun w h => ?_)
      refine L_nil ?_
      refine T_S 1 rfl (by decide +kernel) (fun w2 b2 => by first | exact d_loadBlk ag37 (h.keep b2) (i := 0) rfl rfl rfl | exact d_loadBlk ag37 (h.keep b2) (i := 1) rfl rfl rfl | exact d_loadBlk ag37 (h.keep b2) (i := 2) rfl rfl rfl | exact d_loadBlk ag37 (h.keep b2) (i := 3) rfl rfl rfl | exact d_loadBlk ag37 (h.keep b2) (i := 4) rfl rfl rfl | exact d_loadBlk ag37 (h.keep b2) (i := 5) rfl rfl rfl | exact d_loadBlk ag37 (h.keep b2) (i := 6) rfl rfl rfl | exact d_loadBlk ag37 (h.keep b2) (i := 7) rfl rfl rfl | exact d_loadBlk ag37 (h.keep b2) (i := 8) rfl rfl rfl) ?_   -- 35 (Op.load 37 t6)
      refine T_H 3 (by decide +kernel) rfl ?_
      --- None (Op.store 37 t5 t35)
      first
        | refine L_storeBlk h (i := 0) (vs := [.int .i64 _, .int .i64 _]) rfl sz37 rfl rfl (by simp [Value.oneCell']) rfl (fun w h => ?_)
        | refine L_storeBlk h (i := 1) (vs := [.int .i64 _, .int .i64 _]) rfl sz37 rfl rfl (by simp [Value.oneCell']) rfl (fun w h => ?_)
        | refine L_storeBlk h (i := 2) (vs := [.int .i64 _, .int .i64 _]) rfl sz37 rfl rfl (by simp [Value.oneCell']) rfl (fun w h => ?_)
        | refine L_storeBlk h (i := 3) (vs := [.int .i64 _, .int .i64 _]) rfl sz37 rfl rfl (by simp [Value.oneCell']) rfl (fun w h => ?_)
        | refine L_storeBlk h (i := 4) (vs := [.int .i64 _, .int .i64 _]) rfl sz37 rfl rfl (by simp [Value.oneCell']) rfl (fun w h => ?_)
        | refine L_storeBlk h (i := 5) (vs := [.int .i64 _, .int .i64 _]) rfl sz37 rfl rfl (by simp [Value.oneCell']) rfl (fun w h => ?_)
        | refine L_storeBlk h (i := 6) (vs := [.int .i64 _, .int .i64 _]) rfl sz37 rfl rfl (by simp [Value.oneCell']) rfl (fun w h => ?_)
        | refine L_storeBlk h (i := 7) (vs := [.int .i64 _, .int .i64 _]) rfl sz37 rfl rfl (by simp [Value.oneCell']) rfl (fun w h => ?_)
      refine L_nil ?_
      refine T_end (by decide +kernel) ?_
      obtain rfl : i = xs.length := by omega
      rw [List.take_length] at hD
      rw [hD]
      refine W_ret (RetV (resCC Try.f14 rfl ag31 ag37 h (i := 3) (j := 2) rfl rfl rfl rfl rfl rfl) ⟨A3, c3, rfl, ?_⟩)
      exact (((h.dropAt (i := 1) rfl).dropAt (i := 1) rfl).dropAt (i := 1) rfl).dropAt (i := 1) rfl

set_option maxRecDepth 100000 in
theorem rrecord_calls {w0 w : World} {F : Nat → Prop} {L : List Asn} {A B : Option Addr} {c cb : Nat} {size : Int} {ini : List (List Int)} {lst xs : List Int} (h : St w0 F (roA A (ini ++ [lst]) :: L) w) (hb : FRd F w0 B (bys xs)) (hi : ini.length + xs.length ≤ 100000000000) (hl : lst.length + xs.length ≤ 100000000000) :
    Runs Try.prog 12 [.agg #[.int .i64 size, .slice A (ini ++ [lst]).length c], .slice B xs.length cb] w (fun v w' => ∃ A' c', v = .tuple #[.agg #[.int .i64 size, .slice A' (recI size ini lst xs ++ [recL size lst xs]).length c'], .agg #[.int .i64 (recD size ini lst xs), .int .i64 (recA size lst xs)], .int .i64 (recE size xs)] ∧ St w0 F (roA A' (recI size ini lst xs ++ [recL size lst xs]) :: L) w') := by
  have hrl : (ini ++ [lst]).length = ini.length + 1 := by simp
  refine Runs_of (N := 49) Try.func12 rfl rfl (by simp) ?_
  refine W_seq ?_
  refine W_region ?_   -- region 0
  --- 2 (Op.box 31 t0)
  refine L_box h [.int .i64 _, .slice _ _ _] rfl rfl (fun g2 w h b => ?_)
  --- 4 (Op.alloc 31)
  refine L_allocB h [.int .i64 0, .slice none 0 0] zi31 rfl (fun g4 w h b => ?_)
  --- 5 (Op.alloc 37)
  refine L_allocB h [.int .i64 0, .int .i64 0] zi37 rfl (fun g5 w h b => ?_)
  refine L_op (d_assign (v := .int .i64 _) rfl) ?_   -- 6 (Op.assign ((0)))
  refine L_nil ?_
  refine W_seq ?_   -- join1: live (1, b), (2, w), (4, _), (5, _)
  refine W_seq ?_
  refine W_region ?_   -- region 1
  refine L_op (d_move (v := .slice _ _ _) rfl) ?_   -- 9 (Op.move t1)
  refine L_op (d_lenB sl33 rfl) ?_   -- 10 (Op.call {(Callee.builtin Builtin.len), [t9], [33]})
  refine L_op (d_lss rfl rfl) ?_   -- 11 (Op.binOp BinOp.lss 3 t10 ((1)) 3)
  refine L_op (d_move (v := .bool _) rfl) ?_   -- 12 (Op.move t11)
  refine L_case (dj := 12) rfl (fun q12 => ?_) (fun q12 => ?_)
  · -- guard 12 true
    refine L_off rfl rfl rfl ?_   -- 13 (Op.move t1)
    refine L_off rfl rfl rfl ?_   -- 14 (Op.call {(Callee.builtin Builtin.len), [t13], [33]})
    refine L_off rfl rfl rfl ?_   -- 15 (Op.fieldAddr 31 t2 0)
    refine L_off rfl rfl rfl ?_   -- 16 (Op.load 3 t15)
    refine L_off rfl rfl rfl ?_   -- 17 (Op.binOp BinOp.gtr 3 t14 t16 3)
    refine L_op (d_pick (r := .bool _) rfl rfl) ?_   -- 18 (Op.pick t12 ((true)) t17)
    refine L_nil ?_
    refine W_true (rfl) ?_
    refine W_seq ?_
    refine W_region ?_   -- region 2
    refine L_op (by first | exact d_loadBlk ag31 (h) (i := 0) rfl rfl rfl | exact d_loadBlk ag31 (h) (i := 1) rfl rfl rfl | exact d_loadBlk ag31 (h) (i := 2) rfl rfl rfl | exact d_loadBlk ag31 (h) (i := 3) rfl rfl rfl | exact d_loadBlk ag31 (h) (i := 4) rfl rfl rfl | exact d_loadBlk ag31 (h) (i := 5) rfl rfl rfl | exact d_loadBlk ag31 (h) (i := 6) rfl rfl rfl | exact d_loadBlk ag31 (h) (i := 7) rfl rfl rfl | exact d_loadBlk ag31 (h) (i := 8) rfl rfl rfl) ?_   -- 19 (Op.load 31 t2)
    refine L_op (d_build (cs := #[.int .i64 _, .int .i64 _]) rfl rfl) ?_   -- 20 (Op.build 37 [])
    --- None (Op.store 31 t4 t19)
    first
      | refine L_storeBlk h (i := 0) (vs := [.int .i64 _, .slice _ _ _]) rfl sz31 rfl rfl (by simp [Value.oneCell']) rfl (fun w h => ?_)
      | refine L_storeBlk h (i := 1) (vs := [.int .i64 _, .slice _ _ _]) rfl sz31 rfl rfl (by simp [Value.oneCell']) rfl (fun w h => ?_)
      | refine L_storeBlk h (i := 2) (vs := [.int .i64 _, .slice _ _ _]) rfl sz31 rfl rfl (by simp [Value.oneCell']) rfl (fun w h => ?_)
      | refine L_storeBlk h (i := 3) (vs := [.int .i64 _, .slice _ _ _]) rfl sz31 rfl rfl (by simp [Value.oneCell']) rfl (fun w h => ?_)
      | refine L_storeBlk h (i := 4) (vs := [.int .i64 _, .slice _ _ _]) rfl sz31 rfl rfl (by simp [Value.oneCell']) rfl (fun w h => ?_)
      | refine L_storeBlk h (i := 5) (vs := [.int .i64 _, .slice _ _ _]) rfl sz31 rfl rfl (by simp [Value.oneCell']) rfl (fun w h => ?_)
      | refine L_storeBlk h (i := 6) (vs := [.int .i64 _, .slice _ _ _]) rfl sz31 rfl rfl (by simp [Value.oneCell']) rfl (fun w h => ?_)
      | refine L_storeBlk h (i := 7) (vs := [.int .i64 _, .slice _ _ _]) rfl sz31 rfl rfl (by simp [Value.oneCell']) rfl (fun w h => ?_)
    --- None (Op.store 37 t5 t20)
    first
      | refine L_storeBlk h (i := 0) (vs := [.int .i64 _, .int .i64 _]) rfl sz37 rfl rfl (by simp [Value.oneCell']) rfl (fun w h => ?_)
      | refine L_storeBlk h (i := 1) (vs := [.int .i64 _, .int .i64 _]) rfl sz37 rfl rfl (by simp [Value.oneCell']) rfl (fun w h => ?_)
      | refine L_storeBlk h (i := 2) (vs := [.int .i64 _, .int .i64 _]) rfl sz37 rfl rfl (by simp [Value.oneCell']) rfl (fun w h => ?_)
      | refine L_storeBlk h (i := 3) (vs := [.int .i64 _, .int .i64 _]) rfl sz37 rfl rfl (by simp [Value.oneCell']) rfl (fun w h => ?_)
      | refine L_storeBlk h (i := 4) (vs := [.int .i64 _, .int .i64 _]) rfl sz37 rfl rfl (by simp [Value.oneCell']) rfl (fun w h => ?_)
      | refine L_storeBlk h (i := 5) (vs := [.int .i64 _, .int .i64 _]) rfl sz37 rfl rfl (by simp [Value.oneCell']) rfl (fun w h => ?_)
      | refine L_storeBlk h (i := 6) (vs := [.int .i64 _, .int .i64 _]) rfl sz37 rfl rfl (by simp [Value.oneCell']) rfl (fun w h => ?_)
      | refine L_storeBlk h (i := 7) (vs := [.int .i64 _, .int .i64 _]) rfl sz37 rfl rfl (by simp [Value.oneCell']) rfl (fun w h => ?_)
    refine L_op (d_assign (v := .int .i64 _) rfl) ?_   -- 6 (Op.assign ((50)))
    refine L_nil ?_
    have hbad : xs.length = 0 ∨ (xs.length : Int) > size := .inl (by have := of_decide_eq_true q12; omega)
    simp only [recI, recL, recE, recD, recA, if_pos hbad]
    refine W_ret (RetV (resCCT Try.f12 rfl ag31 ag37 h (i := 1) (j := 0) rfl rfl rfl rfl rfl rfl rfl) ⟨A, c, rfl, ?_⟩)
    exact ((h.dropAt (i := 0) rfl).dropAt (i := 0) rfl).dropAt (i := 0) rfl
  · -- guard 12 false
    refine L_on rfl rfl rfl ?_
    refine L_op (d_move (v := .slice _ _ _) rfl) ?_   -- 13 (Op.move t1)
    refine L_on rfl rfl rfl ?_
    refine L_op (d_lenB sl33 rfl) ?_   -- 14 (Op.call {(Callee.builtin Builtin.len), [t13], [33]})
    refine L_on rfl rfl rfl ?_
    refine L_op (d_fieldAddrB fa31_0 rfl) ?_   -- 15 (Op.fieldAddr 31 t2 0)
    refine L_on rfl rfl rfl ?_
    refine L_op (d_loadB sc3 (v := .int .i64 _) rfl (by first | exact (h).cell (i := 0) rfl rfl | exact (h).cell (i := 1) rfl rfl | exact (h).cell (i := 2) rfl rfl | exact (h).cell (i := 3) rfl rfl | exact (h).cell (i := 4) rfl rfl | exact (h).cell (i := 5) rfl rfl | exact (h).cell (i := 6) rfl rfl | exact (h).cell (i := 7) rfl rfl | exact (h).cell (i := 8) rfl rfl)) ?_   -- 16 (Op.load 3 t15)
    refine L_on rfl rfl rfl ?_
    refine L_op (d_gtr rfl rfl) ?_   -- 17 (Op.binOp BinOp.gtr 3 t14 t16 3)
    refine L_op (d_pick (r := .bool _) rfl rfl) ?_   -- 18 (Op.pick t12 ((true)) t17)
    refine L_nil ?_
    refine W_if rfl (fun c18 => ?_) (fun c18 => ?_)
    · -- c18 yes
      refine W_seq ?_
      refine W_region ?_   -- region 2
      refine L_op (by first | exact d_loadBlk ag31 (h) (i := 0) rfl rfl rfl | exact d_loadBlk ag31 (h) (i := 1) rfl rfl rfl | exact d_loadBlk ag31 (h) (i := 2) rfl rfl rfl | exact d_loadBlk ag31 (h) (i := 3) rfl rfl rfl | exact d_loadBlk ag31 (h) (i := 4) rfl rfl rfl | exact d_loadBlk ag31 (h) (i := 5) rfl rfl rfl | exact d_loadBlk ag31 (h) (i := 6) rfl rfl rfl | exact d_loadBlk ag31 (h) (i := 7) rfl rfl rfl | exact d_loadBlk ag31 (h) (i := 8) rfl rfl rfl) ?_   -- 19 (Op.load 31 t2)
      refine L_op (d_build (cs := #[.int .i64 _, .int .i64 _]) rfl rfl) ?_   -- 20 (Op.build 37 [])
      --- None (Op.store 31 t4 t19)
      first
        | refine L_storeBlk h (i := 0) (vs := [.int .i64 _, .slice _ _ _]) rfl sz31 rfl rfl (by simp [Value.oneCell']) rfl (fun w h => ?_)
        | refine L_storeBlk h (i := 1) (vs := [.int .i64 _, .slice _ _ _]) rfl sz31 rfl rfl (by simp [Value.oneCell']) rfl (fun w h => ?_)
        | refine L_storeBlk h (i := 2) (vs := [.int .i64 _, .slice _ _ _]) rfl sz31 rfl rfl (by simp [Value.oneCell']) rfl (fun w h => ?_)
        | refine L_storeBlk h (i := 3) (vs := [.int .i64 _, .slice _ _ _]) rfl sz31 rfl rfl (by simp [Value.oneCell']) rfl (fun w h => ?_)
        | refine L_storeBlk h (i := 4) (vs := [.int .i64 _, .slice _ _ _]) rfl sz31 rfl rfl (by simp [Value.oneCell']) rfl (fun w h => ?_)
        | refine L_storeBlk h (i := 5) (vs := [.int .i64 _, .slice _ _ _]) rfl sz31 rfl rfl (by simp [Value.oneCell']) rfl (fun w h => ?_)
        | refine L_storeBlk h (i := 6) (vs := [.int .i64 _, .slice _ _ _]) rfl sz31 rfl rfl (by simp [Value.oneCell']) rfl (fun w h => ?_)
        | refine L_storeBlk h (i := 7) (vs := [.int .i64 _, .slice _ _ _]) rfl sz31 rfl rfl (by simp [Value.oneCell']) rfl (fun w h => ?_)
      --- None (Op.store 37 t5 t20)
      first
        | refine L_storeBlk h (i := 0) (vs := [.int .i64 _, .int .i64 _]) rfl sz37 rfl rfl (by simp [Value.oneCell']) rfl (fun w h => ?_)
        | refine L_storeBlk h (i := 1) (vs := [.int .i64 _, .int .i64 _]) rfl sz37 rfl rfl (by simp [Value.oneCell']) rfl (fun w h => ?_)
        | refine L_storeBlk h (i := 2) (vs := [.int .i64 _, .int .i64 _]) rfl sz37 rfl rfl (by simp [Value.oneCell']) rfl (fun w h => ?_)
        | refine L_storeBlk h (i := 3) (vs := [.int .i64 _, .int .i64 _]) rfl sz37 rfl rfl (by simp [Value.oneCell']) rfl (fun w h => ?_)
        | refine L_storeBlk h (i := 4) (vs := [.int .i64 _, .int .i64 _]) rfl sz37 rfl rfl (by simp [Value.oneCell']) rfl (fun w h => ?_)
        | refine L_storeBlk h (i := 5) (vs := [.int .i64 _, .int .i64 _]) rfl sz37 rfl rfl (by simp [Value.oneCell']) rfl (fun w h => ?_)
        | refine L_storeBlk h (i := 6) (vs := [.int .i64 _, .int .i64 _]) rfl sz37 rfl rfl (by simp [Value.oneCell']) rfl (fun w h => ?_)
        | refine L_storeBlk h (i := 7) (vs := [.int .i64 _, .int .i64 _]) rfl sz37 rfl rfl (by simp [Value.oneCell']) rfl (fun w h => ?_)
      refine L_op (d_assign (v := .int .i64 _) rfl) ?_   -- 6 (Op.assign ((50)))
      refine L_nil ?_
      have hbad : xs.length = 0 ∨ (xs.length : Int) > size := .inr (by omega)
      simp only [recI, recL, recE, recD, recA, if_pos hbad]
      refine W_ret (RetV (resCCT Try.f12 rfl ag31 ag37 h (i := 1) (j := 0) rfl rfl rfl rfl rfl rfl rfl) ⟨A, c, rfl, ?_⟩)
      exact ((h.dropAt (i := 0) rfl).dropAt (i := 0) rfl).dropAt (i := 0) rfl
    · -- c18 no
      refine W_skip ?_
      refine W_seq ?_
      refine W_region ?_   -- region 3
      refine L_op (by first | exact d_loadBlk ag31 (h) (i := 0) rfl rfl rfl | exact d_loadBlk ag31 (h) (i := 1) rfl rfl rfl | exact d_loadBlk ag31 (h) (i := 2) rfl rfl rfl | exact d_loadBlk ag31 (h) (i := 3) rfl rfl rfl | exact d_loadBlk ag31 (h) (i := 4) rfl rfl rfl | exact d_loadBlk ag31 (h) (i := 5) rfl rfl rfl | exact d_loadBlk ag31 (h) (i := 6) rfl rfl rfl | exact d_loadBlk ag31 (h) (i := 7) rfl rfl rfl | exact d_loadBlk ag31 (h) (i := 8) rfl rfl rfl) ?_   -- 21 (Op.load 31 t2)
      refine L_op (d_move (v := .slice _ _ _) rfl) ?_   -- 22 (Op.move t1)
      refine L_op (d_lenB sl33 rfl) ?_   -- 23 (Op.call {(Callee.builtin Builtin.len), [t22], [33]})
      --- 24 (Op.call {(Callee.value (Operand.func 18)), [t21, t23], [31, 3]})
      refine L_callB fn18 rfl (rnext_calls (ro_rd (i := 3) h rfl) (by omega) (by omega) (by omega)) ?_
      rintro _ w ⟨rfl, b⟩
      replace h := h.keep b
      --- 7 (Op.alloc 37)
      refine L_allocB h [.int .i64 0, .int .i64 0] zi37 rfl (fun g7 w h b => ?_)
      --- None (Op.store 37 t7 t24)
      first
        | refine L_storeBlk h (i := 0) (vs := [.int .i64 _, .int .i64 _]) rfl sz37 rfl rfl (by simp [Value.oneCell']) rfl (fun w h => ?_)
        | refine L_storeBlk h (i := 1) (vs := [.int .i64 _, .int .i64 _]) rfl sz37 rfl rfl (by simp [Value.oneCell']) rfl (fun w h => ?_)
        | refine L_storeBlk h (i := 2) (vs := [.int .i64 _, .int .i64 _]) rfl sz37 rfl rfl (by simp [Value.oneCell']) rfl (fun w h => ?_)
        | refine L_storeBlk h (i := 3) (vs := [.int .i64 _, .int .i64 _]) rfl sz37 rfl rfl (by simp [Value.oneCell']) rfl (fun w h => ?_)
        | refine L_storeBlk h (i := 4) (vs := [.int .i64 _, .int .i64 _]) rfl sz37 rfl rfl (by simp [Value.oneCell']) rfl (fun w h => ?_)
        | refine L_storeBlk h (i := 5) (vs := [.int .i64 _, .int .i64 _]) rfl sz37 rfl rfl (by simp [Value.oneCell']) rfl (fun w h => ?_)
        | refine L_storeBlk h (i := 6) (vs := [.int .i64 _, .int .i64 _]) rfl sz37 rfl rfl (by simp [Value.oneCell']) rfl (fun w h => ?_)
        | refine L_storeBlk h (i := 7) (vs := [.int .i64 _, .int .i64 _]) rfl sz37 rfl rfl (by simp [Value.oneCell']) rfl (fun w h => ?_)
      refine L_nil ?_
      refine W_seq ?_   -- join2: live (2, w), (4, _), (5, _), (7, p)
      refine W_seq ?_
      refine W_region ?_   -- region 4
      refine L_op (d_assign (v := .int .i64 _) rfl) ?_   -- 8 (Op.assign ((0)))
      refine L_nil ?_
      refine W_block ?_   -- block 0
      have hgood : ¬ (xs.length = 0 ∨ (xs.length : Int) > size) := by
        have := of_decide_eq_false q12
        omega
      obtain ⟨nx, hnx⟩ : ∃ nx, nx = decide (size - (lst.length : Int) < xs.length) := ⟨_, rfl⟩
      generalize hpd : (if (lst.length : Int) + xs.length > size then (ini.length : Int) + 1 else ini.length) = pd at h ⊢
      generalize hpa : (if (lst.length : Int) + xs.length > size then 0 else (lst.length : Int)) = pa at h ⊢
      have hnd : nx = decide (pd = ((ini ++ [lst]).length : Nat)) := by
        rw [hnx, hrl]
        by_cases hc : (lst.length : Int) + xs.length > size
        · rw [if_pos hc] at hpd
          have h2 : size - (lst.length : Int) < xs.length := by omega
          simp [h2, ← hpd]
        · rw [if_neg hc] at hpd
          have h2 : ¬ size - (lst.length : Int) < xs.length := by omega
          have h3 : ¬ pd = ((ini.length + 1 : Nat) : Int) := by omega
          rw [decide_eq_false h2, decide_eq_false h3]
      refine W_while (σ := Nat × Option Addr × Nat) (0, A, c) (fun s => [(1, .slice B xs.length cb), (2, .pointer (some ⟨g2, 0, none⟩)), (4, .pointer (some ⟨g4, 0, none⟩)), (5, .pointer (some ⟨g5, 0, none⟩)), (7, .pointer (some ⟨g7, 0, none⟩)), (8, .int .i64 s.1)])
        (fun s w1 => St w0 F (roA s.2.1 (rrI nx ini lst s.1 ++ [rrL nx lst xs s.1]) :: blk g7 37 [.int .i64 pd, .int .i64 pa] :: blk g5 37 [.int .i64 0, .int .i64 0] :: blk g4 31 [.int .i64 0, .slice none 0 0] :: blk g2 31 [.int .i64 size, .slice s.2.1 (rrI nx ini lst s.1 ++ [rrL nx lst xs s.1]).length s.2.2] :: L) w1 ∧ s.1 ≤ xs.length) (fun s => xs.length - s.1) ⟨rfl, rfl, rfl, rfl, rfl, rfl, trivial⟩ ⟨h.front (i := 4) rfl, Nat.zero_le _⟩ ?_
      rintro ⟨i, A3, c3⟩ w1 b_ ⟨h, hix⟩
      dsimp only at h hix ⊢
      have hf1 := rrI_len (nx := nx) (ini := ini) (lst := lst) (i := i)
      have hf2 := rrL_len (nx := nx) (xs := xs) (lst := lst) (i := i)
      have hrl2 : (rrI nx ini lst i ++ [rrL nx lst xs i]).length = (rrI nx ini lst i).length + 1 := by simp
      refine W_seq ?_   -- join3: live (1, b), (2, w), (4, _), (5, _), (7, p), (8, i)
      refine W_seq ?_
      refine W_region ?_   -- region 5
      refine L_op (d_move (v := .int .i64 _) rfl) ?_   -- 25 (Op.move t8)
      refine L_op (d_move (v := .slice _ _ _) rfl) ?_   -- 26 (Op.move t1)
      refine L_op (d_lenB sl33 rfl) ?_   -- 27 (Op.call {(Callee.builtin Builtin.len), [t26], [33]})
      refine L_op (d_lss rfl rfl) ?_   -- 28 (Op.binOp BinOp.lss 3 t25 t27 3)
      refine L_nil ?_
      refine W_if rfl (fun c28 => ?_) (fun c28 => ?_)
      · -- c28 yes
        have hi2 : i < xs.length := by omega
        obtain ⟨a, rfl⟩ := (hb.at h).addr (by rw [bys_length]; omega)
        refine W_skip ?_
        refine W_seq ?_   -- join4: live (1, b), (2, w), (4, _), (5, _), (7, p), (8, i)
        refine W_block ?_   -- block 1
        refine W_draw [.S, .P, .P, .P, .S, .P, .P, .P, .S, .S, .S, .S, .S, .S, .P, .H, .H] [[], [], [], [1, 2], [1, 2, 3], [], [5], [5, 6], [5, 6, 7], [5, 6, 7, 8], [5, 6, 7], [5, 6, 7, 10], [5, 6, 7, 10, 11], [5, 6, 7, 8, 9, 10, 11, 12], [5, 6, 7, 8, 9, 10, 11, 12, 13], [0, 1, 2, 3, 4, 5, 6, 7, 8, 9, 10, 11, 12, 13, 14], [0, 1, 2, 3, 4, 5, 6, 7, 8, 9, 10, 11, 12, 13, 14, 15]] mixed (by decide +kernel) (fun w b => ?_)   -- region 7
        replace h := h.keep b
        refine T_S 0 rfl (by decide +kernel) (fun w2 b2 => by first | exact d_loadBlk ag31 (h.keep b2) (i := 0) rfl rfl rfl | exact d_loadBlk ag31 (h.keep b2) (i := 1) rfl rfl rfl | exact d_loadBlk ag31 (h.keep b2) (i := 2) rfl rfl rfl | exact d_loadBlk ag31 (h.keep b2) (i := 3) rfl rfl rfl | exact d_loadBlk ag31 (h.keep b2) (i := 4) rfl rfl rfl | exact d_loadBlk ag31 (h.keep b2) (i := 5) rfl rfl rfl | exact d_loadBlk ag31 (h.keep b2) (i := 6) rfl rfl rfl | exact d_loadBlk ag31 (h.keep b2) (i := 7) rfl rfl rfl | exact d_loadBlk ag31 (h.keep b2) (i := 8) rfl rfl rfl) ?_   -- 31 (Op.load 31 t2)
        refine T_P 1 rfl (by decide +kernel) (fun w2 => d_move (v := .slice _ _ _) rfl) ?_   -- 32 (Op.move t1)
        refine T_P 2 rfl (by decide +kernel) (fun w2 => d_move (v := .int .i64 _) rfl) ?_   -- 33 (Op.move t8)
        refine T_P 3 rfl (by decide +kernel) (fun w2 => d_ix1 (m := i) sl33 rfl rfl rfl hi2) ?_   -- 34 (Op.indexAddr 33 t32 t33)
        refine T_S 4 rfl (by decide +kernel) (fun w2 b2 => d_loadB sc5 (v := .int .u8 _) rfl ((hb.at (h.keep b2)).cell (ints_get (List.getElem?_eq_getElem hi2)))) ?_   -- 35 (Op.load 5 t34)
        refine T_P 5 rfl (by decide +kernel) (fun w2 => d_move (v := .int .i64 _) rfl) ?_   -- 36 (Op.move t8)
        refine T_P 6 rfl (by decide +kernel) (fun w2 => d_eql rfl rfl) ?_   -- 37 (Op.binOp BinOp.eql 3 t36 ((0)) 3)
        refine T_P 7 rfl (by decide +kernel) (fun w2 => d_move (v := .bool _) rfl) ?_   -- 38 (Op.move t37)
        refine T_case (dj := 38) rfl (fun q38 => ?_) (fun q38 => ?_)
        · -- guard 38 true
          refine T_on 8 rfl (by decide +kernel) rfl rfl rfl (fun w2 b2 => d_fieldAddrB fa37_0 rfl) rfl ?_   -- 39 (Op.fieldAddr 37 t7 0)
          refine T_on 9 rfl (by decide +kernel) rfl rfl rfl (fun w2 b2 => d_loadB sc3 (v := .int .i64 _) rfl (by first | exact (h.keep b2).cell (i := 0) rfl rfl | exact (h.keep b2).cell (i := 1) rfl rfl | exact (h.keep b2).cell (i := 2) rfl rfl | exact (h.keep b2).cell (i := 3) rfl rfl | exact (h.keep b2).cell (i := 4) rfl rfl | exact (h.keep b2).cell (i := 5) rfl rfl | exact (h.keep b2).cell (i := 6) rfl rfl | exact (h.keep b2).cell (i := 7) rfl rfl | exact (h.keep b2).cell (i := 8) rfl rfl)) rfl ?_   -- 40 (Op.load 3 t39)
          refine T_on 10 rfl (by decide +kernel) rfl rfl rfl (fun w2 b2 => d_fieldAddrB fa31_1 rfl) rfl ?_   -- 41 (Op.fieldAddr 31 t2 1)
          refine T_on 11 rfl (by decide +kernel) rfl rfl rfl (fun w2 b2 => d_loadB sc29 (v := .slice _ _ _) rfl (by first | exact (h.keep b2).cell (i := 0) rfl rfl | exact (h.keep b2).cell (i := 1) rfl rfl | exact (h.keep b2).cell (i := 2) rfl rfl | exact (h.keep b2).cell (i := 3) rfl rfl | exact (h.keep b2).cell (i := 4) rfl rfl | exact (h.keep b2).cell (i := 5) rfl rfl | exact (h.keep b2).cell (i := 6) rfl rfl | exact (h.keep b2).cell (i := 7) rfl rfl | exact (h.keep b2).cell (i := 8) rfl rfl)) rfl ?_   -- 42 (Op.load 29 t41)
          refine T_on 12 rfl (by decide +kernel) rfl rfl rfl (fun w2 b2 => d_lenB sl29 rfl) rfl ?_   -- 43 (Op.call {(Callee.builtin Builtin.len), [t42], [29]})
          refine T_on 13 rfl (by decide +kernel) rfl rfl rfl (fun w2 b2 => d_eql rfl rfl) rfl ?_   -- 44 (Op.binOp BinOp.eql 3 t40 t43 3)
          refine T_P 14 rfl (by decide +kernel) (fun w2 => d_pick (r := .bool _) rfl rfl) ?_   -- 45 (Op.pick t38 t44 ((false)))
          refine T_H 15 (by decide +kernel) rfl ?_
          --- 46 (Op.call {(Callee.value (Operand.func 27)), [t31, t35, t45], [31, 5, 4]})
          refine L_callB fn27 rfl (rput_calls h (by omega) (by omega)) ?_
          rintro _ w ⟨A46, c46, rfl, h⟩
          refine L_nil ?_
          refine T_H 16 (by decide +kernel) rfl ?_
          --- None (Op.store 31 t2 t46)
          first
            | refine L_storeBlk h (i := 0) (vs := [.int .i64 _, .slice _ _ _]) rfl sz31 rfl rfl (by simp [Value.oneCell']) rfl (fun w h => ?_)
            | refine L_storeBlk h (i := 1) (vs := [.int .i64 _, .slice _ _ _]) rfl sz31 rfl rfl (by simp [Value.oneCell']) rfl (fun w h => ?_)
            | refine L_storeBlk h (i := 2) (vs := [.int .i64 _, .slice _ _ _]) rfl sz31 rfl rfl (by simp [Value.oneCell']) rfl (fun w h => ?_)
            | refine L_storeBlk h (i := 3) (vs := [.int .i64 _, .slice _ _ _]) rfl sz31 rfl rfl (by simp [Value.oneCell']) rfl (fun w h => ?_)
            | refine L_storeBlk h (i := 4) (vs := [.int .i64 _, .slice _ _ _]) rfl sz31 rfl rfl (by simp [Value.oneCell']) rfl (fun w h => ?_)
            | refine L_storeBlk h (i := 5) (vs := [.int .i64 _, .slice _ _ _]) rfl sz31 rfl rfl (by simp [Value.oneCell']) rfl (fun w h => ?_)
            | refine L_storeBlk h (i := 6) (vs := [.int .i64 _, .slice _ _ _]) rfl sz31 rfl rfl (by simp [Value.oneCell']) rfl (fun w h => ?_)
            | refine L_storeBlk h (i := 7) (vs := [.int .i64 _, .slice _ _ _]) rfl sz31 rfl rfl (by simp [Value.oneCell']) rfl (fun w h => ?_)
          refine L_nil ?_
          refine T_end (by decide +kernel) ?_
          refine W_region ?_   -- region 6
          refine L_op (d_move (v := .int .i64 _) rfl) ?_   -- 29 (Op.move t8)
          refine L_op (d_add' (has_i64 (by omega) (by omega)) rfl rfl) ?_   -- 30 (Op.binOp BinOp.add 3 t29 ((1)) 3)
          refine L_op (d_assign (v := .int .i64 _) rfl) ?_   -- 8 (Op.assign t30)
          refine L_nil ?_
          obtain ⟨bb, hbb, h⟩ : ∃ bb, bb = (decide (i = 0) && nx) ∧ St w0 F (roA A46 (putI bb (rrI nx ini lst i) (rrL nx lst xs i) ++ [putL bb (rrL nx lst xs i) ++ [xs[i]]]) :: blk g7 37 [.int .i64 pd, .int .i64 pa] :: blk g5 37 [.int .i64 0, .int .i64 0] :: blk g4 31 [.int .i64 0, .slice none 0 0] :: blk g2 31 [.int .i64 size, .slice A46 (putI bb (rrI nx ini lst i) (rrL nx lst xs i) ++ [putL bb (rrL nx lst xs i) ++ [xs[i]]]).length c46] :: L) w := by
            first
              | exact ⟨_, by
                  have h0 : i = 0 := by have := of_decide_eq_true q38; omega
                  subst h0
                  rw [hnd]
                  rfl, h⟩
              | exact ⟨_, by
                  have h0 : ¬ i = 0 := by have := of_decide_eq_false q38; omega
                  rw [decide_eq_false h0]
                  rfl, h⟩
          rw [rr_stepI hbb, rr_stepL hi2 hbb] at h
          exact ⟨(i + 1, A46, c46), ⟨rfl, rfl, rfl, rfl, rfl, rfl, trivial⟩, ⟨h, by dsimp only; omega⟩, by dsimp only; omega⟩
        · -- guard 38 false
          refine T_off 8 rfl (by decide +kernel) rfl rfl rfl ?_   -- 39 (Op.fieldAddr 37 t7 0)
          refine T_off 9 rfl (by decide +kernel) rfl rfl rfl ?_   -- 40 (Op.load 3 t39)
          refine T_off 10 rfl (by decide +kernel) rfl rfl rfl ?_   -- 41 (Op.fieldAddr 31 t2 1)
          refine T_off 11 rfl (by decide +kernel) rfl rfl rfl ?_   -- 42 (Op.load 29 t41)
          refine T_off 12 rfl (by decide +kernel) rfl rfl rfl ?_   -- 43 (Op.call {(Callee.builtin Builtin.len), [t42], [29]})
          refine T_off 13 rfl (by decide +kernel) rfl rfl rfl ?_   -- 44 (Op.binOp BinOp.eql 3 t40 t43 3)
          refine T_P 14 rfl (by decide +kernel) (fun w2 => d_pick (r := .bool _) rfl rfl) ?_   -- 45 (Op.pick t38 t44 ((false)))
          refine T_H 15 (by decide +kernel) rfl ?_
          --- 46 (Op.call {(Callee.value (Operand.func 27)), [t31, t35, t45], [31, 5, 4]})
          refine L_callB fn27 rfl (rput_calls h (by omega) (by omega)) ?_
          rintro _ w ⟨A46, c46, rfl, h⟩
          refine L_nil ?_
          refine T_H 16 (by decide +kernel) rfl ?_
          --- None (Op.store 31 t2 t46)
          first
            | refine L_storeBlk h (i := 0) (vs := [.int .i64 _, .slice _ _ _]) rfl sz31 rfl rfl (by simp [Value.oneCell']) rfl (fun w h => ?_)
            | refine L_storeBlk h (i := 1) (vs := [.int .i64 _, .slice _ _ _]) rfl sz31 rfl rfl (by simp [Value.oneCell']) rfl (fun w h => ?_)
            | refine L_storeBlk h (i := 2) (vs := [.int .i64 _, .slice _ _ _]) rfl sz31 rfl rfl (by simp [Value.oneCell']) rfl (fun w h => ?_)
            | refine L_storeBlk h (i := 3) (vs := [.int .i64 _, .slice _ _ _]) rfl sz31 rfl rfl (by simp [Value.oneCell']) rfl (fun w h => ?_)
            | refine L_storeBlk h (i := 4) (vs := [.int .i64 _, .slice _ _ _]) rfl sz31 rfl rfl (by simp [Value.oneCell']) rfl (fun w h => ?_)
            | refine L_storeBlk h (i := 5) (vs := [.int .i64 _, .slice _ _ _]) rfl sz31 rfl rfl (by simp [Value.oneCell']) rfl (fun w h => ?_)
            | refine L_storeBlk h (i := 6) (vs := [.int .i64 _, .slice _ _ _]) rfl sz31 rfl rfl (by simp [Value.oneCell']) rfl (fun w h => ?_)
            | refine L_storeBlk h (i := 7) (vs := [.int .i64 _, .slice _ _ _]) rfl sz31 rfl rfl (by simp [Value.oneCell']) rfl (fun w h => ?_)
          refine L_nil ?_
          refine T_end (by decide +kernel) ?_
          refine W_region ?_   -- region 6
          refine L_op (d_move (v := .int .i64 _) rfl) ?_   -- 29 (Op.move t8)
          refine L_op (d_add' (has_i64 (by omega) (by omega)) rfl rfl) ?_   -- 30 (Op.binOp BinOp.add 3 t29 ((1)) 3)
          refine L_op (d_assign (v := .int .i64 _) rfl) ?_   -- 8 (Op.assign t30)
          refine L_nil ?_
          obtain ⟨bb, hbb, h⟩ : ∃ bb, bb = (decide (i = 0) && nx) ∧ St w0 F (roA A46 (putI bb (rrI nx ini lst i) (rrL nx lst xs i) ++ [putL bb (rrL nx lst xs i) ++ [xs[i]]]) :: blk g7 37 [.int .i64 pd, .int .i64 pa] :: blk g5 37 [.int .i64 0, .int .i64 0] :: blk g4 31 [.int .i64 0, .slice none 0 0] :: blk g2 31 [.int .i64 size, .slice A46 (putI bb (rrI nx ini lst i) (rrL nx lst xs i) ++ [putL bb (rrL nx lst xs i) ++ [xs[i]]]).length c46] :: L) w := by
            first
              | exact ⟨_, by
                  have h0 : i = 0 := by have := of_decide_eq_true q38; omega
                  subst h0
                  rw [hnd]
                  rfl, h⟩
              | exact ⟨_, by
                  have h0 : ¬ i = 0 := by have := of_decide_eq_false q38; omega
                  rw [decide_eq_false h0]
                  rfl, h⟩
          rw [rr_stepI hbb, rr_stepL hi2 hbb] at h
          exact ⟨(i + 1, A46, c46), ⟨rfl, rfl, rfl, rfl, rfl, rfl, trivial⟩, ⟨h, by dsimp only; omega⟩, by dsimp only; omega⟩
      · -- c28 no
        refine W_exit (X_here ?_)
        refine W_seq ?_
        refine W_draw [.S, .S, .H, .H, .P] [[], [], [0], [0, 1, 2], [0, 1, 2, 3]] mixed (by decide +kernel) (fun w b => ?_)   -- region 8
        replace h := h.keep b
        refine T_S 0 rfl (by decide +kernel) (fun w2 b2 => by first | exact d_loadBlk ag31 (h.keep b2) (i := 0) rfl rfl rfl | exact d_loadBlk ag31 (h.keep b2) (i := 1) rfl rfl rfl | exact d_loadBlk ag31 (h.keep b2) (i := 2) rfl rfl rfl | exact d_loadBlk ag31 (h.keep b2) (i := 3) rfl rfl rfl | exact d_loadBlk ag31 (h.keep b2) (i := 4) rfl rfl rfl | exact d_loadBlk ag31 (h.keep b2) (i := 5) rfl rfl rfl | exact d_loadBlk ag31 (h.keep b2) (i := 6) rfl rfl rfl | exact d_loadBlk ag31 (h.keep b2) (i := 7) rfl rfl rfl | exact d_loadBlk ag31 (h.keep b2) (i := 8) rfl rfl rfl) ?_   -- 47 (Op.load 31 t2)
        refine T_fork [1, 2] (by decide +kernel) ⟨fun o ho => ?_, fun o ho => ?_, trivial⟩
        · obtain rfl := Option.some.inj ho
          refine ⟨_, fun w2 b2 => .inl ⟨rfl, by rw [eval_act]; exact by first | exact d_loadBlk ag37 (h.keep b2) (i := 0) rfl rfl rfl | exact d_loadBlk ag37 (h.keep b2) (i := 1) rfl rfl rfl | exact d_loadBlk ag37 (h.keep b2) (i := 2) rfl rfl rfl | exact d_loadBlk ag37 (h.keep b2) (i := 3) rfl rfl rfl | exact d_loadBlk ag37 (h.keep b2) (i := 4) rfl rfl rfl | exact d_loadBlk ag37 (h.keep b2) (i := 5) rfl rfl rfl | exact d_loadBlk ag37 (h.keep b2) (i := 6) rfl rfl rfl | exact d_loadBlk ag37 (h.keep b2) (i := 7) rfl rfl rfl | exact d_loadBlk ag37 (h.keep b2) (i := 8) rfl rfl rfl⟩, ?_⟩   -- 48 (Op.load 37 t7)
          refine T_H 2 (by decide +kernel) rfl ?_
          --- None (Op.store 31 t4 t47)
          first
            | refine L_storeBlk h (i := 0) (vs := [.int .i64 _, .slice _ _ _]) rfl sz31 rfl rfl (by simp [Value.oneCell']) rfl (fun w h => ?_)
            | refine L_storeBlk h (i := 1) (vs := [.int .i64 _, .slice _ _ _]) rfl sz31 rfl rfl (by simp [Value.oneCell']) rfl (fun w h => ?_)
            | refine L_storeBlk h (i := 2) (vs := [.int .i64 _, .slice _ _ _]) rfl sz31 rfl rfl (by simp [Value.oneCell']) rfl (fun w h => ?_)
            | refine L_storeBlk h (i := 3) (vs := [.int .i64 _, .slice _ _ _]) rfl sz31 rfl rfl (by simp [Value.oneCell']) rfl (fun w h => ?_)
            | refine L_storeBlk h (i := 4) (vs := [.int .i64 _, .slice _ _ _]) rfl sz31 rfl rfl (by simp [Value.oneCell']) rfl (fun w h => ?_)
            | refine L_storeBlk h (i := 5) (vs := [.int .i64 _, .slice _ _ _]) rfl sz31 rfl rfl (by simp [Value.oneCell']) rfl (fun w h => ?_)
            | refine L_storeBlk h (i := 6) (vs := [.int .i64 _, .slice _ _ _]) rfl sz31 rfl rfl (by simp [Value.oneCell']) rfl (fun w h => ?_)
            | refine L_storeBlk h (i := 7) (vs := [.int .i64 _, .slice _ _ _]) rfl sz31 rfl rfl (by simp [Value.oneCell']) rfl (fun w h => ?_)
          refine L_nil ?_
          refine T_H 3 (by decide +kernel) rfl ?_
          --- None (Op.store 37 t5 t48)
          first
            | refine L_storeBlk h (i := 0) (vs := [.int .i64 _, .int .i64 _]) rfl sz37 rfl rfl (by simp [Value.oneCell']) rfl (fun w h => ?_)
            | refine L_storeBlk h (i := 1) (vs := [.int .i64 _, .int .i64 _]) rfl sz37 rfl rfl (by simp [Value.oneCell']) rfl (fun w h => ?_)
            | refine L_storeBlk h (i := 2) (vs := [.int .i64 _, .int .i64 _]) rfl sz37 rfl rfl (by simp [Value.oneCell']) rfl (fun w h => ?_)
            | refine L_storeBlk h (i := 3) (vs := [.int .i64 _, .int .i64 _]) rfl sz37 rfl rfl (by simp [Value.oneCell']) rfl (fun w h => ?_)
            | refine L_storeBlk h (i := 4) (vs := [.int .i64 _, .int .i64 _]) rfl sz37 rfl rfl (by simp [Value.oneCell']) rfl (fun w h => ?_)
            | refine L_storeBlk h (i := 5) (vs := [.int .i64 _, .int .i64 _]) rfl sz37 rfl rfl (by simp [Value.oneCell']) rfl (fun w h => ?_)
            | refine L_storeBlk h (i := 6) (vs := [.int .i64 _, .int .i64 _]) rfl sz37 rfl rfl (by simp [Value.oneCell']) rfl (fun w h => ?_)
            | refine L_storeBlk h (i := 7) (vs := [.int .i64 _, .int .i64 _]) rfl sz37 rfl rfl (by simp [Value.oneCell']) rfl (fun w h => ?_)
          refine L_nil ?_
          refine T_P 4 rfl (by decide +kernel) (fun w2 => d_assign (v := .int .i64 _) rfl) ?_   -- 6 (Op.assign ((0)))
          refine T_end (by decide +kernel) ?_
          obtain rfl : i = xs.length := by omega
          rw [hnx, rr_endI hgood, rr_endL hgood] at h
          have ed : recD size ini lst xs = pd := by
            rw [recD, if_neg hgood, placeD, ← hpd]
            by_cases hc : (lst.length : Int) + xs.length > size
            · rw [if_pos hc, if_pos (by omega)]
            · rw [if_neg hc, if_neg (by omega)]
          have ea : recA size lst xs = pa := by
            rw [recA, if_neg hgood, placeA, ← hpa]
            by_cases hc : (lst.length : Int) + xs.length > size
            · rw [if_pos hc, if_pos (by omega)]
            · rw [if_neg hc, if_neg (by omega)]
          have ee : recE size xs = 0 := by rw [recE, if_neg hgood]
          rw [ed, ea, ee]
          refine W_ret (RetV (resCCT Try.f12 rfl ag31 ag37 h (i := 3) (j := 2) rfl rfl rfl rfl rfl rfl rfl) ⟨A3, c3, rfl, ?_⟩)
          exact (((h.dropAt (i := 1) rfl).dropAt (i := 1) rfl).dropAt (i := 1) rfl).dropAt (i := 1) rfl
        · obtain rfl := Option.some.inj ho
          --- None (Op.store 31 t4 t47)
          first
            | refine L_storeBlk h (i := 0) (vs := [.int .i64 _, .slice _ _ _]) rfl sz31 rfl rfl (by simp [Value.oneCell']) rfl (fun w h => ?_)
            | refine L_storeBlk h (i := 1) (vs := [.int .i64 _, .slice _ _ _]) rfl sz31 rfl rfl (by simp [Value.oneCell']) rfl (fun w h => ?_)
            | refine L_storeBlk h (i := 2) (vs := [.int .i64 _, .slice _ _ _]) rfl sz31 rfl rfl (by simp [Value.oneCell']) rfl (fun w h => ?_)
            | refine L_storeBlk h (i := 3) (vs := [.int .i64 _, .slice _ _ _]) rfl sz31 rfl rfl (by simp [Value.oneCell']) rfl (fun w h => ?_)
            | refine L_storeBlk h (i := 4) (vs := [.int .i64 _, .slice _ _ _]) rfl sz31 rfl rfl (by simp [Value.oneCell']) rfl (fun w h => ?_)
            | refine L_storeBlk h (i := 5) (vs := [.int .i64 _, .slice _ _ _]) rfl sz31 rfl rfl (by simp [Value.oneCell']) rfl (fun w h => ?_)
            | refine L_storeBlk h (i := 6) (vs := [.int .i64 _, .slice _ _ _]) rfl sz31 rfl rfl (by simp [Value.oneCell']) rfl (fun w h => ?_)
            | refine L_storeBlk h (i := 7) (vs := [.int .i64 _, .slice _ _ _]) rfl sz31 rfl rfl (by simp [Value.oneCell']) rfl (fun w h => ?_)
          refine L_nil ?_
          refine T_S 1 rfl (by decide +kernel) (fun w2 b2 => by first | exact d_loadBlk ag37 (h.keep b2) (i := 0) rfl rfl rfl | exact d_loadBlk ag37 (h.keep b2) (i := 1) rfl rfl rfl | exact d_loadBlk ag37 (h.keep b2) (i := 2) rfl rfl rfl | exact d_loadBlk ag37 (h.keep b2) (i := 3) rfl rfl rfl | exact d_loadBlk ag37 (h.keep b2) (i := 4) rfl rfl rfl | exact d_loadBlk ag37 (h.keep b2) (i := 5) rfl rfl rfl | exact d_loadBlk ag37 (h.keep b2) (i := 6) rfl rfl rfl | exact d_loadBlk ag37 (h.keep b2) (i := 7) rfl rfl rfl | exact d_loadBlk ag37 (h.keep b2) (i := 8) rfl rfl rfl) ?_   -- 48 (Op.load 37 t7)
          refine T_H 3 (by decide +kernel) rfl ?_
          --- None (Op.store 37 t5 t48)
          first
            | refine L_storeBlk h (i := 0) (vs := [.int .i64 _, .int .i64 _]) rfl sz37 rfl rfl (by simp [Value.oneCell']) rfl (fun w h => ?_)
            | refine L_storeBlk h (i := 1) (vs := [.int .i64 _, .int .i64 _]) rfl sz37 rfl rfl (by simp [Value.oneCell']) rfl (fun w h => ?_)
            | refine L_storeBlk h (i := 2) (vs := [.int .i64 _, .int .i64 _]) rfl sz37 rfl rfl (by simp [Value.oneCell']) rfl (fun w h => ?_)
            | refine L_storeBlk h (i := 3) (vs := [.int .i64 _, .int .i64 _]) rfl sz37 rfl rfl (by simp [Value.oneCell']) rfl (fun w h => ?_)
            | refine L_storeBlk h (i := 4) (vs := [.int .i64 _, .int .i64 _]) rfl sz37 rfl rfl (by simp [Value.oneCell']) rfl (fun w h => ?_)
            | refine L_storeBlk h (i := 5) (vs := [.int .i64 _, .int .i64 _]) rfl sz37 rfl rfl (by simp [Value.oneCell']) rfl (fun w h => ?_)
            | refine L_storeBlk h (i := 6) (vs := [.int .i64 _, .int .i64 _]) rfl sz37 rfl rfl (by simp [Value.oneCell']) rfl (fun w h => ?_)
            | refine L_storeBlk h (i := 7) (vs := [.int .i64 _, .int .i64 _]) rfl sz37 rfl rfl (by simp [Value.oneCell']) rfl (fun w h => ?_)
          refine L_nil ?_
          refine T_P 4 rfl (by decide +kernel) (fun w2 => d_assign (v := .int .i64 _) rfl) ?_   -- 6 (Op.assign ((0)))
          refine T_end (by decide +kernel) ?_
          obtain rfl : i = xs.length := by omega
          rw [hnx, rr_endI hgood, rr_endL hgood] at h
          have ed : recD size ini lst xs = pd := by
            rw [recD, if_neg hgood, placeD, ← hpd]
            by_cases hc : (lst.length : Int) + xs.length > size
            · rw [if_pos hc, if_pos (by omega)]
            · rw [if_neg hc, if_neg (by omega)]
          have ea : recA size lst xs = pa := by
            rw [recA, if_neg hgood, placeA, ← hpa]
            by_cases hc : (lst.length : Int) + xs.length > size
            · rw [if_pos hc, if_pos (by omega)]
            · rw [if_neg hc, if_neg (by omega)]
          have ee : recE size xs = 0 := by rw [recE, if_neg hgood]
          rw [ed, ea, ee]
          refine W_ret (RetV (resCCT Try.f12 rfl ag31 ag37 h (i := 3) (j := 2) rfl rfl rfl rfl rfl rfl rfl) ⟨A3, c3, rfl, ?_⟩)
          exact (((h.dropAt (i := 1) rfl).dropAt (i := 1) rfl).dropAt (i := 1) rfl).dropAt (i := 1) rfl
end Go.Proofs.Ytbhjdbkdnandfaa.Sp
