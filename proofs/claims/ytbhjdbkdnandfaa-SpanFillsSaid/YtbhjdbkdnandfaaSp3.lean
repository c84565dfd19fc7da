/- Walks of the functions 11,13, printed by wip/fw/walk.py out of sp.py. -/
import Derived.Test.YtbhjdbkdnandfaaSp2
namespace Go.Proofs.Ytbhjdbkdnandfaa.Sp
open Go Go.RowKit Go.Fw Go.Fw.Asn Go.Proofs
set_option linter.unusedVariables false
set_option maxRecDepth 100000 in
theorem record_calls {w0 w : World} {F : Nat → Prop} {L : List Asn} {gp : Nat} {size : Int} {ini : List (List Int)} {lst : List Int} (h : St w0 F (wrA gp size ini lst :: L) w) {cb : Nat} {xs : List Int} {A : Option Addr} (hb : FRd F w0 A (bys xs)) (hs0 : 0 ≤ size) (hs1 : size ≤ 140737488355328) (hi : ini.length ≤ 1000000000000) (hl : lst.length + xs.length ≤ 140737488355328) :
    Runs Try.prog 11 [.pointer (some ⟨gp, 0, none⟩), .slice A xs.length cb] w (fun v w' => v = .tuple #[.agg #[.int .i64 (recD size ini lst xs), .int .i64 (recA size lst xs)], .int .i64 (recE size xs)] ∧ St w0 F (wrA gp size (recI size ini lst xs) (recL size lst xs) :: L) w') := by
  obtain ⟨gr, c, A1, k1, hb1, hv1, hk1⟩ := wr_reads h (i := 0) rfl
  refine Runs_of (N := 28) Try.func11 rfl rfl (by simp) ?_
  refine W_seq ?_
  refine W_region ?_   -- region 0
  --- 4 (Op.alloc 37)
  refine L_allocB h [.int .i64 0, .int .i64 0] zi37 rfl (fun g4 w h b => ?_)
  replace hb1 := blk_keep hb1 b
  replace hv1 := cell_keep hv1 b
  refine L_op (d_assign (v := .int .i64 _) rfl) ?_   -- 5 (Op.assign ((0)))
  refine L_nil ?_
  refine W_seq ?_   -- join1: live (0, w), (1, b), (4, _)
  refine W_seq ?_
  refine W_region ?_   -- region 1
  refine L_op (d_move (v := .slice _ _ _) rfl) ?_   -- 7 (Op.move t1)
  refine L_op (d_lenB sl33 rfl) ?_   -- 8 (Op.call {(Callee.builtin Builtin.len), [t7], [33]})
  refine L_op (d_eql rfl rfl) ?_   -- 9 (Op.binOp BinOp.eql 3 t8 ((0)) 3)
  refine L_op (d_move (v := .bool _) rfl) ?_   -- 10 (Op.move t9)
  refine L_case (dj := 10) rfl (fun q10 => ?_) (fun q10 => ?_)
  · -- guard 10 true
    refine L_off rfl rfl rfl ?_   -- 11 (Op.move t1)
    refine L_off rfl rfl rfl ?_   -- 12 (Op.call {(Callee.builtin Builtin.len), [t11], [33]})
    refine L_off rfl rfl rfl ?_   -- 13 (Op.move t0)
    refine L_off rfl rfl rfl ?_   -- 14 (Op.nilCheck t13)
    refine L_off rfl rfl rfl ?_   -- 15 (Op.fieldAddr 61 t14 0)
    refine L_off rfl rfl rfl ?_   -- 16 (Op.load 3 t15)
    refine L_off rfl rfl rfl ?_   -- 17 (Op.binOp BinOp.gtr 3 t12 t16 3)
    refine L_op (d_pick (r := .bool _) rfl rfl) ?_   -- 18 (Op.pick t10 ((true)) t17)
    refine L_nil ?_
    refine W_true (rfl) ?_
    refine W_seq ?_
    refine W_region ?_   -- region 2
    refine L_op (d_build (cs := #[.int .i64 _, .int .i64 _]) rfl rfl) ?_   -- 19 (Op.build 37 [])
    --- None (Op.store 37 t4 t19)
    first
      | refine L_storeBlk h (i := 0) (vs := [.int .i64 _, .int .i64 _]) rfl sz37 rfl rfl (by simp [Value.oneCell']) rfl (fun w h => ?_)
      | refine L_storeBlk h (i := 1) (vs := [.int .i64 _, .int .i64 _]) rfl sz37 rfl rfl (by simp [Value.oneCell']) rfl (fun w h => ?_)
      | refine L_storeBlk h (i := 2) (vs := [.int .i64 _, .int .i64 _]) rfl sz37 rfl rfl (by simp [Value.oneCell']) rfl (fun w h => ?_)
      | refine L_storeBlk h (i := 3) (vs := [.int .i64 _, .int .i64 _]) rfl sz37 rfl rfl (by simp [Value.oneCell']) rfl (fun w h => ?_)
      | refine L_storeBlk h (i := 4) (vs := [.int .i64 _, .int .i64 _]) rfl sz37 rfl rfl (by simp [Value.oneCell']) rfl (fun w h => ?_)
      | refine L_storeBlk h (i := 5) (vs := [.int .i64 _, .int .i64 _]) rfl sz37 rfl rfl (by simp [Value.oneCell']) rfl (fun w h => ?_)
      | refine L_storeBlk h (i := 6) (vs := [.int .i64 _, .int .i64 _]) rfl sz37 rfl rfl (by simp [Value.oneCell']) rfl (fun w h => ?_)
      | refine L_storeBlk h (i := 7) (vs := [.int .i64 _, .int .i64 _]) rfl sz37 rfl rfl (by simp [Value.oneCell']) rfl (fun w h => ?_)
    refine L_op (d_assign (v := .int .i64 _) rfl) ?_   -- 5 (Op.assign ((50)))
    refine L_nil ?_
    have hbad : xs.length = 0 ∨ (xs.length : Int) > size := .inl (by have := of_decide_eq_true q10; omega)
    refine W_ret (RetV (resCT Try.f11 rfl ag37 h (i := 0) rfl rfl rfl rfl) ⟨?_, ?_⟩)
    · rw [recD, recA, recE, if_pos hbad, if_pos hbad, if_pos hbad]; rfl
    · rw [recI, recL, if_pos hbad, if_pos hbad]; exact h.drop
  · -- guard 10 false
    refine L_on rfl rfl rfl ?_
    refine L_op (d_move (v := .slice _ _ _) rfl) ?_   -- 11 (Op.move t1)
    refine L_on rfl rfl rfl ?_
    refine L_op (d_lenB sl33 rfl) ?_   -- 12 (Op.call {(Callee.builtin Builtin.len), [t11], [33]})
    refine L_on rfl rfl rfl ?_
    refine L_op (d_move (v := .pointer _) rfl) ?_   -- 13 (Op.move t0)
    refine L_on rfl rfl rfl ?_
    refine L_op (d_nilCheck rfl) ?_   -- 14 (Op.nilCheck t13)
    refine L_on rfl rfl rfl ?_
    refine L_op (d_fieldAddrB fa61_0 rfl) ?_   -- 15 (Op.fieldAddr 61 t14 0)
    refine L_on rfl rfl rfl ?_
    refine L_op (d_loadB sc3 (v := .int .i64 _) rfl (blk_cell hb1 rfl)) ?_   -- 16 (Op.load 3 t15)
    refine L_on rfl rfl rfl ?_
    refine L_op (d_gtr rfl rfl) ?_   -- 17 (Op.binOp BinOp.gtr 3 t12 t16 3)
    refine L_op (d_pick (r := .bool _) rfl rfl) ?_   -- 18 (Op.pick t10 ((true)) t17)
    refine L_nil ?_
    refine W_if rfl (fun c18 => ?_) (fun c18 => ?_)
    · -- c18 yes
      refine W_seq ?_
      refine W_region ?_   -- region 2
      refine L_op (d_build (cs := #[.int .i64 _, .int .i64 _]) rfl rfl) ?_   -- 19 (Op.build 37 [])
      --- None (Op.store 37 t4 t19)
      first
        | refine L_storeBlk h (i := 0) (vs := [.int .i64 _, .int .i64 _]) rfl sz37 rfl rfl (by simp [Value.oneCell']) rfl (fun w h => ?_)
        | refine L_storeBlk h (i := 1) (vs := [.int .i64 _, .int .i64 _]) rfl sz37 rfl rfl (by simp [Value.oneCell']) rfl (fun w h => ?_)
        | refine L_storeBlk h (i := 2) (vs := [.int .i64 _, .int .i64 _]) rfl sz37 rfl rfl (by simp [Value.oneCell']) rfl (fun w h => ?_)
        | refine L_storeBlk h (i := 3) (vs := [.int .i64 _, .int .i64 _]) rfl sz37 rfl rfl (by simp [Value.oneCell']) rfl (fun w h => ?_)
        | refine L_storeBlk h (i := 4) (vs := [.int .i64 _, .int .i64 _]) rfl sz37 rfl rfl (by simp [Value.oneCell']) rfl (fun w h => ?_)
        | refine L_storeBlk h (i := 5) (vs := [.int .i64 _, .int .i64 _]) rfl sz37 rfl rfl (by simp [Value.oneCell']) rfl (fun w h => ?_)
        | refine L_storeBlk h (i := 6) (vs := [.int .i64 _, .int .i64 _]) rfl sz37 rfl rfl (by simp [Value.oneCell']) rfl (fun w h => ?_)
        | refine L_storeBlk h (i := 7) (vs := [.int .i64 _, .int .i64 _]) rfl sz37 rfl rfl (by simp [Value.oneCell']) rfl (fun w h => ?_)
      refine L_op (d_assign (v := .int .i64 _) rfl) ?_   -- 5 (Op.assign ((50)))
      refine L_nil ?_
      have hbad : xs.length = 0 ∨ (xs.length : Int) > size := .inr c18
      refine W_ret (RetV (resCT Try.f11 rfl ag37 h (i := 0) rfl rfl rfl rfl) ⟨?_, ?_⟩)
      · rw [recD, recA, recE, if_pos hbad, if_pos hbad, if_pos hbad]; rfl
      · rw [recI, recL, if_pos hbad, if_pos hbad]; exact h.drop
    · -- c18 no
      refine W_skip ?_
      refine W_seq ?_
      refine W_region ?_   -- region 3
      refine L_op (d_move (v := .pointer _) rfl) ?_   -- 20 (Op.move t0)
      refine L_op (d_move (v := .slice _ _ _) rfl) ?_   -- 21 (Op.move t1)
      refine L_op (d_lenB sl33 rfl) ?_   -- 22 (Op.call {(Callee.builtin Builtin.len), [t21], [33]})
      have hgood : ¬ (xs.length = 0 ∨ (xs.length : Int) > size) := by
        have := of_decide_eq_false q10
        omega
      --- 23 (Op.call {(Callee.value (Operand.func 25)), [t20, t22], [25, 3]})
      refine L_callB fn25 rfl (place_calls hb1 hv1 (by omega) hs0 hs1 (by omega) _) ?_
      rintro _ w ⟨rfl, b⟩
      replace h := h.keep b
      --- 6 (Op.alloc 37)
      refine L_allocB h [.int .i64 0, .int .i64 0] zi37 rfl (fun g6 w h b => ?_)
      --- None (Op.store 37 t6 t23)
      first
        | refine L_storeBlk h (i := 0) (vs := [.int .i64 _, .int .i64 _]) rfl sz37 rfl rfl (by simp [Value.oneCell']) rfl (fun w h => ?_)
        | refine L_storeBlk h (i := 1) (vs := [.int .i64 _, .int .i64 _]) rfl sz37 rfl rfl (by simp [Value.oneCell']) rfl (fun w h => ?_)
        | refine L_storeBlk h (i := 2) (vs := [.int .i64 _, .int .i64 _]) rfl sz37 rfl rfl (by simp [Value.oneCell']) rfl (fun w h => ?_)
        | refine L_storeBlk h (i := 3) (vs := [.int .i64 _, .int .i64 _]) rfl sz37 rfl rfl (by simp [Value.oneCell']) rfl (fun w h => ?_)
        | refine L_storeBlk h (i := 4) (vs := [.int .i64 _, .int .i64 _]) rfl sz37 rfl rfl (by simp [Value.oneCell']) rfl (fun w h => ?_)
        | refine L_storeBlk h (i := 5) (vs := [.int .i64 _, .int .i64 _]) rfl sz37 rfl rfl (by simp [Value.oneCell']) rfl (fun w h => ?_)
        | refine L_storeBlk h (i := 6) (vs := [.int .i64 _, .int .i64 _]) rfl sz37 rfl rfl (by simp [Value.oneCell']) rfl (fun w h => ?_)
        | refine L_storeBlk h (i := 7) (vs := [.int .i64 _, .int .i64 _]) rfl sz37 rfl rfl (by simp [Value.oneCell']) rfl (fun w h => ?_)
      refine L_nil ?_
      refine W_seq ?_
      refine W_region ?_   -- region 4
      refine L_op (d_move (v := .pointer _) rfl) ?_   -- 24 (Op.move t0)
      refine L_op (d_move (v := .slice _ _ _) rfl) ?_   -- 25 (Op.move t1)
      --- 26 (Op.call {(Callee.value (Operand.func 26)), [t24, t25], [25, 33]})
      refine L_callB fn26 rfl (lay_calls h.up2 hb hs0 hs1 hi hl) ?_
      intro v26 w h
      refine L_nil ?_
      refine W_seq ?_
      refine W_region ?_   -- region 5
      refine L_op (d_loadBlk ag37 h (i := 1) rfl rfl rfl) ?_   -- 27 (Op.load 37 t6)
      --- None (Op.store 37 t4 t27)
      first
        | refine L_storeBlk h (i := 0) (vs := [.int .i64 _, .int .i64 _]) rfl sz37 rfl rfl (by simp [Value.oneCell']) rfl (fun w h => ?_)
        | refine L_storeBlk h (i := 1) (vs := [.int .i64 _, .int .i64 _]) rfl sz37 rfl rfl (by simp [Value.oneCell']) rfl (fun w h => ?_)
        | refine L_storeBlk h (i := 2) (vs := [.int .i64 _, .int .i64 _]) rfl sz37 rfl rfl (by simp [Value.oneCell']) rfl (fun w h => ?_)
        | refine L_storeBlk h (i := 3) (vs := [.int .i64 _, .int .i64 _]) rfl sz37 rfl rfl (by simp [Value.oneCell']) rfl (fun w h => ?_)
        | refine L_storeBlk h (i := 4) (vs := [.int .i64 _, .int .i64 _]) rfl sz37 rfl rfl (by simp [Value.oneCell']) rfl (fun w h => ?_)
        | refine L_storeBlk h (i := 5) (vs := [.int .i64 _, .int .i64 _]) rfl sz37 rfl rfl (by simp [Value.oneCell']) rfl (fun w h => ?_)
        | refine L_storeBlk h (i := 6) (vs := [.int .i64 _, .int .i64 _]) rfl sz37 rfl rfl (by simp [Value.oneCell']) rfl (fun w h => ?_)
        | refine L_storeBlk h (i := 7) (vs := [.int .i64 _, .int .i64 _]) rfl sz37 rfl rfl (by simp [Value.oneCell']) rfl (fun w h => ?_)
      refine L_op (d_assign (v := .int .i64 _) rfl) ?_   -- 5 (Op.assign ((0)))
      refine L_nil ?_
      refine W_ret (RetV (resCT Try.f11 rfl ag37 h (i := 2) rfl rfl rfl rfl) ⟨?_, ?_⟩)
      · rw [recD, recA, recE, if_neg hgood, if_neg hgood, if_neg hgood]; rfl
      · rw [recI, recL, if_neg hgood, if_neg hgood]; exact (h.dropAt (i := 1) rfl).dropAt (i := 1) rfl

set_option maxRecDepth 100000 in
theorem data_calls {w0 w : World} {F : Nat → Prop} {L : List Asn} {gp : Nat} {size : Int} {ini : List (List Int)} {lst : List Int} (h : St w0 F (wrA gp size ini lst :: L) w) {cb : Nat} {xs : List Int} {A : Option Addr} (hb : FRd F w0 A (bys xs)) (hcb : xs.length ≤ cb) (hs0 : 0 < size) (hs1 : size ≤ 70368744177664) (hi : ini.length + xs.length ≤ 1000000000000) (hl : (lst.length : Int) ≤ size)  :
    Runs Try.prog 13 [.pointer (some ⟨gp, 0, none⟩), .slice A xs.length cb] w (fun v w' => v = .agg #[.int .i64 (placeD size ini lst 1), .int .i64 (placeA size lst 1)] ∧ St w0 F (wrA gp size (xs.foldl (putB size) (ini, lst)).1 (xs.foldl (putB size) (ini, lst)).2 :: L) w') := by
  obtain ⟨gr, c, A1, k1, hb1, hv1, hk1⟩ := wr_reads h (i := 0) rfl
  refine Runs_of (N := 33) Try.func13 rfl rfl (by simp) ?_
  refine W_seq ?_
  refine W_region ?_   -- region 0
  --- 4 (Op.alloc 37)
  refine L_allocB h [.int .i64 0, .int .i64 0] zi37 rfl (fun g4 w h b => ?_)
  replace hb1 := blk_keep hb1 b
  replace hv1 := cell_keep hv1 b
  refine L_nil ?_
  refine W_seq ?_
  refine W_region ?_   -- region 1
  refine L_op (d_move (v := .pointer _) rfl) ?_   -- 7 (Op.move t0)
  --- 8 (Op.call {(Callee.value (Operand.func 25)), [t7, ((1))], [25, 3]})
  refine L_callB fn25 rfl (place_calls hb1 hv1 (by omega) (by omega) (by omega) (by omega) _) ?_
  rintro _ w ⟨rfl, b⟩
  replace h := h.keep b
  --- 5 (Op.alloc 37)
  refine L_allocB h [.int .i64 0, .int .i64 0] zi37 rfl (fun g5 w h b => ?_)
  --- None (Op.store 37 t5 t8)
  first
    | refine L_storeBlk h (i := 0) (vs := [.int .i64 _, .int .i64 _]) rfl sz37 rfl rfl (by simp [Value.oneCell']) rfl (fun w h => ?_)
    | refine L_storeBlk h (i := 1) (vs := [.int .i64 _, .int .i64 _]) rfl sz37 rfl rfl (by simp [Value.oneCell']) rfl (fun w h => ?_)
    | refine L_storeBlk h (i := 2) (vs := [.int .i64 _, .int .i64 _]) rfl sz37 rfl rfl (by simp [Value.oneCell']) rfl (fun w h => ?_)
    | refine L_storeBlk h (i := 3) (vs := [.int .i64 _, .int .i64 _]) rfl sz37 rfl rfl (by simp [Value.oneCell']) rfl (fun w h => ?_)
    | refine L_storeBlk h (i := 4) (vs := [.int .i64 _, .int .i64 _]) rfl sz37 rfl rfl (by simp [Value.oneCell']) rfl (fun w h => ?_)
    | refine L_storeBlk h (i := 5) (vs := [.int .i64 _, .int .i64 _]) rfl sz37 rfl rfl (by simp [Value.oneCell']) rfl (fun w h => ?_)
    | refine L_storeBlk h (i := 6) (vs := [.int .i64 _, .int .i64 _]) rfl sz37 rfl rfl (by simp [Value.oneCell']) rfl (fun w h => ?_)
    | refine L_storeBlk h (i := 7) (vs := [.int .i64 _, .int .i64 _]) rfl sz37 rfl rfl (by simp [Value.oneCell']) rfl (fun w h => ?_)
  refine L_nil ?_
  refine W_seq ?_   -- join1: live (4, _), (5, p)
  refine W_block ?_   -- block 0
  refine W_while (σ := Vol × Option Addr × Nat × List Int) ((ini, lst), A, cb, xs) (fun s => [(0, .pointer (some ⟨gp, 0, none⟩)), (1, .slice s.2.1 s.2.2.2.length s.2.2.1), (4, .pointer (some ⟨g4, 0, none⟩)), (5, .pointer (some ⟨g5, 0, none⟩))])
    (fun s w => St w0 F (wrA gp size s.1.1 s.1.2 :: blk g5 37 [.int .i64 (placeD size ini lst 1), .int .i64 (placeA size lst 1)] :: blk g4 37 [.int .i64 0, .int .i64 0] :: L) w ∧ FRd F w0 s.2.1 (bys s.2.2.2) ∧ s.2.2.2.length ≤ s.2.2.1 ∧ s.2.2.2.foldl (putB size) s.1 = xs.foldl (putB size) (ini, lst) ∧ (s.1.2.length : Int) ≤ size ∧ s.1.1.length + s.2.2.2.length ≤ ini.length + xs.length)
    (fun s => s.2.2.2.length) ⟨rfl, rfl, rfl, rfl, trivial⟩ ⟨h.up2, hb, hcb, rfl, hl, Nat.le_refl _⟩ ?_
  rintro ⟨⟨ini1, lst1⟩, A2, c2, ys⟩ w b_ ⟨h, hb2, hc2, hf, hl1, hi1⟩
  dsimp only at h hb2 hc2 hf hl1 hi1 ⊢
  obtain ⟨gr2, c3, A3, k3, hb3, hv3, hk3⟩ := wr_reads h (i := 0) rfl
  refine W_seq ?_   -- join2: live (0, w), (1, b), (4, _), (5, p)
  refine W_seq ?_
  refine W_region ?_   -- region 2
  refine L_op (d_move (v := .slice _ _ _) rfl) ?_   -- 9 (Op.move t1)
  refine L_op (d_lenB sl33 rfl) ?_   -- 10 (Op.call {(Callee.builtin Builtin.len), [t9], [33]})
  refine L_op (d_gtr rfl rfl) ?_   -- 11 (Op.binOp BinOp.gtr 3 t10 ((0)) 3)
  refine L_nil ?_
  refine W_if rfl (fun c11 => ?_) (fun c11 => ?_)
  · -- c11 yes
    refine W_skip ?_
    refine W_block ?_   -- block 1
    refine W_seq ?_
    refine W_region ?_   -- region 3
    refine L_op (d_move (v := .pointer _) rfl) ?_   -- 12 (Op.move t0)
    --- 13 (Op.call {(Callee.value (Operand.func 28)), [t12], [25]})
    refine L_callB fn28 rfl (room_calls hb3 hv3 (by omega) (by omega) (by omega) (by omega)) ?_
    rintro _ w ⟨rfl, b⟩
    replace h := h.keep b
    replace hb3 := blk_keep hb3 b
    refine L_op (d_assign (v := .int .i64 _) rfl) ?_   -- 6 (Op.assign t13)
    refine L_nil ?_
    refine W_join (σ := Unit) (fun _ => [(0, .pointer (some ⟨gp, 0, none⟩)), (1, .slice A2 ys.length c2), (4, .pointer (some ⟨g4, 0, none⟩)), (5, .pointer (some ⟨g5, 0, none⟩)), (6, .int .i64 (if size - (lst1.length : Int) = 0 then size else size - lst1.length))]) (fun _ w => St w0 F (wrA gp size ini1 lst1 :: blk g5 37 [.int .i64 (placeD size ini lst 1), .int .i64 (placeA size lst 1)] :: blk g4 37 [.int .i64 0, .int .i64 0] :: L) w) ?_ ?_
    · -- ahead
      refine W_seq ?_
      refine W_region ?_   -- region 4
      refine L_op (d_move (v := .int .i64 _) rfl) ?_   -- 14 (Op.move t6)
      refine L_op (d_eql rfl rfl) ?_   -- 15 (Op.binOp BinOp.eql 3 t14 ((0)) 3)
      refine L_nil ?_
      refine W_if rfl (fun c15 => ?_) (fun c15 => ?_)
      · -- c15 yes
        refine W_region ?_   -- region 5
        refine L_op (d_move (v := .pointer _) rfl) ?_   -- 16 (Op.move t0)
        refine L_op (d_nilCheck rfl) ?_   -- 17 (Op.nilCheck t16)
        refine L_op (d_fieldAddrB fa61_0 rfl) ?_   -- 18 (Op.fieldAddr 61 t17 0)
        refine L_op (d_loadB sc3 (v := .int .i64 _) rfl (blk_cell hb3 rfl)) ?_   -- 19 (Op.load 3 t18)
        refine L_op (d_assign (v := .int .i64 _) rfl) ?_   -- 6 (Op.assign t19)
        refine L_nil ?_
        refine ⟨(), ⟨rfl, rfl, rfl, rfl, ?_, trivial⟩, h⟩
        first
          | (rw [if_pos c15]; rfl)
          | (rw [if_neg c15]; rfl)
      · -- c15 no
        refine W_skip ?_
        refine ⟨(), ⟨rfl, rfl, rfl, rfl, ?_, trivial⟩, h⟩
        first
          | (rw [if_pos c15]; rfl)
          | (rw [if_neg c15]; rfl)
    · -- behind
      clear hb3
      rintro _ w b2_ h
      generalize hn : (if size - (lst1.length : Int) = 0 then size else size - (lst1.length : Int)) = nn
      have hnn : (size - (lst1.length : Int) = 0 ∧ nn = size) ∨ (size - (lst1.length : Int) ≠ 0 ∧ nn = size - lst1.length) := by
        split at hn <;> omega
      clear hn
      obtain ⟨m, hm⟩ : ∃ m : Nat, (m : Int) = min nn ys.length := ⟨(min nn ys.length).toNat, by omega⟩
      have hm1 : m ≤ ys.length := by omega
      have hm0 : 0 < m := by omega
      have hm2 : ((ys.take m).length : Int) ≤ size - lst1.length ∨ ((lst1.length : Int) = size ∧ ys.take m ≠ [] ∧ ((ys.take m).length : Int) ≤ size) := by
        rw [List.length_take]
        rcases hnn with e | e
        · refine .inr ⟨by omega, fun h0 => ?_, by omega⟩
          have := congrArg List.length h0
          rw [List.length_take, List.length_nil] at this
          omega
        · exact .inl (by omega)
      have hm3 : ((ys.take m).length : Int) ≤ size := by rcases hm2 with h0 | h0 <;> omega
      refine W_seq ?_
      refine W_region ?_   -- region 6
      refine L_op (d_move (v := .int .i64 _) rfl) ?_   -- 20 (Op.move t6)
      refine L_op (d_move (v := .slice _ _ _) rfl) ?_   -- 21 (Op.move t1)
      refine L_op (d_lenB sl33 rfl) ?_   -- 22 (Op.call {(Callee.builtin Builtin.len), [t21], [33]})
      --- 23 (Op.call {(Callee.builtin Builtin.min), [t20, t22], [3, 3]})
      refine L_op (v := .int .i64 ((m : Nat) : Int)) (by rw [hm]; exact d_min rfl rfl) ?_
      refine L_op (d_assign (v := .int .i64 _) rfl) ?_   -- 6 (Op.assign t23)
      refine L_nil ?_
      refine W_seq ?_
      refine W_region ?_   -- region 7
      refine L_op (d_move (v := .pointer _) rfl) ?_   -- 24 (Op.move t0)
      refine L_op (d_move (v := .slice _ _ _) rfl) ?_   -- 25 (Op.move t1)
      refine L_op (d_move (v := .int .i64 _) rfl) ?_   -- 26 (Op.move t6)
      --- 27 (Op.slice 33 t25 none (some t26) none)
      refine L_op (v := .slice A2 (ys.take m).length c2) (by rw [show (ys.take m).length = ((m : Nat) : Int).toNat from by simp; omega]; exact d_sliceToB sl33 rfl rfl (by omega) (by omega)) ?_
      --- 28 (Op.call {(Callee.value (Operand.func 26)), [t24, t27], [25, 33]})
      refine L_callB fn26 rfl (lay_calls (xs := ys.take m) h (by rw [bys, ints_take]; exact hb2.take m) (by omega) (by omega) (by omega) (by omega)) ?_
      intro v28 w h
      refine L_nil ?_
      refine W_region ?_   -- region 8
      refine L_op (d_move (v := .slice _ _ _) rfl) ?_   -- 29 (Op.move t1)
      refine L_op (d_move (v := .int .i64 _) rfl) ?_   -- 30 (Op.move t6)
      --- 31 (Op.slice 33 t29 (some t30) none none)
      refine L_op (v := .slice (if c2 = m then A2 else A2.map (·.add (m * 1))) (ys.drop m).length (c2 - m)) (by rw [List.length_drop]; exact d_sliceFromB (i := ((m : Nat) : Int)) sl33 rfl rfl (by omega) (by omega)) ?_
      refine L_op (d_assign (v := .slice _ (ys.drop m).length _) rfl) ?_   -- 1 (Op.assign t31)
      refine L_nil ?_
      have hlay := lay_fold (ini := ini1) hm2
      have hI := layI_le (size := size) (ini := ini1) (lst := lst1) (xs := ys.take m)
      refine ⟨((layI size ini1 lst1 (ys.take m), layL size lst1 (ys.take m)), (if c2 = m then A2 else A2.map (·.add (m * 1))), c2 - m, ys.drop m), ⟨rfl, rfl, rfl, rfl, trivial⟩, ⟨h, rd_from hb2 hc2, ?_, (fold_drop m _ hlay).trans hf, layL_le hl1 hm3, ?_⟩, ?_⟩
      · dsimp only; rw [List.length_drop]; omega
      · dsimp only; rw [List.length_drop]; omega
      · dsimp only; rw [List.length_drop]; omega
  · -- c11 no
    refine W_exit (X_here ?_)
    refine W_seq ?_
    refine W_region ?_   -- region 9
    refine L_op (d_loadBlk ag37 h (i := 1) rfl rfl rfl) ?_   -- 32 (Op.load 37 t5)
    --- None (Op.store 37 t4 t32)
    refine L_storeBlk h (i := 2) (vs := [.int .i64 _, .int .i64 _]) rfl sz37 rfl rfl (by simp [Value.oneCell']) rfl (fun w h => ?_)
    refine L_nil ?_
    have hnil : ys = [] := List.eq_nil_of_length_eq_zero (by omega)
    subst hnil
    refine W_ret (RetV (resC Try.f13 rfl ag37 h (i := 2) rfl rfl rfl) ⟨rfl, ?_⟩)
    rw [← hf]
    exact (h.dropAt (i := 1) rfl).dropAt (i := 1) rfl
end Go.Proofs.Ytbhjdbkdnandfaa.Sp
