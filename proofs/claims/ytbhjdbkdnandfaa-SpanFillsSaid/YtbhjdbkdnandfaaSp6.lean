/- Walks of the functions 27,10,18, printed by wip/fw/walk.py out of sp4.py. -/
import Derived.Test.YtbhjdbkdnandfaaSp5
namespace Go.Proofs.Ytbhjdbkdnandfaa.Sp
open Go Go.RowKit Go.Fw Go.Fw.Asn Go.Proofs
set_option linter.unusedVariables false
set_option maxRecDepth 100000 in
theorem rput_calls {w0 w : World} {F : Nat → Prop} {L : List Asn} {A : Option Addr} {c : Nat} {size x : Int} {ini : List (List Int)} {lst : List Int} {nx : Bool} (h : St w0 F (roA A (ini ++ [lst]) :: L) w) (hi : ini.length ≤ 1000000000000) (hl : lst.length ≤ 1000000000000) :
    Runs Try.prog 27 [.agg #[.int .i64 size, .slice A (ini ++ [lst]).length c], .int .u8 x, .bool nx] w (fun v w' => ∃ A' c', v = .agg #[.int .i64 size, .slice A' (putI nx ini lst ++ [putL nx lst ++ [x]]).length c'] ∧ St w0 F (roA A' (putI nx ini lst ++ [putL nx lst ++ [x]]) :: L) w') := by
  have hrl : (ini ++ [lst]).length = ini.length + 1 := by simp
  refine Runs_of (N := 37) Try.func27 rfl rfl (by simp) ?_
  refine W_seq ?_
  refine W_region ?_   -- region 0
  --- 3 (Op.box 31 t0)
  refine L_box h [.int .i64 _, .slice _ _ _] rfl rfl (fun g3 w h b => ?_)
  --- 6 (Op.alloc 31)
  refine L_allocB h [.int .i64 0, .slice none 0 0] zi31 rfl (fun g6 w h b => ?_)
  refine L_nil ?_
  refine W_seq ?_
  refine W_region ?_   -- region 1
  --- 9 (Op.buildSlice 29 0 [])
  refine L_buildSlice h [] [] Try.underlying29 zs33 rfl rfl rfl rfl (by decide) (by decide) (fun g9 w h b => ?_)
  refine L_op (d_assign (v := .slice _ _ _) rfl) ?_   -- 7 (Op.assign t9)
  refine L_nil ?_
  refine W_seq ?_
  refine W_region ?_   -- region 2
  refine L_op (d_move (v := .slice _ _ _) rfl) ?_   -- 10 (Op.move t7)
  refine L_op (d_fieldAddrB fa31_1 rfl) ?_   -- 11 (Op.fieldAddr 31 t3 1)
  obtain ⟨vs, hvs, hA, h⟩ := ro_open (h.front (i := 3) rfl)
  have hone := roV_one (i := 0) h rfl
  refine L_op (d_loadB sc29 (v := .slice _ _ _) rfl (h.cell (i := 3) rfl rfl)) ?_   -- 12 (Op.load 29 t11)
  --- 13 (Op.call {(Callee.builtin Builtin.append), [t10, t12], [29, 29]})
  refine L_appendRd h (i := 1) rfl Try.underlying29 info33 rfl (by decide) (by decide) rfl rfl (by simp [hvs]) hA hone (by omega) (fun v13 w h => ?_)
  obtain ⟨A13, c13, rfl, _⟩ := (h.rowAt (i := 1) rfl).slice
  refine L_op (d_assign (v := .slice _ _ _) rfl) ?_   -- 7 (Op.assign t13)
  refine L_nil ?_
  refine W_join (σ := Option Addr × Nat × List Value) (fun s => [(1, .int .u8 x), (3, .pointer (some ⟨g3, 0, none⟩)), (6, .pointer (some ⟨g6, 0, none⟩)), (7, .slice s.1 (putI nx ini lst ++ [putL nx lst]).length s.2.1)])
    (fun s w => St w0 F (row 33 1 (.slice s.1 (putI nx ini lst ++ [putL nx lst]).length s.2.1) (putI nx ini lst ++ [putL nx lst]).length s.2.2 :: roV s.2.2 (putI nx ini lst ++ [putL nx lst]) :: blk g6 31 [.int .i64 0, .slice none 0 0] :: blk g3 31 [.int .i64 size, .slice A (ini ++ [lst]).length c] :: L) w) ?_ ?_
  · -- ahead
    refine W_seq ?_
    refine W_region ?_   -- region 3
    refine L_op (d_move (v := .bool _) rfl) ?_   -- 14 (Op.move t2)
    refine L_nil ?_
    refine W_cond rfl (fun c14 => ?_) (fun c14 => ?_)
    · -- c14 yes
      refine W_region ?_   -- region 4
      refine L_op (d_move (v := .slice _ _ _) rfl) ?_   -- 15 (Op.move t7)
      --- 16 (Op.buildSlice 33 0 [])
      refine L_buildSlice h [] [] Try.underlying33 zs5 rfl rfl rfl rfl (by decide) (by decide) (fun g16 w h b => ?_)
      --- 17 (Op.buildSlice 29 1 [(0, t16)])
      refine L_buildSlice h [.slice _ _ _] [.slice _ _ _] Try.underlying29 zs33 rfl rfl rfl rfl (by decide) (by decide) (fun g17 w h b => ?_)
      --- 18 (Op.call {(Callee.builtin Builtin.append), [t15, t17], [29, 29]})
      refine L_appendRd h (i := 3) rfl Try.underlying29 info33 rfl (by decide) (by decide) rfl rfl (by simp) (h.rowAt (i := 0) rfl).rd (by simp [Value.oneCell']) (by omega) (fun v18 w h => ?_)
      obtain ⟨A18, c18, rfl, _⟩ := (h.rowAt (i := 3) rfl).slice
      refine L_op (d_assign (v := .slice _ _ _) rfl) ?_   -- 7 (Op.assign t18)
      refine L_nil ?_
      first
        | (have e1 : putI nx ini lst ++ [putL nx lst] = ini ++ [lst] := by simp [putI, putL, c14]
           rw [e1]
           refine ⟨(A13, c13, vs), ⟨rfl, rfl, rfl, by show Value.slice A13 (0 + (ini ++ [lst]).length) c13 = Value.slice A13 (ini ++ [lst]).length c13; rw [Nat.zero_add], trivial⟩, ?_⟩
           rw [Nat.zero_add, List.nil_append] at h
           exact h.up1)
        | (have e1 : putI nx ini lst ++ [putL nx lst] = (ini ++ [lst]) ++ [[]] := by simp [putI, putL, c14]
           have e2 : 0 + (ini ++ [lst]).length + 1 = ((ini ++ [lst]) ++ [[]]).length := by simp
           rw [e1]
           refine ⟨(A18, c18, vs ++ [.slice (some ⟨g16, 0, none⟩) 0 0]), ⟨rfl, rfl, rfl, by dsimp only; rw [← e2]; rfl, trivial⟩, ?_⟩
           have h1 := roV_snoc (xs := []) (n' := 0) (Nat.le_refl _) ((h.dropAt (i := 0) rfl).up1)
           rw [e2, List.nil_append] at h1
           exact h1.up1)
    · -- c14 no
      refine W_skip ?_
      first
        | (have e1 : putI nx ini lst ++ [putL nx lst] = ini ++ [lst] := by simp [putI, putL, c14]
           rw [e1]
           refine ⟨(A13, c13, vs), ⟨rfl, rfl, rfl, by show Value.slice A13 (0 + (ini ++ [lst]).length) c13 = Value.slice A13 (ini ++ [lst]).length c13; rw [Nat.zero_add], trivial⟩, ?_⟩
           rw [Nat.zero_add, List.nil_append] at h
           exact h.up1)
        | (have e1 : putI nx ini lst ++ [putL nx lst] = (ini ++ [lst]) ++ [[]] := by simp [putI, putL, c14]
           have e2 : 0 + (ini ++ [lst]).length + 1 = ((ini ++ [lst]) ++ [[]]).length := by simp
           rw [e1]
           refine ⟨(A18, c18, vs ++ [.slice (some ⟨g16, 0, none⟩) 0 0]), ⟨rfl, rfl, rfl, by dsimp only; rw [← e2]; rfl, trivial⟩, ?_⟩
           have h1 := roV_snoc (xs := []) (n' := 0) (Nat.le_refl _) ((h.dropAt (i := 0) rfl).up1)
           rw [e2, List.nil_append] at h1
           exact h1.up1)
  · -- behind
    rintro ⟨A7, c7, vs7⟩ w b_ h
    dsimp only at h ⊢
    have hpi := putI_len (nx := nx) (ini := ini) (lst := lst)
    have hpl := putL_len (nx := nx) (lst := lst)
    generalize putI nx ini lst = pi at h hpi ⊢
    generalize putL nx lst = pl at h hpl ⊢
    obtain ⟨vi, vl, rfl, hvi⟩ := snoc_split vs7 pi.length (by have := roV_len h (i := 1) rfl; simpa using this)
    obtain ⟨Al, cl, rfl, hcl, hrl7⟩ := roV_last hvi h (i := 1) rfl
    have hlen : (pi ++ [pl]).length = pi.length + 1 := by simp
    obtain ⟨g7, k7, e7⟩ := (h.rowAt (i := 0) rfl).form (by omega)
    injection e7 with e7 e8 e9
    subst e7
    refine W_seq ?_
    refine W_region ?_   -- region 5
    refine L_op (d_move (v := .slice _ _ _) rfl) ?_   -- 19 (Op.move t7)
    refine L_op (d_lenB sl29 rfl) ?_   -- 20 (Op.call {(Callee.builtin Builtin.len), [t19], [29]})
    refine L_op (d_sub' (has_i64 (by omega) (by omega)) rfl rfl) ?_   -- 21 (Op.binOp BinOp.sub 3 t20 ((1)) 3)
    refine L_op (d_assign (v := .int .i64 _) rfl) ?_   -- 8 (Op.assign t21)
    refine L_nil ?_
    refine W_seq ?_
    refine W_region ?_   -- region 6
    refine L_op (d_move (v := .slice _ _ _) rfl) ?_   -- 22 (Op.move t7)
    refine L_op (d_move (v := .int .i64 _) rfl) ?_   -- 23 (Op.move t8)
    refine L_op (d_move (v := .slice _ _ _) rfl) ?_   -- 24 (Op.move t7)
    refine L_op (d_move (v := .int .i64 _) rfl) ?_   -- 25 (Op.move t8)
    refine L_op (d_ixOwn1 (m := pi.length) sl29 rfl rfl (by omega) (by omega)) ?_   -- 26 (Op.indexAddr 29 t24 t25)
    refine L_op (d_loadB sc33 (v := .slice _ _ _) rfl ((h.rowAt (i := 0) rfl).cell (j := pi.length) (u := .slice Al pl.length cl) (by rw [← hvi]; simp))) ?_   -- 27 (Op.load 33 t26)
    refine L_op (d_move (v := .int .u8 _) rfl) ?_   -- 28 (Op.move t1)
    --- 29 (Op.buildSlice 33 1 [(0, t28)])
    refine L_buildSlice h [.int .u8 _] [.int .u8 _] Try.underlying33 zs5 rfl rfl rfl rfl (by decide) (by decide) (fun g29 w h b => ?_)
    --- 30 (Op.buildSlice 29 2 [(0, t27), (1, t29)])
    refine L_buildSlice h [.slice _ _ _, .slice _ _ _] [.slice _ _ _, .slice _ _ _] Try.underlying29 zs33 rfl rfl rfl rfl (by decide) (by decide) (fun g30 w h b => ?_)
    --- 31 (Op.call {(Callee.value (Operand.func 21)), [t30], [29]})
    refine L_callB fn21 rfl (join_calls (A := some ⟨g30, 0, none⟩) (c := 2) (rows := [pl, [x]]) (by
        intro j xs hj
        have hr30 := (h.rowAt (i := 0) rfl).rd
        have hr29 := (h.rowAt (i := 1) rfl).rd
        obtain ⟨A9, c9, e9, hc9, hrl9⟩ := roV_last hvi h (i := 3) rfl
        injection e9 with e9 e10 e11
        subst e9
        subst e11
        match j, hj with
        | 0, hj =>
          obtain rfl : pl = xs := by simpa using hj
          exact ⟨_, _, _, rfl, hr30.cell rfl, hc9, hrl9⟩
        | 1, hj =>
          obtain rfl : [x] = xs := by simpa using hj
          exact ⟨_, _, _, rfl, hr30.cell rfl, Nat.le_refl _, hr29⟩) (by simp) (by simp; omega)) ?_
    rintro v31 w1 hm
    replace h := h.take hm
    obtain ⟨A31, c31, rfl, hc31, _⟩ := (h.rowAt (i := 0) rfl).slice
    refine L_op (d_ixOwn1 (m := pi.length) sl29 rfl rfl (by omega) (by omega)) ?_   -- 32 (Op.indexAddr 29 t22 t23)
    --- None (Op.store 33 t32 t31)
    refine L_storeRow1 h (i := 3) (v := .slice _ _ _) rfl sz33 rfl rfl rfl (by simp [hvi]) (fun w h => ?_)
    refine L_nil ?_
    refine W_seq ?_
    refine W_region ?_   -- region 7
    refine L_op (d_fieldAddrB fa31_0 rfl) ?_   -- 33 (Op.fieldAddr 31 t3 0)
    refine L_op (d_loadB sc3 (v := .int .i64 _) rfl (h.cell (i := 6) rfl rfl)) ?_   -- 34 (Op.load 3 t33)
    refine L_op (d_move (v := .slice _ _ _) rfl) ?_   -- 35 (Op.move t7)
    refine L_op (d_build (cs := #[.int .i64 _, .slice _ _ _]) rfl rfl) ?_   -- 36 (Op.build 31 [(0, t34), (1, t35)])
    --- None (Op.store 31 t6 t36)
    refine L_storeBlk h (i := 5) (vs := [.int .i64 _, .slice _ _ _]) rfl sz31 rfl rfl (by simp [Value.oneCell']) rfl (fun w h => ?_)
    refine L_nil ?_
    refine W_ret (RetV (resC Try.f27 rfl ag31 h (i := 5) rfl rfl rfl) ⟨some ⟨g7, 0, none⟩, c7, by rw [show (pi ++ [pl ++ [x]]).length = (pi ++ [pl]).length by simp], ?_⟩)
    have ef : [pl, [x]].flatten = pl ++ [x] := by simp
    have h2 := roV_init hvi (h.front (i := 4) rfl)
    rw [ef] at h2
    have h3 := roV_snoc hc31 h2
    have es : (vi ++ [Value.slice Al pl.length cl]).set pi.length (.slice A31 (pl ++ [x]).length c31) = vi ++ [.slice A31 (pl ++ [x]).length c31] := by rw [← hvi]; simp
    have h4 := h3.front (i := 3) rfl
    rw [es] at h4
    have h5 := ro_close h4
    exact (((h5.dropAt (i := 1) rfl).dropAt (i := 1) rfl).dropAt (i := 1) rfl).dropAt (i := 1) rfl

set_option maxRecDepth 100000 in
theorem rnew_calls {w0 w : World} {F : Nat → Prop} {L : List Asn} (h : St w0 F L w) (size : Int) :
    Runs Try.prog 10 [.int .i64 size] w (fun v w' => ∃ A c, v = .agg #[.int .i64 size, .slice A ([] ++ [[80, 75, 7, 8]] : List (List Int)).length c] ∧ St w0 F (roA A ([] ++ [[80, 75, 7, 8]]) :: L) w') := by
  refine Runs_of (N := 7) Try.func10 rfl rfl (by simp) ?_
  refine W_seq ?_
  refine W_region ?_   -- region 0
  --- 2 (Op.alloc 31)
  refine L_allocB h [.int .i64 0, .slice none 0 0] zi31 rfl (fun g2 w h b => ?_)
  refine L_nil ?_
  refine W_seq ?_
  refine W_region ?_   -- region 1
  refine L_op (d_move (v := .int .i64 _) rfl) ?_   -- 3 (Op.move t0)
  --- 4 (Op.buildSlice 33 4 [(0, ((IntKind.u8 80))), (1, ((IntKind.u8 75))), (2, ((IntKind.u8 7))), (3, ((In
  refine L_buildSlice h [.int .u8 _, .int .u8 _, .int .u8 _, .int .u8 _] [.int .u8 _, .int .u8 _, .int .u8 _, .int .u8 _] Try.underlying33 zs5 rfl rfl rfl rfl (by decide) (by decide) (fun g4 w h b => ?_)
  --- 5 (Op.buildSlice 29 1 [(0, t4)])
  refine L_buildSlice h [.slice _ _ _] [.slice _ _ _] Try.underlying29 zs33 rfl rfl rfl rfl (by decide) (by decide) (fun g5 w h b => ?_)
  refine L_op (d_build (cs := #[.int .i64 _, .slice _ _ _]) rfl rfl) ?_   -- 6 (Op.build 31 [(0, t3), (1, t5)])
  --- None (Op.store 31 t2 t6)
  first
    | refine L_storeBlk h (i := 0) (vs := [.int .i64 _, .slice _ _ _]) rfl sz31 rfl rfl (by simp [Value.oneCell']) rfl (fun w h => ?_)
    | refine L_storeBlk h (i := 1) (vs := [.int .i64 _, .slice _ _ _]) rfl sz31 rfl rfl (by simp [Value.oneCell']) rfl (fun w h => ?_)
    | refine L_storeBlk h (i := 2) (vs := [.int .i64 _, .slice _ _ _]) rfl sz31 rfl rfl (by simp [Value.oneCell']) rfl (fun w h => ?_)
    | refine L_storeBlk h (i := 3) (vs := [.int .i64 _, .slice _ _ _]) rfl sz31 rfl rfl (by simp [Value.oneCell']) rfl (fun w h => ?_)
    | refine L_storeBlk h (i := 4) (vs := [.int .i64 _, .slice _ _ _]) rfl sz31 rfl rfl (by simp [Value.oneCell']) rfl (fun w h => ?_)
    | refine L_storeBlk h (i := 5) (vs := [.int .i64 _, .slice _ _ _]) rfl sz31 rfl rfl (by simp [Value.oneCell']) rfl (fun w h => ?_)
    | refine L_storeBlk h (i := 6) (vs := [.int .i64 _, .slice _ _ _]) rfl sz31 rfl rfl (by simp [Value.oneCell']) rfl (fun w h => ?_)
    | refine L_storeBlk h (i := 7) (vs := [.int .i64 _, .slice _ _ _]) rfl sz31 rfl rfl (by simp [Value.oneCell']) rfl (fun w h => ?_)
  refine L_nil ?_
  refine W_ret (RetV (resC Try.f10 rfl ag31 h (i := 2) rfl rfl rfl) ⟨some ⟨g5, 0, none⟩, 1, rfl, ?_⟩)
  have h1 : St w0 F (roV [] [] :: _) w := ro_of_rows (vs := []) (rows := []) (e := 5) rfl h
  have h2 := roV_snoc (vs := []) (rows := []) (xs := [80, 75, 7, 8]) (n' := 4) (Nat.le_refl _) ((h1.front (i := 2) rfl).up1)
  have h3 := ro_close (h2.up1)
  exact h3.dropAt (i := 1) rfl

set_option maxRecDepth 100000 in
theorem rnext_calls {w : World} {A : Option Addr} {c : Nat} {size n : Int} {ini : List (List Int)} {lst : List Int} (hr : RowsRd w A (ini ++ [lst])) (hi : ini.length ≤ 1000000000000) (hl : lst.length ≤ 1000000000000) (hn : -1000000000000 ≤ n ∧ n ≤ 1000000000000) :
    Runs Try.prog 18 [.agg #[.int .i64 size, .slice A (ini ++ [lst]).length c], .int .i64 n] w (fun v w' => v = .agg #[.int .i64 (if (lst.length : Int) + n > size then (ini.length : Int) + 1 else ini.length), .int .i64 (if (lst.length : Int) + n > size then 0 else lst.length)] ∧ Below w.heap.size w w') := by
  have h := St.start w
  have hrl : (ini ++ [lst]).length = ini.length + 1 := by simp
  obtain ⟨a, A2, c2, rfl, hcell, hle, hrd⟩ := hr ini.length lst (by simp)
  refine Runs_of (N := 32) Try.func18 rfl rfl (by simp) ?_
  refine W_seq ?_
  refine W_region ?_   -- region 0
  --- 2 (Op.box 31 t0)
  refine L_box h [.int .i64 _, .slice _ _ _] rfl rfl (fun g2 w h b => ?_)
  --- 4 (Op.alloc 37)
  refine L_allocB h [.int .i64 0, .int .i64 0] zi37 rfl (fun g4 w h b => ?_)
  refine L_nil ?_
  refine W_seq ?_
  refine W_region ?_   -- region 1
  refine L_op (d_fieldAddrB fa31_1 rfl) ?_   -- 6 (Op.fieldAddr 31 t2 1)
  refine L_op (d_loadB sc29 (v := .slice _ _ _) rfl (by first | exact (h).cell (i := 0) rfl rfl | exact (h).cell (i := 1) rfl rfl | exact (h).cell (i := 2) rfl rfl | exact (h).cell (i := 3) rfl rfl | exact (h).cell (i := 4) rfl rfl | exact (h).cell (i := 5) rfl rfl | exact (h).cell (i := 6) rfl rfl | exact (h).cell (i := 7) rfl rfl | exact (h).cell (i := 8) rfl rfl)) ?_   -- 7 (Op.load 29 t6)
  refine L_op (d_lenB sl29 rfl) ?_   -- 8 (Op.call {(Callee.builtin Builtin.len), [t7], [29]})
  refine L_op (d_sub' (has_i64 (by omega) (by omega)) rfl rfl) ?_   -- 9 (Op.binOp BinOp.sub 3 t8 ((1)) 3)
  refine L_op (d_assign (v := .int .i64 _) rfl) ?_   -- 5 (Op.assign t9)
  refine L_nil ?_
  refine W_seq ?_   -- join1: live (2, w), (4, _), (5, last)
  refine W_seq ?_
  refine W_draw [.P, .S, .P, .P, .S, .P, .P, .P, .P, .S, .P] [[], [0], [], [0, 1, 2], [0, 1, 2, 3], [0, 1, 2, 3, 4], [], [0, 1, 2, 3, 4, 5, 6], [], [8], [0, 1, 2, 3, 4, 5, 6, 7, 8, 9]] mixed (by decide +kernel) (fun w b => ?_)   -- region 2
  replace h := h.keep b
  refine T_P 0 rfl (by decide +kernel) (fun w2 => d_fieldAddrB fa31_1 rfl) ?_   -- 10 (Op.fieldAddr 31 t2 1)
  refine T_S 1 rfl (by decide +kernel) (fun w2 b2 => d_loadB sc29 (v := .slice _ _ _) rfl (by first | exact (h.keep b2).cell (i := 0) rfl rfl | exact (h.keep b2).cell (i := 1) rfl rfl | exact (h.keep b2).cell (i := 2) rfl rfl | exact (h.keep b2).cell (i := 3) rfl rfl | exact (h.keep b2).cell (i := 4) rfl rfl | exact (h.keep b2).cell (i := 5) rfl rfl | exact (h.keep b2).cell (i := 6) rfl rfl | exact (h.keep b2).cell (i := 7) rfl rfl | exact (h.keep b2).cell (i := 8) rfl rfl)) ?_   -- 11 (Op.load 29 t10)
  refine T_P 2 rfl (by decide +kernel) (fun w2 => d_move (v := .int .i64 _) rfl) ?_   -- 12 (Op.move t5)
  refine T_P 3 rfl (by decide +kernel) (fun w2 => d_ix1 (m := ini.length) sl29 rfl rfl (by omega) (by omega)) ?_   -- 13 (Op.indexAddr 29 t11 t12)
  refine T_S 4 rfl (by decide +kernel) (fun w2 b2 => d_loadB sc33 (v := .slice _ _ _) rfl (cell_keep hcell (h.keep b2).below)) ?_   -- 14 (Op.load 33 t13)
  refine T_P 5 rfl (by decide +kernel) (fun w2 => d_lenB sl33 rfl) ?_   -- 15 (Op.call {(Callee.builtin Builtin.len), [t14], [33]})
  refine T_P 6 rfl (by decide +kernel) (fun w2 => d_move (v := .int .i64 _) rfl) ?_   -- 16 (Op.move t1)
  refine T_P 7 rfl (by decide +kernel) (fun w2 => d_add' (has_i64 (by omega) (by omega)) rfl rfl) ?_   -- 17 (Op.binOp BinOp.add 3 t15 t16 3)
  refine T_P 8 rfl (by decide +kernel) (fun w2 => d_fieldAddrB fa31_0 rfl) ?_   -- 18 (Op.fieldAddr 31 t2 0)
  refine T_S 9 rfl (by decide +kernel) (fun w2 b2 => d_loadB sc3 (v := .int .i64 _) rfl (by first | exact (h.keep b2).cell (i := 0) rfl rfl | exact (h.keep b2).cell (i := 1) rfl rfl | exact (h.keep b2).cell (i := 2) rfl rfl | exact (h.keep b2).cell (i := 3) rfl rfl | exact (h.keep b2).cell (i := 4) rfl rfl | exact (h.keep b2).cell (i := 5) rfl rfl | exact (h.keep b2).cell (i := 6) rfl rfl | exact (h.keep b2).cell (i := 7) rfl rfl | exact (h.keep b2).cell (i := 8) rfl rfl)) ?_   -- 19 (Op.load 3 t18)
  refine T_P 10 rfl (by decide +kernel) (fun w2 => d_gtr rfl rfl) ?_   -- 20 (Op.binOp BinOp.gtr 3 t17 t19 3)
  refine T_end (by decide +kernel) ?_
  refine W_if rfl (fun c20 => ?_) (fun c20 => ?_)
  · -- c20 yes
    refine W_seq ?_
    refine W_region ?_   -- region 3
    refine L_op (d_move (v := .int .i64 _) rfl) ?_   -- 21 (Op.move t5)
    refine L_op (d_add' (has_i64 (by omega) (by omega)) rfl rfl) ?_   -- 22 (Op.binOp BinOp.add 3 t21 ((1)) 3)
    refine L_op (d_build (cs := #[.int .i64 _, .int .i64 _]) rfl rfl) ?_   -- 23 (Op.build 37 [(0, t22)])
    --- None (Op.store 37 t4 t23)
    first
      | refine L_storeBlk h (i := 0) (vs := [.int .i64 _, .int .i64 _]) rfl sz37 rfl rfl (by simp [Value.oneCell']) rfl (fun w h => ?_)
      | refine L_storeBlk h (i := 1) (vs := [.int .i64 _, .int .i64 _]) rfl sz37 rfl rfl (by simp [Value.oneCell']) rfl (fun w h => ?_)
      | refine L_storeBlk h (i := 2) (vs := [.int .i64 _, .int .i64 _]) rfl sz37 rfl rfl (by simp [Value.oneCell']) rfl (fun w h => ?_)
      | refine L_storeBlk h (i := 3) (vs := [.int .i64 _, .int .i64 _]) rfl sz37 rfl rfl (by simp [Value.oneCell']) rfl (fun w h => ?_)
      | refine L_storeBlk h (i := 4) (vs := [.int .i64 _, .int .i64 _]) rfl sz37 rfl rfl (by simp [Value.oneCell']) rfl (fun w h => ?_)
      | refine L_storeBlk h (i := 5) (vs := [.int .i64 _, .int .i64 _]) rfl sz37 rfl rfl (by simp [Value.oneCell']) rfl (fun w h => ?_)
      | refine L_storeBlk h (i := 6) (vs := [.int .i64 _, .int .i64 _]) rfl sz37 rfl rfl (by simp [Value.oneCell']) rfl (fun w h => ?_)
      | refine L_storeBlk h (i := 7) (vs := [.int .i64 _, .int .i64 _]) rfl sz37 rfl rfl (by simp [Value.oneCell']) rfl (fun w h => ?_)
    refine L_nil ?_
    refine W_ret (RetV (resC Try.f18 rfl ag37 h (i := 0) rfl rfl rfl) ⟨?_, h.below⟩)
    rw [if_pos c20, if_pos c20, hrl]
    simp
  · -- c20 no
    refine W_skip ?_
    refine W_seq ?_
    refine W_region ?_   -- region 4
    refine L_op (d_move (v := .int .i64 _) rfl) ?_   -- 24 (Op.move t5)
    refine L_op (d_fieldAddrB fa31_1 rfl) ?_   -- 25 (Op.fieldAddr 31 t2 1)
    refine L_op (d_loadB sc29 (v := .slice _ _ _) rfl (by first | exact (h).cell (i := 0) rfl rfl | exact (h).cell (i := 1) rfl rfl | exact (h).cell (i := 2) rfl rfl | exact (h).cell (i := 3) rfl rfl | exact (h).cell (i := 4) rfl rfl | exact (h).cell (i := 5) rfl rfl | exact (h).cell (i := 6) rfl rfl | exact (h).cell (i := 7) rfl rfl | exact (h).cell (i := 8) rfl rfl)) ?_   -- 26 (Op.load 29 t25)
    refine L_op (d_move (v := .int .i64 _) rfl) ?_   -- 27 (Op.move t5)
    refine L_op (d_ix1 (m := ini.length) sl29 rfl rfl (by omega) (by omega)) ?_   -- 28 (Op.indexAddr 29 t26 t27)
    refine L_op (d_loadB sc33 (v := .slice _ _ _) rfl (cell_keep hcell h.below)) ?_   -- 29 (Op.load 33 t28)
    refine L_op (d_lenB sl33 rfl) ?_   -- 30 (Op.call {(Callee.builtin Builtin.len), [t29], [33]})
    refine L_op (d_build (cs := #[.int .i64 _, .int .i64 _]) rfl rfl) ?_   -- 31 (Op.build 37 [(0, t24), (1, t30)])
    --- None (Op.store 37 t4 t31)
    first
      | refine L_storeBlk h (i := 0) (vs := [.int .i64 _, .int .i64 _]) rfl sz37 rfl rfl (by simp [Value.oneCell']) rfl (fun w h => ?_)
      | refine L_storeBlk h (i := 1) (vs := [.int .i64 _, .int .i64 _]) rfl sz37 rfl rfl (by simp [Value.oneCell']) rfl (fun w h => ?_)
      | refine L_storeBlk h (i := 2) (vs := [.int .i64 _, .int .i64 _]) rfl sz37 rfl rfl (by simp [Value.oneCell']) rfl (fun w h => ?_)
      | refine L_storeBlk h (i := 3) (vs := [.int .i64 _, .int .i64 _]) rfl sz37 rfl rfl (by simp [Value.oneCell']) rfl (fun w h => ?_)
      | refine L_storeBlk h (i := 4) (vs := [.int .i64 _, .int .i64 _]) rfl sz37 rfl rfl (by simp [Value.oneCell']) rfl (fun w h => ?_)
      | refine L_storeBlk h (i := 5) (vs := [.int .i64 _, .int .i64 _]) rfl sz37 rfl rfl (by simp [Value.oneCell']) rfl (fun w h => ?_)
      | refine L_storeBlk h (i := 6) (vs := [.int .i64 _, .int .i64 _]) rfl sz37 rfl rfl (by simp [Value.oneCell']) rfl (fun w h => ?_)
      | refine L_storeBlk h (i := 7) (vs := [.int .i64 _, .int .i64 _]) rfl sz37 rfl rfl (by simp [Value.oneCell']) rfl (fun w h => ?_)
    refine L_nil ?_
    refine W_ret (RetV (resC Try.f18 rfl ag37 h (i := 0) rfl rfl rfl) ⟨?_, h.below⟩)
    rw [if_neg c20, if_neg c20, hrl]
    simp
end Go.Proofs.Ytbhjdbkdnandfaa.Sp
