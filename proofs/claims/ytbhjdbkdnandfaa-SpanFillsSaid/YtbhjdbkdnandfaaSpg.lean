/- Walks of the functions 4, printed by wip/fw/walk.py out of sp14.py. -/
import Derived.Test.YtbhjdbkdnandfaaSpd
import Derived.Test.YtbhjdbkdnandfaaSpq
namespace Go.Proofs.Ytbhjdbkdnandfaa.Sp
open Go Go.RowKit Go.Fw Go.Fw.Asn Go.Proofs
set_option linter.unusedVariables false
set_option maxHeartbeats 1000000
set_option maxRecDepth 100000 in
theorem fills_good {W : World} {A : Option Addr} {c : Nat} {ops : OpL} {size : Int} (ho : FOps (fun k => k < W.heap.size) W A ops) (hl : ops.length ≤ 9223372036854775807) (hs : -9223372036854775808 ≤ size ∧ size ≤ 9223372036854775807) (hgood : ¬ (size < 5 ∨ size > 16777216)) :
    Runs Try.prog 4 [.int .i64 size, .slice A ops.length c] W (fun v w' => v = .bool true ∧ Below W.heap.size W w') := by
  have h := St.start W
  have hs1 : 5 ≤ size := by omega
  have hs2 : size ≤ 16777216 := by omega
  refine Runs_of (N := 174) Try.func4 rfl rfl (by simp) ?_
  refine W_seq ?_
  refine W_region ?_   -- region 0
  refine L_op (d_assign (v := .bool _) rfl) ?_   -- 4 (Op.assign ((false)))
  refine L_nil ?_
  refine W_seq ?_   -- join1: live (0, .append), (1, _)
  refine W_seq ?_
  refine W_region ?_   -- region 1
  --- 20 (Op.call {(Callee.value (Operand.func 7)), [], []})
  refine L_callB fn7 rfl (alive_calls _) ?_
  rintro _ w ⟨rfl, b⟩
  replace h := h.keep b
  refine L_op (d_not rfl) ?_   -- 21 (Op.unOp UnOp.not 4 t20)
  refine L_nil ?_
  refine W_false (rfl) ?_
  refine W_skip ?_
  refine W_seq ?_
  refine W_region ?_   -- region 3
  refine L_op (d_move (v := .int .i64 _) rfl) ?_   -- 23 (Op.move t0)
  --- 24 (Op.call {(Callee.value (Operand.func 9)), [t23], [3]})
  refine L_callB fn9 rfl (new_calls _ _ hs) ?_
  rintro v24 w1 hv
  rw [if_neg hgood] at hv
  obtain ⟨gw, rfl, hm⟩ := hv
  replace h := h.take hm
  refine L_op (d_move (v := .tuple _) rfl) ?_   -- 22 (Op.move t24)
  refine L_op (d_extract (v := .pointer _) rfl rfl) ?_   -- 25 (Op.extract t22 0)
  refine L_op (d_extract (v := .int .i64 _) rfl rfl) ?_   -- 26 (Op.extract t22 1)
  refine L_op (d_assign (v := .pointer _) rfl) ?_   -- 5 (Op.assign t25)
  refine L_op (d_assign (v := .int .i64 _) rfl) ?_   -- 6 (Op.assign t26)
  refine L_nil ?_
  refine W_seq ?_   -- join2: live (0, .append), (1, _), (5, _)
  refine W_seq ?_
  refine W_region ?_   -- region 4
  refine L_op (d_move (v := .slice _ _ _) rfl) ?_   -- 27 (Op.move t1)
  --- 28 (Op.call {(Callee.value (Operand.func 8)), [t27], [22]})
  refine L_callB fn8 rfl (few_calls h ho hl) ?_
  rintro _ w ⟨rfl, h⟩
  refine L_op (d_not rfl) ?_   -- 29 (Op.unOp UnOp.not 4 t28)
  refine L_op (d_move (v := .bool _) rfl) ?_   -- 30 (Op.move t29)
  refine L_case (dj := 30) rfl (fun q30 => ?_) (fun q30 => ?_)
  · -- guard 30 true
    refine L_off rfl rfl rfl ?_   -- 31 (Op.move t6)
    refine L_off rfl rfl rfl ?_   -- 32 (Op.binOp BinOp.neq 26 t31 ((0)) 26)
    refine L_op (d_pick (r := .bool _) rfl rfl) ?_   -- 33 (Op.pick t30 ((true)) t32)
    refine L_nil ?_
    refine W_true (rfl) ?_
    refine W_seq ?_
    refine W_region ?_   -- region 5
    refine L_op (d_assign (v := .bool _) rfl) ?_   -- 4 (Op.assign ((true)))
    refine L_nil ?_
    refine W_ret (Ret1 (v1 := .bool _) rfl rfl ?_)
    exact ⟨rfl, h.below⟩
  · -- guard 30 false
    refine L_on rfl rfl rfl ?_
    refine L_op (d_move (v := .int .i64 _) rfl) ?_   -- 31 (Op.move t6)
    refine L_on rfl rfl rfl ?_
    refine L_op (d_neq rfl rfl) ?_   -- 32 (Op.binOp BinOp.neq 26 t31 ((0)) 26)
    refine L_op (d_pick (r := .bool _) rfl rfl) ?_   -- 33 (Op.pick t30 ((true)) t32)
    refine L_nil ?_
    refine W_false (rfl) ?_
    refine W_skip ?_
    refine W_seq ?_
    refine W_region ?_   -- region 6
    --- 34 (Op.buildSlice 33 4 [(0, ((IntKind.u8 80))), (1, ((IntKind.u8 75))), (2, ((IntKind.u8 7))), (3, ((In
    refine L_buildBlk h [.int .u8 _, .int .u8 _, .int .u8 _, .int .u8 _] [.int .u8 _, .int .u8 _, .int .u8 _, .int .u8 _] Try.underlying33 zs5 rfl rfl rfl rfl (by decide) (by decide) (fun g34 w h b => ?_)
    --- 35 (Op.convert 33 33 t34)
    refine L_mark h (i := 0) rfl Try.underlying33 Try.underlying5 rfl rfl (by decide) (fun w h => ?_)
    refine L_op (d_assign (v := .slice _ _ _) rfl) ?_   -- 7 (Op.assign t35)
    refine L_nil ?_
    refine W_seq ?_
    refine W_region ?_   -- region 7
    --- 36 (Op.buildSlice 51 0 [])
    refine L_buildSlice h [] [] Try.underlying51 zs37 rfl rfl rfl rfl (by decide) (by decide) (fun g36 w h b => ?_)
    refine L_op (d_assign (v := .slice _ _ _) rfl) ?_   -- 8 (Op.assign t36)
    refine L_nil ?_
    refine W_seq ?_
    refine W_region ?_   -- region 8
    --- 37 (Op.buildSlice 29 0 [])
    refine L_buildSlice h [] [] Try.underlying29 zs33 rfl rfl rfl rfl (by decide) (by decide) (fun g37 w h b => ?_)
    refine L_op (d_assign (v := .slice _ _ _) rfl) ?_   -- 9 (Op.assign t37)
    refine L_nil ?_
    refine W_seq ?_   -- join3: live (0, .append), (5, _), (7, _), (8, _), (9, _)
    refine W_seq ?_
    refine W_region ?_   -- region 9
    refine L_op (d_move (v := .slice _ _ _) rfl) ?_   -- 38 (Op.move t1)
    refine L_op (d_lenB sl22 rfl) ?_   -- 39 (Op.call {(Callee.builtin Builtin.len), [t38], [22]})
    refine L_op (d_move (v := .int .i64 _) rfl) ?_   -- 40 (Op.move ((0)))
    refine L_nil ?_
    refine W_block ?_   -- block 0
    obtain ⟨hfew, hlen⟩ := fewB_iff.1 (by simpa using q30)
    refine W_while (σ := Nat × (List (List Int) × List Int) × (Option Addr × Nat) × (Option Addr × Nat) × (Option Addr × Nat) × Told × List Value) (0, ([], [80, 75, 7, 8]), (_, _), (_, _), (_, _), [], []) (fun s => [(0, .int .i64 size), (5, .pointer (some ⟨gw, 0, none⟩)), (7, .slice s.2.2.1.1 (s.2.1.1 ++ [s.2.1.2]).flatten.length s.2.2.1.2), (8, .slice s.2.2.2.1.1 s.2.2.2.2.2.1.length s.2.2.2.1.2), (9, .slice s.2.2.2.2.1.1 s.2.2.2.2.2.1.length s.2.2.2.2.1.2), (38, .slice A ops.length c), (39, .int .i64 ops.length), (40, .int .i64 s.1)])
      (fun s w1 => St W (fun k => k < W.heap.size) [wrA gw size s.2.1.1 s.2.1.2, row 33 1 (.slice s.2.2.2.2.1.1 s.2.2.2.2.2.1.length s.2.2.2.2.1.2) s.2.2.2.2.2.1.length s.2.2.2.2.2.2, row 37 2 (.slice s.2.2.2.1.1 s.2.2.2.2.2.1.length s.2.2.2.1.2) s.2.2.2.2.2.1.length (pcells s.2.2.2.2.2.1), row 5 1 (.slice s.2.2.1.1 (s.2.1.1 ++ [s.2.1.2]).flatten.length s.2.2.1.2) (s.2.1.1 ++ [s.2.1.2]).flatten.length (bys (s.2.1.1 ++ [s.2.1.2]).flatten)] w1 ∧ s.1 ≤ ops.length ∧ InvF (fun k => k < W.heap.size) W size s.1 s.2.1.1 s.2.1.2 s.2.2.2.2.2.1 s.2.2.2.2.2.2) (fun s => ops.length - s.1) ⟨rfl, rfl, rfl, rfl, rfl, rfl, rfl, rfl, trivial⟩ ⟨h.front (i := 3) rfl, Nat.zero_le _, InvF.zero hs1⟩ ?_
    rintro ⟨i, ⟨ini, lst⟩, ⟨A7, c7⟩, ⟨A8, c8⟩, ⟨A9, c9⟩, tl, rs⟩ w1 b_ ⟨h, hi, hv⟩
    dsimp only at h hi hv ⊢
    have hn1 := hv.w.n
    have hn2 := hv.w.l
    have hn3 := hv.w.s
    have hnt := hv.n
    have hnf := hv.f
    have hal := hv.w.all
    have hle := hv.w.len
    have hrl : (ini ++ [lst]).length = ini.length + 1 := by simp
    have hi20 : i ≤ 20 := by omega
    refine W_seq ?_
    refine W_region ?_   -- region 10
    refine L_op (d_lss rfl rfl) ?_   -- 41 (Op.binOp BinOp.lss 3 t40 t39 3)
    refine L_nil ?_
    refine W_seq ?_   -- join4: live (0, .append), (5, _), (7, _), (8, _), (9, _), (38, _), (39, _), (40, _)
    refine W_if rfl (fun c41 => ?_) (fun c41 => ?_)
    · -- c41 yes
      have hi2 : i < ops.length := by omega
      obtain ⟨a, B, cb, rfl, hcb, hrb, hld⟩ := ho.get hi2
      have ho60 := hfew _ (List.getElem_mem hi2)
      generalize ops[i] = o at hcb hrb hld ho60
      have hv1 := hv.put (by omega) ho60
      have hv2 := hv.bad
      have hv3 := fun hg => hv.lay ho60 hg hcb hrb
      refine W_skip ?_
      refine W_seq ?_   -- join5: live (0, .append), (5, _), (7, _), (8, _), (9, _), (38, _), (39, _), (40, _)
      refine W_block ?_   -- block 1
      refine W_seq ?_
      refine W_region ?_   -- region 11
      refine L_op (d_ix (m := i) sl22 rfl rfl rfl hi2) ?_   -- 42 (Op.indexAddr 22 t38 t40)
      refine L_op (d_loadAggB [.int .i64 o.1, .slice B o.2.length cb] ag35 rfl rfl (hld h)) ?_   -- 43 (Op.load 35 t42)
      --- 11 (Op.alloc 35)
      refine L_allocB h [.int .i64 0, .slice none 0 0] zi35 rfl (fun g11 w h b => ?_)
      --- None (Op.store 35 t11 t43)
      first
        | refine L_storeBlk h (i := 0) (vs := [.int .i64 _, .slice _ _ _]) rfl sz35 rfl rfl (by simp [Value.oneCell']) rfl (fun w h => ?_)
        | refine L_storeBlk h (i := 1) (vs := [.int .i64 _, .slice _ _ _]) rfl sz35 rfl rfl (by simp [Value.oneCell']) rfl (fun w h => ?_)
        | refine L_storeBlk h (i := 2) (vs := [.int .i64 _, .slice _ _ _]) rfl sz35 rfl rfl (by simp [Value.oneCell']) rfl (fun w h => ?_)
        | refine L_storeBlk h (i := 3) (vs := [.int .i64 _, .slice _ _ _]) rfl sz35 rfl rfl (by simp [Value.oneCell']) rfl (fun w h => ?_)
        | refine L_storeBlk h (i := 4) (vs := [.int .i64 _, .slice _ _ _]) rfl sz35 rfl rfl (by simp [Value.oneCell']) rfl (fun w h => ?_)
        | refine L_storeBlk h (i := 5) (vs := [.int .i64 _, .slice _ _ _]) rfl sz35 rfl rfl (by simp [Value.oneCell']) rfl (fun w h => ?_)
        | refine L_storeBlk h (i := 6) (vs := [.int .i64 _, .slice _ _ _]) rfl sz35 rfl rfl (by simp [Value.oneCell']) rfl (fun w h => ?_)
        | refine L_storeBlk h (i := 7) (vs := [.int .i64 _, .slice _ _ _]) rfl sz35 rfl rfl (by simp [Value.oneCell']) rfl (fun w h => ?_)
      refine L_nil ?_
      refine W_seq ?_   -- join6: live (0, .append), (5, _), (7, _), (8, _), (9, _), (11, _), (38, _), (39, _), (40, _)
      refine W_seq ?_
      refine W_region ?_   -- region 12
      refine L_op (d_fieldAddrB fa35_0 rfl) ?_   -- 44 (Op.fieldAddr 35 t11 0)
      refine L_op (d_loadB sc3 (v := .int .i64 _) rfl (by first | exact (h).cell (i := 0) rfl rfl | exact (h).cell (i := 1) rfl rfl | exact (h).cell (i := 2) rfl rfl | exact (h).cell (i := 3) rfl rfl | exact (h).cell (i := 4) rfl rfl | exact (h).cell (i := 5) rfl rfl | exact (h).cell (i := 6) rfl rfl | exact (h).cell (i := 7) rfl rfl | exact (h).cell (i := 8) rfl rfl)) ?_   -- 45 (Op.load 3 t44)
      refine L_op (d_neq rfl rfl) ?_   -- 46 (Op.binOp BinOp.neq 3 t45 ((0)) 3)
      refine L_op (d_move (v := .bool _) rfl) ?_   -- 47 (Op.move t46)
      refine L_case (dj := 47) rfl (fun q47 => ?_) (fun q47 => ?_)
      · -- guard 47 true
        refine L_on rfl rfl rfl ?_
        refine L_op (d_fieldAddrB fa35_0 rfl) ?_   -- 48 (Op.fieldAddr 35 t11 0)
        refine L_on rfl rfl rfl ?_
        refine L_op (d_loadB sc3 (v := .int .i64 _) rfl (by first | exact (h).cell (i := 0) rfl rfl | exact (h).cell (i := 1) rfl rfl | exact (h).cell (i := 2) rfl rfl | exact (h).cell (i := 3) rfl rfl | exact (h).cell (i := 4) rfl rfl | exact (h).cell (i := 5) rfl rfl | exact (h).cell (i := 6) rfl rfl | exact (h).cell (i := 7) rfl rfl | exact (h).cell (i := 8) rfl rfl)) ?_   -- 49 (Op.load 3 t48)
        refine L_on rfl rfl rfl ?_
        refine L_op (d_neq rfl rfl) ?_   -- 50 (Op.binOp BinOp.neq 3 t49 ((1)) 3)
        refine L_op (d_pick (r := .bool _) rfl rfl) ?_   -- 51 (Op.pick t47 t50 ((false)))
        refine L_nil ?_
        refine W_if rfl (fun c51 => ?_) (fun c51 => ?_)
        · -- c51 yes
          refine W_seq ?_
          refine W_region ?_   -- region 13
          refine L_op (d_move (v := .pointer _) rfl) ?_   -- 52 (Op.move t5)
          refine L_op (d_fieldAddrB fa35_1 rfl) ?_   -- 53 (Op.fieldAddr 35 t11 1)
          refine L_op (d_loadB sc33 (v := .slice _ _ _) rfl (by first | exact (h).cell (i := 0) rfl rfl | exact (h).cell (i := 1) rfl rfl | exact (h).cell (i := 2) rfl rfl | exact (h).cell (i := 3) rfl rfl | exact (h).cell (i := 4) rfl rfl | exact (h).cell (i := 5) rfl rfl | exact (h).cell (i := 6) rfl rfl | exact (h).cell (i := 7) rfl rfl | exact (h).cell (i := 8) rfl rfl)) ?_   -- 54 (Op.load 33 t53)
          replace h := h.up1
          --- 55 (Op.call {(Callee.value (Operand.func 13)), [t52, t54], [25, 33]})
          refine L_callB fn13 rfl (data_calls h hrb hcb (by omega) (by omega) (by omega) (by omega)) ?_
          rintro _ w ⟨rfl, h⟩
          refine L_nil ?_
          refine W_seq ?_
          refine W_region ?_   -- region 14
          refine L_op (d_move (v := .slice _ _ _) rfl) ?_   -- 56 (Op.move t7)
          refine L_op (d_fieldAddrB fa35_1 rfl) ?_   -- 57 (Op.fieldAddr 35 t11 1)
          refine L_op (d_loadB sc33 (v := .slice _ _ _) rfl (by first | exact (h).cell (i := 0) rfl rfl | exact (h).cell (i := 1) rfl rfl | exact (h).cell (i := 2) rfl rfl | exact (h).cell (i := 3) rfl rfl | exact (h).cell (i := 4) rfl rfl | exact (h).cell (i := 5) rfl rfl | exact (h).cell (i := 6) rfl rfl | exact (h).cell (i := 7) rfl rfl | exact (h).cell (i := 8) rfl rfl)) ?_   -- 58 (Op.load 33 t57)
          --- 59 (Op.call {(Callee.builtin Builtin.append), [t56, t58], [33, 33]})
          refine L_appendRd h (i := 4) rfl Try.underlying33 info5 rfl (by decide) (by decide) rfl rfl (by simp [ints]) (hrb.at h) (bys_one _) (by omega) (fun v59 w h => ?_)
          obtain ⟨A59, c59, rfl, _⟩ := (h.rowAt (i := 4) rfl).slice
          refine L_op (d_assign (v := .slice _ _ _) rfl) ?_   -- 7 (Op.assign t59)
          refine L_nil ?_
          refine W_exit (X_here ?_)
          refine W_region ?_   -- region 19
          refine L_op (d_add' (has_i64 (by omega) (by omega)) rfl rfl) ?_   -- 82 (Op.binOp BinOp.add 3 t40 ((1)) 3)
          refine L_op (d_move (v := .int .i64 _) rfl) ?_   -- 40 (Op.move t82)
          refine L_nil ?_
          first
            | (refine ⟨(i + 1, (o.2.foldl (putB size) (ini, lst)), (A59, c59), (A8, c8), (A9, c9), tl, rs), ⟨rfl, rfl, ?_, rfl, rfl, rfl, rfl, rfl, trivial⟩, ⟨?_, by dsimp only; omega, hv1⟩, by dsimp only; omega⟩
               · show Value.slice A59 ((ini ++ [lst]).flatten.length + o.2.length) c59 = Value.slice A59 _ c59
                 rw [flat_put, List.length_append]
               · have h1 := h.dropAt (i := 1) rfl
                 dsimp only
                 rw [flat_put, List.length_append, bys_append]
                 exact h1)
            | (refine ⟨(i + 1, (ini, lst), (A7, c7), (A8, c8), (A9, c9), tl, rs), ⟨rfl, rfl, rfl, rfl, rfl, rfl, rfl, rfl, trivial⟩, ⟨?_, by dsimp only; omega, hv2⟩, by dsimp only; omega⟩
               have hb2 : o.2.length = 0 ∨ (o.2.length : Int) > size := Decidable.byContradiction fun hc => c68 (by rw [recE, if_neg hc])
               have h1 := (h.dropAt (i := 0) rfl).dropAt (i := 1) rfl
               rw [recI, recL, if_pos hb2, if_pos hb2] at h1
               exact h1)
            | (have hg2 : ¬ (o.2.length = 0 ∨ (o.2.length : Int) > size) := fun hc => by rw [recE, if_pos hc] at c68; exact absurd c68 (by decide)
               refine ⟨(i + 1, (recI size ini lst o.2, recL size lst o.2), (A72, c72), (A76, c76), (A81, c81), tl ++ [(recD size ini lst o.2, recA size lst o.2, o.2)], rs ++ [.slice B o.2.length cb]), ⟨rfl, rfl, ?_, ?_, ?_, rfl, rfl, rfl, trivial⟩, ⟨?_, by dsimp only; omega, hv3 hg2⟩, by dsimp only; omega⟩
               · show Value.slice A72 ((ini ++ [lst]).flatten.length + o.2.length) c72 = Value.slice A72 _ c72
                 rw [flat_lay hg2, List.length_append]
               · show Value.slice A76 (tl.length + 1) c76 = Value.slice A76 _ c76
                 rw [List.length_append]
                 rfl
               · show Value.slice A81 (tl.length + 1) c81 = Value.slice A81 _ c81
                 rw [List.length_append]
                 rfl
               · have h1 := ((((h.front (i := 3) rfl).dropAt (i := 1) rfl).dropAt (i := 1) rfl).dropAt (i := 1) rfl).dropAt (i := 1) rfl
                 dsimp only
                 rw [flat_lay hg2, List.length_append, List.length_append, bys_append, pcells_snoc]
                 exact h1)
        · -- c51 no
          refine W_skip ?_
          refine W_seq ?_
          refine W_region ?_   -- region 15
          refine L_op (d_move (v := .pointer _) rfl) ?_   -- 61 (Op.move t5)
          refine L_op (d_fieldAddrB fa35_1 rfl) ?_   -- 62 (Op.fieldAddr 35 t11 1)
          refine L_op (d_loadB sc33 (v := .slice _ _ _) rfl (by first | exact (h).cell (i := 0) rfl rfl | exact (h).cell (i := 1) rfl rfl | exact (h).cell (i := 2) rfl rfl | exact (h).cell (i := 3) rfl rfl | exact (h).cell (i := 4) rfl rfl | exact (h).cell (i := 5) rfl rfl | exact (h).cell (i := 6) rfl rfl | exact (h).cell (i := 7) rfl rfl | exact (h).cell (i := 8) rfl rfl)) ?_   -- 63 (Op.load 33 t62)
          replace h := h.up1
          --- 64 (Op.call {(Callee.value (Operand.func 11)), [t61, t63], [25, 33]})
          refine L_callB fn11 rfl (record_calls h hrb (by omega) (by omega) (by omega) (by omega)) ?_
          rintro _ w ⟨rfl, h⟩
          refine L_op (d_move (v := .tuple _) rfl) ?_   -- 60 (Op.move t64)
          refine L_op (d_extract (v := .agg _) rfl rfl) ?_   -- 65 (Op.extract t60 0)
          refine L_op (d_extract (v := .int .i64 _) rfl rfl) ?_   -- 66 (Op.extract t60 1)
          --- 12 (Op.alloc 37)
          refine L_allocB h [.int .i64 0, .int .i64 0] zi37 rfl (fun g12 w h b => ?_)
          --- None (Op.store 37 t12 t65)
          first
            | refine L_storeBlk h (i := 0) (vs := [.int .i64 _, .int .i64 _]) rfl sz37 rfl rfl (by simp [Value.oneCell']) rfl (fun w h => ?_)
            | refine L_storeBlk h (i := 1) (vs := [.int .i64 _, .int .i64 _]) rfl sz37 rfl rfl (by simp [Value.oneCell']) rfl (fun w h => ?_)
            | refine L_storeBlk h (i := 2) (vs := [.int .i64 _, .int .i64 _]) rfl sz37 rfl rfl (by simp [Value.oneCell']) rfl (fun w h => ?_)
            | refine L_storeBlk h (i := 3) (vs := [.int .i64 _, .int .i64 _]) rfl sz37 rfl rfl (by simp [Value.oneCell']) rfl (fun w h => ?_)
            | refine L_storeBlk h (i := 4) (vs := [.int .i64 _, .int .i64 _]) rfl sz37 rfl rfl (by simp [Value.oneCell']) rfl (fun w h => ?_)
            | refine L_storeBlk h (i := 5) (vs := [.int .i64 _, .int .i64 _]) rfl sz37 rfl rfl (by simp [Value.oneCell']) rfl (fun w h => ?_)
            | refine L_storeBlk h (i := 6) (vs := [.int .i64 _, .int .i64 _]) rfl sz37 rfl rfl (by simp [Value.oneCell']) rfl (fun w h => ?_)
            | refine L_storeBlk h (i := 7) (vs := [.int .i64 _, .int .i64 _]) rfl sz37 rfl rfl (by simp [Value.oneCell']) rfl (fun w h => ?_)
          refine L_op (d_assign (v := .int .i64 _) rfl) ?_   -- 13 (Op.assign t66)
          refine L_nil ?_
          refine W_seq ?_
          refine W_region ?_   -- region 16
          refine L_op (d_move (v := .int .i64 _) rfl) ?_   -- 67 (Op.move t13)
          refine L_op (d_eql rfl rfl) ?_   -- 68 (Op.binOp BinOp.eql 26 t67 ((0)) 26)
          refine L_nil ?_
          refine W_if rfl (fun c68 => ?_) (fun c68 => ?_)
          · -- c68 yes
            refine W_seq ?_
            refine W_region ?_   -- region 17
            refine L_op (d_move (v := .slice _ _ _) rfl) ?_   -- 69 (Op.move t7)
            refine L_op (d_fieldAddrB fa35_1 rfl) ?_   -- 70 (Op.fieldAddr 35 t11 1)
            refine L_op (d_loadB sc33 (v := .slice _ _ _) rfl (by first | exact (h).cell (i := 0) rfl rfl | exact (h).cell (i := 1) rfl rfl | exact (h).cell (i := 2) rfl rfl | exact (h).cell (i := 3) rfl rfl | exact (h).cell (i := 4) rfl rfl | exact (h).cell (i := 5) rfl rfl | exact (h).cell (i := 6) rfl rfl | exact (h).cell (i := 7) rfl rfl | exact (h).cell (i := 8) rfl rfl)) ?_   -- 71 (Op.load 33 t70)
            --- 72 (Op.call {(Callee.builtin Builtin.append), [t69, t71], [33, 33]})
            refine L_appendRd h (i := 5) rfl Try.underlying33 info5 rfl (by decide) (by decide) rfl rfl (by simp [ints]) (hrb.at h) (bys_one _) (by omega) (fun v72 w h => ?_)
            obtain ⟨A72, c72, rfl, _⟩ := (h.rowAt (i := 5) rfl).slice
            refine L_op (d_assign (v := .slice _ _ _) rfl) ?_   -- 7 (Op.assign t72)
            refine L_nil ?_
            refine W_draw [.P, .S, .G, .H, .P, .P, .S, .G, .H, .P, .P] [[], [], [1], [0, 1, 2], [], [], [5], [5, 6], [0, 1, 2, 3, 4, 5, 6, 7], [0, 1, 2, 3, 4, 5, 6, 7, 8], [0, 1, 2, 3, 4, 5, 6, 7, 8, 9]] mixed (by decide +kernel) (fun w b => ?_)   -- region 18
            replace h := h.keep b
            refine T_P 0 rfl (by decide +kernel) (fun w2 => d_move (v := .slice _ _ _) rfl) ?_   -- 73 (Op.move t8)
            refine T_S 1 rfl (by decide +kernel) (fun w2 b2 => by first | exact d_loadBlk ag37 (h.keep b2) (i := 0) rfl rfl rfl | exact d_loadBlk ag37 (h.keep b2) (i := 1) rfl rfl rfl | exact d_loadBlk ag37 (h.keep b2) (i := 2) rfl rfl rfl | exact d_loadBlk ag37 (h.keep b2) (i := 3) rfl rfl rfl | exact d_loadBlk ag37 (h.keep b2) (i := 4) rfl rfl rfl | exact d_loadBlk ag37 (h.keep b2) (i := 5) rfl rfl rfl | exact d_loadBlk ag37 (h.keep b2) (i := 6) rfl rfl rfl | exact d_loadBlk ag37 (h.keep b2) (i := 7) rfl rfl rfl | exact d_loadBlk ag37 (h.keep b2) (i := 8) rfl rfl rfl) ?_   -- 74 (Op.load 37 t12)
            refine T_P 4 rfl (by decide +kernel) (fun w2 => d_move (v := .slice _ _ _) rfl) ?_   -- 77 (Op.move t9)
            refine T_P 5 rfl (by decide +kernel) (fun w2 => d_fieldAddrB fa35_1 rfl) ?_   -- 78 (Op.fieldAddr 35 t11 1)
            refine T_fork [2, 6] (by decide +kernel) ⟨fun o ho => ?_, fun o ho => ?_, trivial⟩
            · obtain rfl := Option.some.inj ho
              --- 75 (Op.buildSlice 51 1 [(0, t74)])
              refine L_buildSlice h [.agg #[.int .i64 _, .int .i64 _]] [.int .i64 _, .int .i64 _] Try.underlying51 zs37 rfl rfl rfl rfl (by decide) (by decide) (fun g75 w h b => ?_)
              refine L_nil ⟨b, ?_⟩
              refine T_fork [3, 6] (by decide +kernel) ⟨fun o ho => ?_, fun o ho => ?_, trivial⟩
              · obtain rfl := Option.some.inj ho
                --- 76 (Op.call {(Callee.builtin Builtin.append), [t73, t75], [51, 51]})
                first
                  | (refine L_appendRd h (i := 5) rfl Try.underlying51 info37 rfl (by decide) (by decide) rfl rfl (by simp) (h.rowAt (i := 0) rfl).rd (by simp [Value.oneCell']) (by omega) (fun v76 w h => ?_)
                     obtain ⟨A76, c76, rfl, _⟩ := (h.rowAt (i := 5) rfl).slice)
                  | (refine L_appendRd h (i := 6) rfl Try.underlying51 info37 rfl (by decide) (by decide) rfl rfl (by simp) (h.rowAt (i := 1) rfl).rd (by simp [Value.oneCell']) (by omega) (fun v76 w h => ?_)
                     obtain ⟨A76, c76, rfl, _⟩ := (h.rowAt (i := 6) rfl).slice)
                  | (refine L_appendRd h (i := 6) rfl Try.underlying51 info37 rfl (by decide) (by decide) rfl rfl (by simp) (h.rowAt (i := 0) rfl).rd (by simp [Value.oneCell']) (by omega) (fun v76 w h => ?_)
                     obtain ⟨A76, c76, rfl, _⟩ := (h.rowAt (i := 6) rfl).slice)
                refine L_nil ?_
                refine T_S 6 rfl (by decide +kernel) (fun w2 b2 => d_loadB sc33 (v := .slice _ _ _) rfl (by first | exact (h.keep b2).cell (i := 0) rfl rfl | exact (h.keep b2).cell (i := 1) rfl rfl | exact (h.keep b2).cell (i := 2) rfl rfl | exact (h.keep b2).cell (i := 3) rfl rfl | exact (h.keep b2).cell (i := 4) rfl rfl | exact (h.keep b2).cell (i := 5) rfl rfl | exact (h.keep b2).cell (i := 6) rfl rfl | exact (h.keep b2).cell (i := 7) rfl rfl | exact (h.keep b2).cell (i := 8) rfl rfl)) ?_   -- 79 (Op.load 33 t78)
                refine T_G 7 (by decide +kernel) rfl ?_
                --- 80 (Op.buildSlice 29 1 [(0, t79)])
                refine L_buildSlice h [.slice _ _ _] [.slice _ _ _] Try.underlying29 zs33 rfl rfl rfl rfl (by decide) (by decide) (fun g80 w h b => ?_)
                refine L_nil ⟨b, ?_⟩
                refine T_H 8 (by decide +kernel) rfl ?_
                --- 81 (Op.call {(Callee.builtin Builtin.append), [t77, t80], [29, 29]})
                first
                  | (refine L_appendRd h (i := 5) rfl Try.underlying29 info33 rfl (by decide) (by decide) rfl rfl (by simp) (h.rowAt (i := 0) rfl).rd (by simp [Value.oneCell']) (by omega) (fun v81 w h => ?_)
                     obtain ⟨A81, c81, rfl, _⟩ := (h.rowAt (i := 5) rfl).slice)
                  | (refine L_appendRd h (i := 5) rfl Try.underlying29 info33 rfl (by decide) (by decide) rfl rfl (by simp) (h.rowAt (i := 1) rfl).rd (by simp [Value.oneCell']) (by omega) (fun v81 w h => ?_)
                     obtain ⟨A81, c81, rfl, _⟩ := (h.rowAt (i := 5) rfl).slice)
                refine L_nil ?_
                refine T_P 9 rfl (by decide +kernel) (fun w2 => d_assign (v := .slice _ _ _) rfl) ?_   -- 8 (Op.assign t76)
                refine T_P 10 rfl (by decide +kernel) (fun w2 => d_assign (v := .slice _ _ _) rfl) ?_   -- 9 (Op.assign t81)
                refine T_end (by decide +kernel) ?_
                refine W_region ?_   -- region 19
                refine L_op (d_add' (has_i64 (by omega) (by omega)) rfl rfl) ?_   -- 82 (Op.binOp BinOp.add 3 t40 ((1)) 3)
                refine L_op (d_move (v := .int .i64 _) rfl) ?_   -- 40 (Op.move t82)
                refine L_nil ?_
                first
                  | (refine ⟨(i + 1, (o.2.foldl (putB size) (ini, lst)), (A59, c59), (A8, c8), (A9, c9), tl, rs), ⟨rfl, rfl, ?_, rfl, rfl, rfl, rfl, rfl, trivial⟩, ⟨?_, by dsimp only; omega, hv1⟩, by dsimp only; omega⟩
                     · show Value.slice A59 ((ini ++ [lst]).flatten.length + o.2.length) c59 = Value.slice A59 _ c59
                       rw [flat_put, List.length_append]
                     · have h1 := h.dropAt (i := 1) rfl
                       dsimp only
                       rw [flat_put, List.length_append, bys_append]
                       exact h1)
                  | (refine ⟨(i + 1, (ini, lst), (A7, c7), (A8, c8), (A9, c9), tl, rs), ⟨rfl, rfl, rfl, rfl, rfl, rfl, rfl, rfl, trivial⟩, ⟨?_, by dsimp only; omega, hv2⟩, by dsimp only; omega⟩
                     have hb2 : o.2.length = 0 ∨ (o.2.length : Int) > size := Decidable.byContradiction fun hc => c68 (by rw [recE, if_neg hc])
                     have h1 := (h.dropAt (i := 0) rfl).dropAt (i := 1) rfl
                     rw [recI, recL, if_pos hb2, if_pos hb2] at h1
                     exact h1)
                  | (have hg2 : ¬ (o.2.length = 0 ∨ (o.2.length : Int) > size) := fun hc => by rw [recE, if_pos hc] at c68; exact absurd c68 (by decide)
                     refine ⟨(i + 1, (recI size ini lst o.2, recL size lst o.2), (A72, c72), (A76, c76), (A81, c81), tl ++ [(recD size ini lst o.2, recA size lst o.2, o.2)], rs ++ [.slice B o.2.length cb]), ⟨rfl, rfl, ?_, ?_, ?_, rfl, rfl, rfl, trivial⟩, ⟨?_, by dsimp only; omega, hv3 hg2⟩, by dsimp only; omega⟩
                     · show Value.slice A72 ((ini ++ [lst]).flatten.length + o.2.length) c72 = Value.slice A72 _ c72
                       rw [flat_lay hg2, List.length_append]
                     · show Value.slice A76 (tl.length + 1) c76 = Value.slice A76 _ c76
                       rw [List.length_append]
                       rfl
                     · show Value.slice A81 (tl.length + 1) c81 = Value.slice A81 _ c81
                       rw [List.length_append]
                       rfl
                     · have h1 := ((((h.front (i := 3) rfl).dropAt (i := 1) rfl).dropAt (i := 1) rfl).dropAt (i := 1) rfl).dropAt (i := 1) rfl
                       dsimp only
                       rw [flat_lay hg2, List.length_append, List.length_append, bys_append, pcells_snoc]
                       exact h1)
              · obtain rfl := Option.some.inj ho
                refine ⟨_, fun w2 b2 => .inl ⟨rfl, by rw [eval_act]; exact d_loadB sc33 (v := .slice _ _ _) rfl (by first | exact (h.keep b2).cell (i := 0) rfl rfl | exact (h.keep b2).cell (i := 1) rfl rfl | exact (h.keep b2).cell (i := 2) rfl rfl | exact (h.keep b2).cell (i := 3) rfl rfl | exact (h.keep b2).cell (i := 4) rfl rfl | exact (h.keep b2).cell (i := 5) rfl rfl | exact (h.keep b2).cell (i := 6) rfl rfl | exact (h.keep b2).cell (i := 7) rfl rfl | exact (h.keep b2).cell (i := 8) rfl rfl)⟩, ?_⟩   -- 79 (Op.load 33 t78)
                refine T_fork [3, 7] (by decide +kernel) ⟨fun o ho => ?_, fun o ho => ?_, trivial⟩
                · obtain rfl := Option.some.inj ho
                  --- 76 (Op.call {(Callee.builtin Builtin.append), [t73, t75], [51, 51]})
                  first
                    | (refine L_appendRd h (i := 5) rfl Try.underlying51 info37 rfl (by decide) (by decide) rfl rfl (by simp) (h.rowAt (i := 0) rfl).rd (by simp [Value.oneCell']) (by omega) (fun v76 w h => ?_)
                       obtain ⟨A76, c76, rfl, _⟩ := (h.rowAt (i := 5) rfl).slice)
                    | (refine L_appendRd h (i := 6) rfl Try.underlying51 info37 rfl (by decide) (by decide) rfl rfl (by simp) (h.rowAt (i := 1) rfl).rd (by simp [Value.oneCell']) (by omega) (fun v76 w h => ?_)
                       obtain ⟨A76, c76, rfl, _⟩ := (h.rowAt (i := 6) rfl).slice)
                    | (refine L_appendRd h (i := 6) rfl Try.underlying51 info37 rfl (by decide) (by decide) rfl rfl (by simp) (h.rowAt (i := 0) rfl).rd (by simp [Value.oneCell']) (by omega) (fun v76 w h => ?_)
                       obtain ⟨A76, c76, rfl, _⟩ := (h.rowAt (i := 6) rfl).slice)
                  refine L_nil ?_
                  refine T_G 7 (by decide +kernel) rfl ?_
                  --- 80 (Op.buildSlice 29 1 [(0, t79)])
                  refine L_buildSlice h [.slice _ _ _] [.slice _ _ _] Try.underlying29 zs33 rfl rfl rfl rfl (by decide) (by decide) (fun g80 w h b => ?_)
                  refine L_nil ⟨b, ?_⟩
                  refine T_H 8 (by decide +kernel) rfl ?_
                  --- 81 (Op.call {(Callee.builtin Builtin.append), [t77, t80], [29, 29]})
                  first
                    | (refine L_appendRd h (i := 5) rfl Try.underlying29 info33 rfl (by decide) (by decide) rfl rfl (by simp) (h.rowAt (i := 0) rfl).rd (by simp [Value.oneCell']) (by omega) (fun v81 w h => ?_)
                       obtain ⟨A81, c81, rfl, _⟩ := (h.rowAt (i := 5) rfl).slice)
                    | (refine L_appendRd h (i := 5) rfl Try.underlying29 info33 rfl (by decide) (by decide) rfl rfl (by simp) (h.rowAt (i := 1) rfl).rd (by simp [Value.oneCell']) (by omega) (fun v81 w h => ?_)
                       obtain ⟨A81, c81, rfl, _⟩ := (h.rowAt (i := 5) rfl).slice)
                  refine L_nil ?_
                  refine T_P 9 rfl (by decide +kernel) (fun w2 => d_assign (v := .slice _ _ _) rfl) ?_   -- 8 (Op.assign t76)
                  refine T_P 10 rfl (by decide +kernel) (fun w2 => d_assign (v := .slice _ _ _) rfl) ?_   -- 9 (Op.assign t81)
                  refine T_end (by decide +kernel) ?_
                  refine W_region ?_   -- region 19
                  refine L_op (d_add' (has_i64 (by omega) (by omega)) rfl rfl) ?_   -- 82 (Op.binOp BinOp.add 3 t40 ((1)) 3)
                  refine L_op (d_move (v := .int .i64 _) rfl) ?_   -- 40 (Op.move t82)
                  refine L_nil ?_
                  first
                    | (refine ⟨(i + 1, (o.2.foldl (putB size) (ini, lst)), (A59, c59), (A8, c8), (A9, c9), tl, rs), ⟨rfl, rfl, ?_, rfl, rfl, rfl, rfl, rfl, trivial⟩, ⟨?_, by dsimp only; omega, hv1⟩, by dsimp only; omega⟩
                       · show Value.slice A59 ((ini ++ [lst]).flatten.length + o.2.length) c59 = Value.slice A59 _ c59
                         rw [flat_put, List.length_append]
                       · have h1 := h.dropAt (i := 1) rfl
                         dsimp only
                         rw [flat_put, List.length_append, bys_append]
                         exact h1)
                    | (refine ⟨(i + 1, (ini, lst), (A7, c7), (A8, c8), (A9, c9), tl, rs), ⟨rfl, rfl, rfl, rfl, rfl, rfl, rfl, rfl, trivial⟩, ⟨?_, by dsimp only; omega, hv2⟩, by dsimp only; omega⟩
                       have hb2 : o.2.length = 0 ∨ (o.2.length : Int) > size := Decidable.byContradiction fun hc => c68 (by rw [recE, if_neg hc])
                       have h1 := (h.dropAt (i := 0) rfl).dropAt (i := 1) rfl
                       rw [recI, recL, if_pos hb2, if_pos hb2] at h1
                       exact h1)
                    | (have hg2 : ¬ (o.2.length = 0 ∨ (o.2.length : Int) > size) := fun hc => by rw [recE, if_pos hc] at c68; exact absurd c68 (by decide)
                       refine ⟨(i + 1, (recI size ini lst o.2, recL size lst o.2), (A72, c72), (A76, c76), (A81, c81), tl ++ [(recD size ini lst o.2, recA size lst o.2, o.2)], rs ++ [.slice B o.2.length cb]), ⟨rfl, rfl, ?_, ?_, ?_, rfl, rfl, rfl, trivial⟩, ⟨?_, by dsimp only; omega, hv3 hg2⟩, by dsimp only; omega⟩
                       · show Value.slice A72 ((ini ++ [lst]).flatten.length + o.2.length) c72 = Value.slice A72 _ c72
                         rw [flat_lay hg2, List.length_append]
                       · show Value.slice A76 (tl.length + 1) c76 = Value.slice A76 _ c76
                         rw [List.length_append]
                         rfl
                       · show Value.slice A81 (tl.length + 1) c81 = Value.slice A81 _ c81
                         rw [List.length_append]
                         rfl
                       · have h1 := ((((h.front (i := 3) rfl).dropAt (i := 1) rfl).dropAt (i := 1) rfl).dropAt (i := 1) rfl).dropAt (i := 1) rfl
                         dsimp only
                         rw [flat_lay hg2, List.length_append, List.length_append, bys_append, pcells_snoc]
                         exact h1)
                · obtain rfl := Option.some.inj ho
                  --- 80 (Op.buildSlice 29 1 [(0, t79)])
                  refine L_buildSlice h [.slice _ _ _] [.slice _ _ _] Try.underlying29 zs33 rfl rfl rfl rfl (by decide) (by decide) (fun g80 w h b => ?_)
                  refine L_nil ⟨b, ?_⟩
                  refine T_H 3 (by decide +kernel) rfl ?_
                  --- 76 (Op.call {(Callee.builtin Builtin.append), [t73, t75], [51, 51]})
                  first
                    | (refine L_appendRd h (i := 5) rfl Try.underlying51 info37 rfl (by decide) (by decide) rfl rfl (by simp) (h.rowAt (i := 0) rfl).rd (by simp [Value.oneCell']) (by omega) (fun v76 w h => ?_)
                       obtain ⟨A76, c76, rfl, _⟩ := (h.rowAt (i := 5) rfl).slice)
                    | (refine L_appendRd h (i := 6) rfl Try.underlying51 info37 rfl (by decide) (by decide) rfl rfl (by simp) (h.rowAt (i := 1) rfl).rd (by simp [Value.oneCell']) (by omega) (fun v76 w h => ?_)
                       obtain ⟨A76, c76, rfl, _⟩ := (h.rowAt (i := 6) rfl).slice)
                    | (refine L_appendRd h (i := 6) rfl Try.underlying51 info37 rfl (by decide) (by decide) rfl rfl (by simp) (h.rowAt (i := 0) rfl).rd (by simp [Value.oneCell']) (by omega) (fun v76 w h => ?_)
                       obtain ⟨A76, c76, rfl, _⟩ := (h.rowAt (i := 6) rfl).slice)
                  refine L_nil ?_
                  refine T_H 8 (by decide +kernel) rfl ?_
                  --- 81 (Op.call {(Callee.builtin Builtin.append), [t77, t80], [29, 29]})
                  first
                    | (refine L_appendRd h (i := 5) rfl Try.underlying29 info33 rfl (by decide) (by decide) rfl rfl (by simp) (h.rowAt (i := 0) rfl).rd (by simp [Value.oneCell']) (by omega) (fun v81 w h => ?_)
                       obtain ⟨A81, c81, rfl, _⟩ := (h.rowAt (i := 5) rfl).slice)
                    | (refine L_appendRd h (i := 5) rfl Try.underlying29 info33 rfl (by decide) (by decide) rfl rfl (by simp) (h.rowAt (i := 1) rfl).rd (by simp [Value.oneCell']) (by omega) (fun v81 w h => ?_)
                       obtain ⟨A81, c81, rfl, _⟩ := (h.rowAt (i := 5) rfl).slice)
                  refine L_nil ?_
                  refine T_P 9 rfl (by decide +kernel) (fun w2 => d_assign (v := .slice _ _ _) rfl) ?_   -- 8 (Op.assign t76)
                  refine T_P 10 rfl (by decide +kernel) (fun w2 => d_assign (v := .slice _ _ _) rfl) ?_   -- 9 (Op.assign t81)
                  refine T_end (by decide +kernel) ?_
                  refine W_region ?_   -- region 19
                  refine L_op (d_add' (has_i64 (by omega) (by omega)) rfl rfl) ?_   -- 82 (Op.binOp BinOp.add 3 t40 ((1)) 3)
                  refine L_op (d_move (v := .int .i64 _) rfl) ?_   -- 40 (Op.move t82)
                  refine L_nil ?_
                  first
                    | (refine ⟨(i + 1, (o.2.foldl (putB size) (ini, lst)), (A59, c59), (A8, c8), (A9, c9), tl, rs), ⟨rfl, rfl, ?_, rfl, rfl, rfl, rfl, rfl, trivial⟩, ⟨?_, by dsimp only; omega, hv1⟩, by dsimp only; omega⟩
                       · show Value.slice A59 ((ini ++ [lst]).flatten.length + o.2.length) c59 = Value.slice A59 _ c59
                         rw [flat_put, List.length_append]
                       · have h1 := h.dropAt (i := 1) rfl
                         dsimp only
                         rw [flat_put, List.length_append, bys_append]
                         exact h1)
                    | (refine ⟨(i + 1, (ini, lst), (A7, c7), (A8, c8), (A9, c9), tl, rs), ⟨rfl, rfl, rfl, rfl, rfl, rfl, rfl, rfl, trivial⟩, ⟨?_, by dsimp only; omega, hv2⟩, by dsimp only; omega⟩
                       have hb2 : o.2.length = 0 ∨ (o.2.length : Int) > size := Decidable.byContradiction fun hc => c68 (by rw [recE, if_neg hc])
                       have h1 := (h.dropAt (i := 0) rfl).dropAt (i := 1) rfl
                       rw [recI, recL, if_pos hb2, if_pos hb2] at h1
                       exact h1)
                    | (have hg2 : ¬ (o.2.length = 0 ∨ (o.2.length : Int) > size) := fun hc => by rw [recE, if_pos hc] at c68; exact absurd c68 (by decide)
                       refine ⟨(i + 1, (recI size ini lst o.2, recL size lst o.2), (A72, c72), (A76, c76), (A81, c81), tl ++ [(recD size ini lst o.2, recA size lst o.2, o.2)], rs ++ [.slice B o.2.length cb]), ⟨rfl, rfl, ?_, ?_, ?_, rfl, rfl, rfl, trivial⟩, ⟨?_, by dsimp only; omega, hv3 hg2⟩, by dsimp only; omega⟩
                       · show Value.slice A72 ((ini ++ [lst]).flatten.length + o.2.length) c72 = Value.slice A72 _ c72
                         rw [flat_lay hg2, List.length_append]
                       · show Value.slice A76 (tl.length + 1) c76 = Value.slice A76 _ c76
                         rw [List.length_append]
                         rfl
                       · show Value.slice A81 (tl.length + 1) c81 = Value.slice A81 _ c81
                         rw [List.length_append]
                         rfl
                       · have h1 := ((((h.front (i := 3) rfl).dropAt (i := 1) rfl).dropAt (i := 1) rfl).dropAt (i := 1) rfl).dropAt (i := 1) rfl
                         dsimp only
                         rw [flat_lay hg2, List.length_append, List.length_append, bys_append, pcells_snoc]
                         exact h1)
            · obtain rfl := Option.some.inj ho
              refine ⟨_, fun w2 b2 => .inl ⟨rfl, by rw [eval_act]; exact d_loadB sc33 (v := .slice _ _ _) rfl (by first | exact (h.keep b2).cell (i := 0) rfl rfl | exact (h.keep b2).cell (i := 1) rfl rfl | exact (h.keep b2).cell (i := 2) rfl rfl | exact (h.keep b2).cell (i := 3) rfl rfl | exact (h.keep b2).cell (i := 4) rfl rfl | exact (h.keep b2).cell (i := 5) rfl rfl | exact (h.keep b2).cell (i := 6) rfl rfl | exact (h.keep b2).cell (i := 7) rfl rfl | exact (h.keep b2).cell (i := 8) rfl rfl)⟩, ?_⟩   -- 79 (Op.load 33 t78)
              refine T_fork [2, 7] (by decide +kernel) ⟨fun o ho => ?_, fun o ho => ?_, trivial⟩
              · obtain rfl := Option.some.inj ho
                --- 75 (Op.buildSlice 51 1 [(0, t74)])
                refine L_buildSlice h [.agg #[.int .i64 _, .int .i64 _]] [.int .i64 _, .int .i64 _] Try.underlying51 zs37 rfl rfl rfl rfl (by decide) (by decide) (fun g75 w h b => ?_)
                refine L_nil ⟨b, ?_⟩
                refine T_fork [3, 7] (by decide +kernel) ⟨fun o ho => ?_, fun o ho => ?_, trivial⟩
                · obtain rfl := Option.some.inj ho
                  --- 76 (Op.call {(Callee.builtin Builtin.append), [t73, t75], [51, 51]})
                  first
                    | (refine L_appendRd h (i := 5) rfl Try.underlying51 info37 rfl (by decide) (by decide) rfl rfl (by simp) (h.rowAt (i := 0) rfl).rd (by simp [Value.oneCell']) (by omega) (fun v76 w h => ?_)
                       obtain ⟨A76, c76, rfl, _⟩ := (h.rowAt (i := 5) rfl).slice)
                    | (refine L_appendRd h (i := 6) rfl Try.underlying51 info37 rfl (by decide) (by decide) rfl rfl (by simp) (h.rowAt (i := 1) rfl).rd (by simp [Value.oneCell']) (by omega) (fun v76 w h => ?_)
                       obtain ⟨A76, c76, rfl, _⟩ := (h.rowAt (i := 6) rfl).slice)
                    | (refine L_appendRd h (i := 6) rfl Try.underlying51 info37 rfl (by decide) (by decide) rfl rfl (by simp) (h.rowAt (i := 0) rfl).rd (by simp [Value.oneCell']) (by omega) (fun v76 w h => ?_)
                       obtain ⟨A76, c76, rfl, _⟩ := (h.rowAt (i := 6) rfl).slice)
                  refine L_nil ?_
                  refine T_G 7 (by decide +kernel) rfl ?_
                  --- 80 (Op.buildSlice 29 1 [(0, t79)])
                  refine L_buildSlice h [.slice _ _ _] [.slice _ _ _] Try.underlying29 zs33 rfl rfl rfl rfl (by decide) (by decide) (fun g80 w h b => ?_)
                  refine L_nil ⟨b, ?_⟩
                  refine T_H 8 (by decide +kernel) rfl ?_
                  --- 81 (Op.call {(Callee.builtin Builtin.append), [t77, t80], [29, 29]})
                  first
                    | (refine L_appendRd h (i := 5) rfl Try.underlying29 info33 rfl (by decide) (by decide) rfl rfl (by simp) (h.rowAt (i := 0) rfl).rd (by simp [Value.oneCell']) (by omega) (fun v81 w h => ?_)
                       obtain ⟨A81, c81, rfl, _⟩ := (h.rowAt (i := 5) rfl).slice)
                    | (refine L_appendRd h (i := 5) rfl Try.underlying29 info33 rfl (by decide) (by decide) rfl rfl (by simp) (h.rowAt (i := 1) rfl).rd (by simp [Value.oneCell']) (by omega) (fun v81 w h => ?_)
                       obtain ⟨A81, c81, rfl, _⟩ := (h.rowAt (i := 5) rfl).slice)
                  refine L_nil ?_
                  refine T_P 9 rfl (by decide +kernel) (fun w2 => d_assign (v := .slice _ _ _) rfl) ?_   -- 8 (Op.assign t76)
                  refine T_P 10 rfl (by decide +kernel) (fun w2 => d_assign (v := .slice _ _ _) rfl) ?_   -- 9 (Op.assign t81)
                  refine T_end (by decide +kernel) ?_
                  refine W_region ?_   -- region 19
                  refine L_op (d_add' (has_i64 (by omega) (by omega)) rfl rfl) ?_   -- 82 (Op.binOp BinOp.add 3 t40 ((1)) 3)
                  refine L_op (d_move (v := .int .i64 _) rfl) ?_   -- 40 (Op.move t82)
                  refine L_nil ?_
                  first
                    | (refine ⟨(i + 1, (o.2.foldl (putB size) (ini, lst)), (A59, c59), (A8, c8), (A9, c9), tl, rs), ⟨rfl, rfl, ?_, rfl, rfl, rfl, rfl, rfl, trivial⟩, ⟨?_, by dsimp only; omega, hv1⟩, by dsimp only; omega⟩
                       · show Value.slice A59 ((ini ++ [lst]).flatten.length + o.2.length) c59 = Value.slice A59 _ c59
                         rw [flat_put, List.length_append]
                       · have h1 := h.dropAt (i := 1) rfl
                         dsimp only
                         rw [flat_put, List.length_append, bys_append]
                         exact h1)
                    | (refine ⟨(i + 1, (ini, lst), (A7, c7), (A8, c8), (A9, c9), tl, rs), ⟨rfl, rfl, rfl, rfl, rfl, rfl, rfl, rfl, trivial⟩, ⟨?_, by dsimp only; omega, hv2⟩, by dsimp only; omega⟩
                       have hb2 : o.2.length = 0 ∨ (o.2.length : Int) > size := Decidable.byContradiction fun hc => c68 (by rw [recE, if_neg hc])
                       have h1 := (h.dropAt (i := 0) rfl).dropAt (i := 1) rfl
                       rw [recI, recL, if_pos hb2, if_pos hb2] at h1
                       exact h1)
                    | (have hg2 : ¬ (o.2.length = 0 ∨ (o.2.length : Int) > size) := fun hc => by rw [recE, if_pos hc] at c68; exact absurd c68 (by decide)
                       refine ⟨(i + 1, (recI size ini lst o.2, recL size lst o.2), (A72, c72), (A76, c76), (A81, c81), tl ++ [(recD size ini lst o.2, recA size lst o.2, o.2)], rs ++ [.slice B o.2.length cb]), ⟨rfl, rfl, ?_, ?_, ?_, rfl, rfl, rfl, trivial⟩, ⟨?_, by dsimp only; omega, hv3 hg2⟩, by dsimp only; omega⟩
                       · show Value.slice A72 ((ini ++ [lst]).flatten.length + o.2.length) c72 = Value.slice A72 _ c72
                         rw [flat_lay hg2, List.length_append]
                       · show Value.slice A76 (tl.length + 1) c76 = Value.slice A76 _ c76
                         rw [List.length_append]
                         rfl
                       · show Value.slice A81 (tl.length + 1) c81 = Value.slice A81 _ c81
                         rw [List.length_append]
                         rfl
                       · have h1 := ((((h.front (i := 3) rfl).dropAt (i := 1) rfl).dropAt (i := 1) rfl).dropAt (i := 1) rfl).dropAt (i := 1) rfl
                         dsimp only
                         rw [flat_lay hg2, List.length_append, List.length_append, bys_append, pcells_snoc]
                         exact h1)
                · obtain rfl := Option.some.inj ho
                  --- 80 (Op.buildSlice 29 1 [(0, t79)])
                  refine L_buildSlice h [.slice _ _ _] [.slice _ _ _] Try.underlying29 zs33 rfl rfl rfl rfl (by decide) (by decide) (fun g80 w h b => ?_)
                  refine L_nil ⟨b, ?_⟩
                  refine T_H 3 (by decide +kernel) rfl ?_
                  --- 76 (Op.call {(Callee.builtin Builtin.append), [t73, t75], [51, 51]})
                  first
                    | (refine L_appendRd h (i := 5) rfl Try.underlying51 info37 rfl (by decide) (by decide) rfl rfl (by simp) (h.rowAt (i := 0) rfl).rd (by simp [Value.oneCell']) (by omega) (fun v76 w h => ?_)
                       obtain ⟨A76, c76, rfl, _⟩ := (h.rowAt (i := 5) rfl).slice)
                    | (refine L_appendRd h (i := 6) rfl Try.underlying51 info37 rfl (by decide) (by decide) rfl rfl (by simp) (h.rowAt (i := 1) rfl).rd (by simp [Value.oneCell']) (by omega) (fun v76 w h => ?_)
                       obtain ⟨A76, c76, rfl, _⟩ := (h.rowAt (i := 6) rfl).slice)
                    | (refine L_appendRd h (i := 6) rfl Try.underlying51 info37 rfl (by decide) (by decide) rfl rfl (by simp) (h.rowAt (i := 0) rfl).rd (by simp [Value.oneCell']) (by omega) (fun v76 w h => ?_)
                       obtain ⟨A76, c76, rfl, _⟩ := (h.rowAt (i := 6) rfl).slice)
                  refine L_nil ?_
                  refine T_H 8 (by decide +kernel) rfl ?_
                  --- 81 (Op.call {(Callee.builtin Builtin.append), [t77, t80], [29, 29]})
                  first
                    | (refine L_appendRd h (i := 5) rfl Try.underlying29 info33 rfl (by decide) (by decide) rfl rfl (by simp) (h.rowAt (i := 0) rfl).rd (by simp [Value.oneCell']) (by omega) (fun v81 w h => ?_)
                       obtain ⟨A81, c81, rfl, _⟩ := (h.rowAt (i := 5) rfl).slice)
                    | (refine L_appendRd h (i := 5) rfl Try.underlying29 info33 rfl (by decide) (by decide) rfl rfl (by simp) (h.rowAt (i := 1) rfl).rd (by simp [Value.oneCell']) (by omega) (fun v81 w h => ?_)
                       obtain ⟨A81, c81, rfl, _⟩ := (h.rowAt (i := 5) rfl).slice)
                  refine L_nil ?_
                  refine T_P 9 rfl (by decide +kernel) (fun w2 => d_assign (v := .slice _ _ _) rfl) ?_   -- 8 (Op.assign t76)
                  refine T_P 10 rfl (by decide +kernel) (fun w2 => d_assign (v := .slice _ _ _) rfl) ?_   -- 9 (Op.assign t81)
                  refine T_end (by decide +kernel) ?_
                  refine W_region ?_   -- region 19
                  refine L_op (d_add' (has_i64 (by omega) (by omega)) rfl rfl) ?_   -- 82 (Op.binOp BinOp.add 3 t40 ((1)) 3)
                  refine L_op (d_move (v := .int .i64 _) rfl) ?_   -- 40 (Op.move t82)
                  refine L_nil ?_
                  first
                    | (refine ⟨(i + 1, (o.2.foldl (putB size) (ini, lst)), (A59, c59), (A8, c8), (A9, c9), tl, rs), ⟨rfl, rfl, ?_, rfl, rfl, rfl, rfl, rfl, trivial⟩, ⟨?_, by dsimp only; omega, hv1⟩, by dsimp only; omega⟩
                       · show Value.slice A59 ((ini ++ [lst]).flatten.length + o.2.length) c59 = Value.slice A59 _ c59
                         rw [flat_put, List.length_append]
                       · have h1 := h.dropAt (i := 1) rfl
                         dsimp only
                         rw [flat_put, List.length_append, bys_append]
                         exact h1)
                    | (refine ⟨(i + 1, (ini, lst), (A7, c7), (A8, c8), (A9, c9), tl, rs), ⟨rfl, rfl, rfl, rfl, rfl, rfl, rfl, rfl, trivial⟩, ⟨?_, by dsimp only; omega, hv2⟩, by dsimp only; omega⟩
                       have hb2 : o.2.length = 0 ∨ (o.2.length : Int) > size := Decidable.byContradiction fun hc => c68 (by rw [recE, if_neg hc])
                       have h1 := (h.dropAt (i := 0) rfl).dropAt (i := 1) rfl
                       rw [recI, recL, if_pos hb2, if_pos hb2] at h1
                       exact h1)
                    | (have hg2 : ¬ (o.2.length = 0 ∨ (o.2.length : Int) > size) := fun hc => by rw [recE, if_pos hc] at c68; exact absurd c68 (by decide)
                       refine ⟨(i + 1, (recI size ini lst o.2, recL size lst o.2), (A72, c72), (A76, c76), (A81, c81), tl ++ [(recD size ini lst o.2, recA size lst o.2, o.2)], rs ++ [.slice B o.2.length cb]), ⟨rfl, rfl, ?_, ?_, ?_, rfl, rfl, rfl, trivial⟩, ⟨?_, by dsimp only; omega, hv3 hg2⟩, by dsimp only; omega⟩
                       · show Value.slice A72 ((ini ++ [lst]).flatten.length + o.2.length) c72 = Value.slice A72 _ c72
                         rw [flat_lay hg2, List.length_append]
                       · show Value.slice A76 (tl.length + 1) c76 = Value.slice A76 _ c76
                         rw [List.length_append]
                         rfl
                       · show Value.slice A81 (tl.length + 1) c81 = Value.slice A81 _ c81
                         rw [List.length_append]
                         rfl
                       · have h1 := ((((h.front (i := 3) rfl).dropAt (i := 1) rfl).dropAt (i := 1) rfl).dropAt (i := 1) rfl).dropAt (i := 1) rfl
                         dsimp only
                         rw [flat_lay hg2, List.length_append, List.length_append, bys_append, pcells_snoc]
                         exact h1)
              · obtain rfl := Option.some.inj ho
                --- 80 (Op.buildSlice 29 1 [(0, t79)])
                refine L_buildSlice h [.slice _ _ _] [.slice _ _ _] Try.underlying29 zs33 rfl rfl rfl rfl (by decide) (by decide) (fun g80 w h b => ?_)
                refine L_nil ⟨b, ?_⟩
                refine T_G 2 (by decide +kernel) rfl ?_
                --- 75 (Op.buildSlice 51 1 [(0, t74)])
                refine L_buildSlice h [.agg #[.int .i64 _, .int .i64 _]] [.int .i64 _, .int .i64 _] Try.underlying51 zs37 rfl rfl rfl rfl (by decide) (by decide) (fun g75 w h b => ?_)
                refine L_nil ⟨b, ?_⟩
                refine T_H 3 (by decide +kernel) rfl ?_
                --- 76 (Op.call {(Callee.builtin Builtin.append), [t73, t75], [51, 51]})
                first
                  | (refine L_appendRd h (i := 5) rfl Try.underlying51 info37 rfl (by decide) (by decide) rfl rfl (by simp) (h.rowAt (i := 0) rfl).rd (by simp [Value.oneCell']) (by omega) (fun v76 w h => ?_)
                     obtain ⟨A76, c76, rfl, _⟩ := (h.rowAt (i := 5) rfl).slice)
                  | (refine L_appendRd h (i := 6) rfl Try.underlying51 info37 rfl (by decide) (by decide) rfl rfl (by simp) (h.rowAt (i := 1) rfl).rd (by simp [Value.oneCell']) (by omega) (fun v76 w h => ?_)
                     obtain ⟨A76, c76, rfl, _⟩ := (h.rowAt (i := 6) rfl).slice)
                  | (refine L_appendRd h (i := 6) rfl Try.underlying51 info37 rfl (by decide) (by decide) rfl rfl (by simp) (h.rowAt (i := 0) rfl).rd (by simp [Value.oneCell']) (by omega) (fun v76 w h => ?_)
                     obtain ⟨A76, c76, rfl, _⟩ := (h.rowAt (i := 6) rfl).slice)
                refine L_nil ?_
                refine T_H 8 (by decide +kernel) rfl ?_
                --- 81 (Op.call {(Callee.builtin Builtin.append), [t77, t80], [29, 29]})
                first
                  | (refine L_appendRd h (i := 5) rfl Try.underlying29 info33 rfl (by decide) (by decide) rfl rfl (by simp) (h.rowAt (i := 0) rfl).rd (by simp [Value.oneCell']) (by omega) (fun v81 w h => ?_)
                     obtain ⟨A81, c81, rfl, _⟩ := (h.rowAt (i := 5) rfl).slice)
                  | (refine L_appendRd h (i := 5) rfl Try.underlying29 info33 rfl (by decide) (by decide) rfl rfl (by simp) (h.rowAt (i := 1) rfl).rd (by simp [Value.oneCell']) (by omega) (fun v81 w h => ?_)
                     obtain ⟨A81, c81, rfl, _⟩ := (h.rowAt (i := 5) rfl).slice)
                refine L_nil ?_
                refine T_P 9 rfl (by decide +kernel) (fun w2 => d_assign (v := .slice _ _ _) rfl) ?_   -- 8 (Op.assign t76)
                refine T_P 10 rfl (by decide +kernel) (fun w2 => d_assign (v := .slice _ _ _) rfl) ?_   -- 9 (Op.assign t81)
                refine T_end (by decide +kernel) ?_
                refine W_region ?_   -- region 19
                refine L_op (d_add' (has_i64 (by omega) (by omega)) rfl rfl) ?_   -- 82 (Op.binOp BinOp.add 3 t40 ((1)) 3)
                refine L_op (d_move (v := .int .i64 _) rfl) ?_   -- 40 (Op.move t82)
                refine L_nil ?_
                first
                  | (refine ⟨(i + 1, (o.2.foldl (putB size) (ini, lst)), (A59, c59), (A8, c8), (A9, c9), tl, rs), ⟨rfl, rfl, ?_, rfl, rfl, rfl, rfl, rfl, trivial⟩, ⟨?_, by dsimp only; omega, hv1⟩, by dsimp only; omega⟩
                     · show Value.slice A59 ((ini ++ [lst]).flatten.length + o.2.length) c59 = Value.slice A59 _ c59
                       rw [flat_put, List.length_append]
                     · have h1 := h.dropAt (i := 1) rfl
                       dsimp only
                       rw [flat_put, List.length_append, bys_append]
                       exact h1)
                  | (refine ⟨(i + 1, (ini, lst), (A7, c7), (A8, c8), (A9, c9), tl, rs), ⟨rfl, rfl, rfl, rfl, rfl, rfl, rfl, rfl, trivial⟩, ⟨?_, by dsimp only; omega, hv2⟩, by dsimp only; omega⟩
                     have hb2 : o.2.length = 0 ∨ (o.2.length : Int) > size := Decidable.byContradiction fun hc => c68 (by rw [recE, if_neg hc])
                     have h1 := (h.dropAt (i := 0) rfl).dropAt (i := 1) rfl
                     rw [recI, recL, if_pos hb2, if_pos hb2] at h1
                     exact h1)
                  | (have hg2 : ¬ (o.2.length = 0 ∨ (o.2.length : Int) > size) := fun hc => by rw [recE, if_pos hc] at c68; exact absurd c68 (by decide)
                     refine ⟨(i + 1, (recI size ini lst o.2, recL size lst o.2), (A72, c72), (A76, c76), (A81, c81), tl ++ [(recD size ini lst o.2, recA size lst o.2, o.2)], rs ++ [.slice B o.2.length cb]), ⟨rfl, rfl, ?_, ?_, ?_, rfl, rfl, rfl, trivial⟩, ⟨?_, by dsimp only; omega, hv3 hg2⟩, by dsimp only; omega⟩
                     · show Value.slice A72 ((ini ++ [lst]).flatten.length + o.2.length) c72 = Value.slice A72 _ c72
                       rw [flat_lay hg2, List.length_append]
                     · show Value.slice A76 (tl.length + 1) c76 = Value.slice A76 _ c76
                       rw [List.length_append]
                       rfl
                     · show Value.slice A81 (tl.length + 1) c81 = Value.slice A81 _ c81
                       rw [List.length_append]
                       rfl
                     · have h1 := ((((h.front (i := 3) rfl).dropAt (i := 1) rfl).dropAt (i := 1) rfl).dropAt (i := 1) rfl).dropAt (i := 1) rfl
                       dsimp only
                       rw [flat_lay hg2, List.length_append, List.length_append, bys_append, pcells_snoc]
                       exact h1)
          · -- c68 no
            refine W_skip ?_
            refine W_region ?_   -- region 19
            refine L_op (d_add' (has_i64 (by omega) (by omega)) rfl rfl) ?_   -- 82 (Op.binOp BinOp.add 3 t40 ((1)) 3)
            refine L_op (d_move (v := .int .i64 _) rfl) ?_   -- 40 (Op.move t82)
            refine L_nil ?_
            first
              | (refine ⟨(i + 1, (o.2.foldl (putB size) (ini, lst)), (A59, c59), (A8, c8), (A9, c9), tl, rs), ⟨rfl, rfl, ?_, rfl, rfl, rfl, rfl, rfl, trivial⟩, ⟨?_, by dsimp only; omega, hv1⟩, by dsimp only; omega⟩
                 · show Value.slice A59 ((ini ++ [lst]).flatten.length + o.2.length) c59 = Value.slice A59 _ c59
                   rw [flat_put, List.length_append]
                 · have h1 := h.dropAt (i := 1) rfl
                   dsimp only
                   rw [flat_put, List.length_append, bys_append]
                   exact h1)
              | (refine ⟨(i + 1, (ini, lst), (A7, c7), (A8, c8), (A9, c9), tl, rs), ⟨rfl, rfl, rfl, rfl, rfl, rfl, rfl, rfl, trivial⟩, ⟨?_, by dsimp only; omega, hv2⟩, by dsimp only; omega⟩
                 have hb2 : o.2.length = 0 ∨ (o.2.length : Int) > size := Decidable.byContradiction fun hc => c68 (by rw [recE, if_neg hc])
                 have h1 := (h.dropAt (i := 0) rfl).dropAt (i := 1) rfl
                 rw [recI, recL, if_pos hb2, if_pos hb2] at h1
                 exact h1)
              | (have hg2 : ¬ (o.2.length = 0 ∨ (o.2.length : Int) > size) := fun hc => by rw [recE, if_pos hc] at c68; exact absurd c68 (by decide)
                 refine ⟨(i + 1, (recI size ini lst o.2, recL size lst o.2), (A72, c72), (A76, c76), (A81, c81), tl ++ [(recD size ini lst o.2, recA size lst o.2, o.2)], rs ++ [.slice B o.2.length cb]), ⟨rfl, rfl, ?_, ?_, ?_, rfl, rfl, rfl, trivial⟩, ⟨?_, by dsimp only; omega, hv3 hg2⟩, by dsimp only; omega⟩
                 · show Value.slice A72 ((ini ++ [lst]).flatten.length + o.2.length) c72 = Value.slice A72 _ c72
                   rw [flat_lay hg2, List.length_append]
                 · show Value.slice A76 (tl.length + 1) c76 = Value.slice A76 _ c76
                   rw [List.length_append]
                   rfl
                 · show Value.slice A81 (tl.length + 1) c81 = Value.slice A81 _ c81
                   rw [List.length_append]
                   rfl
                 · have h1 := ((((h.front (i := 3) rfl).dropAt (i := 1) rfl).dropAt (i := 1) rfl).dropAt (i := 1) rfl).dropAt (i := 1) rfl
                   dsimp only
                   rw [flat_lay hg2, List.length_append, List.length_append, bys_append, pcells_snoc]
                   exact h1)
      · -- guard 47 false
        refine L_off rfl rfl rfl ?_   -- 48 (Op.fieldAddr 35 t11 0)
        refine L_off rfl rfl rfl ?_   -- 49 (Op.load 3 t48)
        refine L_off rfl rfl rfl ?_   -- 50 (Op.binOp BinOp.neq 3 t49 ((1)) 3)
        refine L_op (d_pick (r := .bool _) rfl rfl) ?_   -- 51 (Op.pick t47 t50 ((false)))
        refine L_nil ?_
        refine W_false (rfl) ?_
        refine W_skip ?_
        refine W_seq ?_
        refine W_region ?_   -- region 15
        refine L_op (d_move (v := .pointer _) rfl) ?_   -- 61 (Op.move t5)
        refine L_op (d_fieldAddrB fa35_1 rfl) ?_   -- 62 (Op.fieldAddr 35 t11 1)
        refine L_op (d_loadB sc33 (v := .slice _ _ _) rfl (by first | exact (h).cell (i := 0) rfl rfl | exact (h).cell (i := 1) rfl rfl | exact (h).cell (i := 2) rfl rfl | exact (h).cell (i := 3) rfl rfl | exact (h).cell (i := 4) rfl rfl | exact (h).cell (i := 5) rfl rfl | exact (h).cell (i := 6) rfl rfl | exact (h).cell (i := 7) rfl rfl | exact (h).cell (i := 8) rfl rfl)) ?_   -- 63 (Op.load 33 t62)
        replace h := h.up1
        --- 64 (Op.call {(Callee.value (Operand.func 11)), [t61, t63], [25, 33]})
        refine L_callB fn11 rfl (record_calls h hrb (by omega) (by omega) (by omega) (by omega)) ?_
        rintro _ w ⟨rfl, h⟩
        refine L_op (d_move (v := .tuple _) rfl) ?_   -- 60 (Op.move t64)
        refine L_op (d_extract (v := .agg _) rfl rfl) ?_   -- 65 (Op.extract t60 0)
        refine L_op (d_extract (v := .int .i64 _) rfl rfl) ?_   -- 66 (Op.extract t60 1)
        --- 12 (Op.alloc 37)
        refine L_allocB h [.int .i64 0, .int .i64 0] zi37 rfl (fun g12 w h b => ?_)
        --- None (Op.store 37 t12 t65)
        first
          | refine L_storeBlk h (i := 0) (vs := [.int .i64 _, .int .i64 _]) rfl sz37 rfl rfl (by simp [Value.oneCell']) rfl (fun w h => ?_)
          | refine L_storeBlk h (i := 1) (vs := [.int .i64 _, .int .i64 _]) rfl sz37 rfl rfl (by simp [Value.oneCell']) rfl (fun w h => ?_)
          | refine L_storeBlk h (i := 2) (vs := [.int .i64 _, .int .i64 _]) rfl sz37 rfl rfl (by simp [Value.oneCell']) rfl (fun w h => ?_)
          | refine L_storeBlk h (i := 3) (vs := [.int .i64 _, .int .i64 _]) rfl sz37 rfl rfl (by simp [Value.oneCell']) rfl (fun w h => ?_)
          | refine L_storeBlk h (i := 4) (vs := [.int .i64 _, .int .i64 _]) rfl sz37 rfl rfl (by simp [Value.oneCell']) rfl (fun w h => ?_)
          | refine L_storeBlk h (i := 5) (vs := [.int .i64 _, .int .i64 _]) rfl sz37 rfl rfl (by simp [Value.oneCell']) rfl (fun w h => ?_)
          | refine L_storeBlk h (i := 6) (vs := [.int .i64 _, .int .i64 _]) rfl sz37 rfl rfl (by simp [Value.oneCell']) rfl (fun w h => ?_)
          | refine L_storeBlk h (i := 7) (vs := [.int .i64 _, .int .i64 _]) rfl sz37 rfl rfl (by simp [Value.oneCell']) rfl (fun w h => ?_)
        refine L_op (d_assign (v := .int .i64 _) rfl) ?_   -- 13 (Op.assign t66)
        refine L_nil ?_
        refine W_seq ?_
        refine W_region ?_   -- region 16
        refine L_op (d_move (v := .int .i64 _) rfl) ?_   -- 67 (Op.move t13)
        refine L_op (d_eql rfl rfl) ?_   -- 68 (Op.binOp BinOp.eql 26 t67 ((0)) 26)
        refine L_nil ?_
        refine W_if rfl (fun c68 => ?_) (fun c68 => ?_)
        · -- c68 yes
          refine W_seq ?_
          refine W_region ?_   -- region 17
          refine L_op (d_move (v := .slice _ _ _) rfl) ?_   -- 69 (Op.move t7)
          refine L_op (d_fieldAddrB fa35_1 rfl) ?_   -- 70 (Op.fieldAddr 35 t11 1)
          refine L_op (d_loadB sc33 (v := .slice _ _ _) rfl (by first | exact (h).cell (i := 0) rfl rfl | exact (h).cell (i := 1) rfl rfl | exact (h).cell (i := 2) rfl rfl | exact (h).cell (i := 3) rfl rfl | exact (h).cell (i := 4) rfl rfl | exact (h).cell (i := 5) rfl rfl | exact (h).cell (i := 6) rfl rfl | exact (h).cell (i := 7) rfl rfl | exact (h).cell (i := 8) rfl rfl)) ?_   -- 71 (Op.load 33 t70)
          --- 72 (Op.call {(Callee.builtin Builtin.append), [t69, t71], [33, 33]})
          refine L_appendRd h (i := 5) rfl Try.underlying33 info5 rfl (by decide) (by decide) rfl rfl (by simp [ints]) (hrb.at h) (bys_one _) (by omega) (fun v72 w h => ?_)
          obtain ⟨A72, c72, rfl, _⟩ := (h.rowAt (i := 5) rfl).slice
          refine L_op (d_assign (v := .slice _ _ _) rfl) ?_   -- 7 (Op.assign t72)
          refine L_nil ?_
          refine W_draw [.P, .S, .G, .H, .P, .P, .S, .G, .H, .P, .P] [[], [], [1], [0, 1, 2], [], [], [5], [5, 6], [0, 1, 2, 3, 4, 5, 6, 7], [0, 1, 2, 3, 4, 5, 6, 7, 8], [0, 1, 2, 3, 4, 5, 6, 7, 8, 9]] mixed (by decide +kernel) (fun w b => ?_)   -- region 18
          replace h := h.keep b
          refine T_P 0 rfl (by decide +kernel) (fun w2 => d_move (v := .slice _ _ _) rfl) ?_   -- 73 (Op.move t8)
          refine T_S 1 rfl (by decide +kernel) (fun w2 b2 => by first | exact d_loadBlk ag37 (h.keep b2) (i := 0) rfl rfl rfl | exact d_loadBlk ag37 (h.keep b2) (i := 1) rfl rfl rfl | exact d_loadBlk ag37 (h.keep b2) (i := 2) rfl rfl rfl | exact d_loadBlk ag37 (h.keep b2) (i := 3) rfl rfl rfl | exact d_loadBlk ag37 (h.keep b2) (i := 4) rfl rfl rfl | exact d_loadBlk ag37 (h.keep b2) (i := 5) rfl rfl rfl | exact d_loadBlk ag37 (h.keep b2) (i := 6) rfl rfl rfl | exact d_loadBlk ag37 (h.keep b2) (i := 7) rfl rfl rfl | exact d_loadBlk ag37 (h.keep b2) (i := 8) rfl rfl rfl) ?_   -- 74 (Op.load 37 t12)
          refine T_P 4 rfl (by decide +kernel) (fun w2 => d_move (v := .slice _ _ _) rfl) ?_   -- 77 (Op.move t9)
          refine T_P 5 rfl (by decide +kernel) (fun w2 => d_fieldAddrB fa35_1 rfl) ?_   -- 78 (Op.fieldAddr 35 t11 1)
          refine T_fork [2, 6] (by decide +kernel) ⟨fun o ho => ?_, fun o ho => ?_, trivial⟩
          · obtain rfl := Option.some.inj ho
            --- 75 (Op.buildSlice 51 1 [(0, t74)])
            refine L_buildSlice h [.agg #[.int .i64 _, .int .i64 _]] [.int .i64 _, .int .i64 _] Try.underlying51 zs37 rfl rfl rfl rfl (by decide) (by decide) (fun g75 w h b => ?_)
            refine L_nil ⟨b, ?_⟩
            refine T_fork [3, 6] (by decide +kernel) ⟨fun o ho => ?_, fun o ho => ?_, trivial⟩
            · obtain rfl := Option.some.inj ho
              --- 76 (Op.call {(Callee.builtin Builtin.append), [t73, t75], [51, 51]})
              first
                | (refine L_appendRd h (i := 5) rfl Try.underlying51 info37 rfl (by decide) (by decide) rfl rfl (by simp) (h.rowAt (i := 0) rfl).rd (by simp [Value.oneCell']) (by omega) (fun v76 w h => ?_)
                   obtain ⟨A76, c76, rfl, _⟩ := (h.rowAt (i := 5) rfl).slice)
                | (refine L_appendRd h (i := 6) rfl Try.underlying51 info37 rfl (by decide) (by decide) rfl rfl (by simp) (h.rowAt (i := 1) rfl).rd (by simp [Value.oneCell']) (by omega) (fun v76 w h => ?_)
                   obtain ⟨A76, c76, rfl, _⟩ := (h.rowAt (i := 6) rfl).slice)
                | (refine L_appendRd h (i := 6) rfl Try.underlying51 info37 rfl (by decide) (by decide) rfl rfl (by simp) (h.rowAt (i := 0) rfl).rd (by simp [Value.oneCell']) (by omega) (fun v76 w h => ?_)
                   obtain ⟨A76, c76, rfl, _⟩ := (h.rowAt (i := 6) rfl).slice)
              refine L_nil ?_
              refine T_S 6 rfl (by decide +kernel) (fun w2 b2 => d_loadB sc33 (v := .slice _ _ _) rfl (by first | exact (h.keep b2).cell (i := 0) rfl rfl | exact (h.keep b2).cell (i := 1) rfl rfl | exact (h.keep b2).cell (i := 2) rfl rfl | exact (h.keep b2).cell (i := 3) rfl rfl | exact (h.keep b2).cell (i := 4) rfl rfl | exact (h.keep b2).cell (i := 5) rfl rfl | exact (h.keep b2).cell (i := 6) rfl rfl | exact (h.keep b2).cell (i := 7) rfl rfl | exact (h.keep b2).cell (i := 8) rfl rfl)) ?_   -- 79 (Op.load 33 t78)
              refine T_G 7 (by decide +kernel) rfl ?_
              --- 80 (Op.buildSlice 29 1 [(0, t79)])
              refine L_buildSlice h [.slice _ _ _] [.slice _ _ _] Try.underlying29 zs33 rfl rfl rfl rfl (by decide) (by decide) (fun g80 w h b => ?_)
              refine L_nil ⟨b, ?_⟩
              refine T_H 8 (by decide +kernel) rfl ?_
              --- 81 (Op.call {(Callee.builtin Builtin.append), [t77, t80], [29, 29]})
              first
                | (refine L_appendRd h (i := 5) rfl Try.underlying29 info33 rfl (by decide) (by decide) rfl rfl (by simp) (h.rowAt (i := 0) rfl).rd (by simp [Value.oneCell']) (by omega) (fun v81 w h => ?_)
                   obtain ⟨A81, c81, rfl, _⟩ := (h.rowAt (i := 5) rfl).slice)
                | (refine L_appendRd h (i := 5) rfl Try.underlying29 info33 rfl (by decide) (by decide) rfl rfl (by simp) (h.rowAt (i := 1) rfl).rd (by simp [Value.oneCell']) (by omega) (fun v81 w h => ?_)
                   obtain ⟨A81, c81, rfl, _⟩ := (h.rowAt (i := 5) rfl).slice)
              refine L_nil ?_
              refine T_P 9 rfl (by decide +kernel) (fun w2 => d_assign (v := .slice _ _ _) rfl) ?_   -- 8 (Op.assign t76)
              refine T_P 10 rfl (by decide +kernel) (fun w2 => d_assign (v := .slice _ _ _) rfl) ?_   -- 9 (Op.assign t81)
              refine T_end (by decide +kernel) ?_
              refine W_region ?_   -- region 19
              refine L_op (d_add' (has_i64 (by omega) (by omega)) rfl rfl) ?_   -- 82 (Op.binOp BinOp.add 3 t40 ((1)) 3)
              refine L_op (d_move (v := .int .i64 _) rfl) ?_   -- 40 (Op.move t82)
              refine L_nil ?_
              first
                | (refine ⟨(i + 1, (o.2.foldl (putB size) (ini, lst)), (A59, c59), (A8, c8), (A9, c9), tl, rs), ⟨rfl, rfl, ?_, rfl, rfl, rfl, rfl, rfl, trivial⟩, ⟨?_, by dsimp only; omega, hv1⟩, by dsimp only; omega⟩
                   · show Value.slice A59 ((ini ++ [lst]).flatten.length + o.2.length) c59 = Value.slice A59 _ c59
                     rw [flat_put, List.length_append]
                   · have h1 := h.dropAt (i := 1) rfl
                     dsimp only
                     rw [flat_put, List.length_append, bys_append]
                     exact h1)
                | (refine ⟨(i + 1, (ini, lst), (A7, c7), (A8, c8), (A9, c9), tl, rs), ⟨rfl, rfl, rfl, rfl, rfl, rfl, rfl, rfl, trivial⟩, ⟨?_, by dsimp only; omega, hv2⟩, by dsimp only; omega⟩
                   have hb2 : o.2.length = 0 ∨ (o.2.length : Int) > size := Decidable.byContradiction fun hc => c68 (by rw [recE, if_neg hc])
                   have h1 := (h.dropAt (i := 0) rfl).dropAt (i := 1) rfl
                   rw [recI, recL, if_pos hb2, if_pos hb2] at h1
                   exact h1)
                | (have hg2 : ¬ (o.2.length = 0 ∨ (o.2.length : Int) > size) := fun hc => by rw [recE, if_pos hc] at c68; exact absurd c68 (by decide)
                   refine ⟨(i + 1, (recI size ini lst o.2, recL size lst o.2), (A72, c72), (A76, c76), (A81, c81), tl ++ [(recD size ini lst o.2, recA size lst o.2, o.2)], rs ++ [.slice B o.2.length cb]), ⟨rfl, rfl, ?_, ?_, ?_, rfl, rfl, rfl, trivial⟩, ⟨?_, by dsimp only; omega, hv3 hg2⟩, by dsimp only; omega⟩
                   · show Value.slice A72 ((ini ++ [lst]).flatten.length + o.2.length) c72 = Value.slice A72 _ c72
                     rw [flat_lay hg2, List.length_append]
                   · show Value.slice A76 (tl.length + 1) c76 = Value.slice A76 _ c76
                     rw [List.length_append]
                     rfl
                   · show Value.slice A81 (tl.length + 1) c81 = Value.slice A81 _ c81
                     rw [List.length_append]
                     rfl
                   · have h1 := ((((h.front (i := 3) rfl).dropAt (i := 1) rfl).dropAt (i := 1) rfl).dropAt (i := 1) rfl).dropAt (i := 1) rfl
                     dsimp only
                     rw [flat_lay hg2, List.length_append, List.length_append, bys_append, pcells_snoc]
                     exact h1)
            · obtain rfl := Option.some.inj ho
              refine ⟨_, fun w2 b2 => .inl ⟨rfl, by rw [eval_act]; exact d_loadB sc33 (v := .slice _ _ _) rfl (by first | exact (h.keep b2).cell (i := 0) rfl rfl | exact (h.keep b2).cell (i := 1) rfl rfl | exact (h.keep b2).cell (i := 2) rfl rfl | exact (h.keep b2).cell (i := 3) rfl rfl | exact (h.keep b2).cell (i := 4) rfl rfl | exact (h.keep b2).cell (i := 5) rfl rfl | exact (h.keep b2).cell (i := 6) rfl rfl | exact (h.keep b2).cell (i := 7) rfl rfl | exact (h.keep b2).cell (i := 8) rfl rfl)⟩, ?_⟩   -- 79 (Op.load 33 t78)
              refine T_fork [3, 7] (by decide +kernel) ⟨fun o ho => ?_, fun o ho => ?_, trivial⟩
              · obtain rfl := Option.some.inj ho
                --- 76 (Op.call {(Callee.builtin Builtin.append), [t73, t75], [51, 51]})
                first
                  | (refine L_appendRd h (i := 5) rfl Try.underlying51 info37 rfl (by decide) (by decide) rfl rfl (by simp) (h.rowAt (i := 0) rfl).rd (by simp [Value.oneCell']) (by omega) (fun v76 w h => ?_)
                     obtain ⟨A76, c76, rfl, _⟩ := (h.rowAt (i := 5) rfl).slice)
                  | (refine L_appendRd h (i := 6) rfl Try.underlying51 info37 rfl (by decide) (by decide) rfl rfl (by simp) (h.rowAt (i := 1) rfl).rd (by simp [Value.oneCell']) (by omega) (fun v76 w h => ?_)
                     obtain ⟨A76, c76, rfl, _⟩ := (h.rowAt (i := 6) rfl).slice)
                  | (refine L_appendRd h (i := 6) rfl Try.underlying51 info37 rfl (by decide) (by decide) rfl rfl (by simp) (h.rowAt (i := 0) rfl).rd (by simp [Value.oneCell']) (by omega) (fun v76 w h => ?_)
                     obtain ⟨A76, c76, rfl, _⟩ := (h.rowAt (i := 6) rfl).slice)
                refine L_nil ?_
                refine T_G 7 (by decide +kernel) rfl ?_
                --- 80 (Op.buildSlice 29 1 [(0, t79)])
                refine L_buildSlice h [.slice _ _ _] [.slice _ _ _] Try.underlying29 zs33 rfl rfl rfl rfl (by decide) (by decide) (fun g80 w h b => ?_)
                refine L_nil ⟨b, ?_⟩
                refine T_H 8 (by decide +kernel) rfl ?_
                --- 81 (Op.call {(Callee.builtin Builtin.append), [t77, t80], [29, 29]})
                first
                  | (refine L_appendRd h (i := 5) rfl Try.underlying29 info33 rfl (by decide) (by decide) rfl rfl (by simp) (h.rowAt (i := 0) rfl).rd (by simp [Value.oneCell']) (by omega) (fun v81 w h => ?_)
                     obtain ⟨A81, c81, rfl, _⟩ := (h.rowAt (i := 5) rfl).slice)
                  | (refine L_appendRd h (i := 5) rfl Try.underlying29 info33 rfl (by decide) (by decide) rfl rfl (by simp) (h.rowAt (i := 1) rfl).rd (by simp [Value.oneCell']) (by omega) (fun v81 w h => ?_)
                     obtain ⟨A81, c81, rfl, _⟩ := (h.rowAt (i := 5) rfl).slice)
                refine L_nil ?_
                refine T_P 9 rfl (by decide +kernel) (fun w2 => d_assign (v := .slice _ _ _) rfl) ?_   -- 8 (Op.assign t76)
                refine T_P 10 rfl (by decide +kernel) (fun w2 => d_assign (v := .slice _ _ _) rfl) ?_   -- 9 (Op.assign t81)
                refine T_end (by decide +kernel) ?_
                refine W_region ?_   -- region 19
                refine L_op (d_add' (has_i64 (by omega) (by omega)) rfl rfl) ?_   -- 82 (Op.binOp BinOp.add 3 t40 ((1)) 3)
                refine L_op (d_move (v := .int .i64 _) rfl) ?_   -- 40 (Op.move t82)
                refine L_nil ?_
                first
                  | (refine ⟨(i + 1, (o.2.foldl (putB size) (ini, lst)), (A59, c59), (A8, c8), (A9, c9), tl, rs), ⟨rfl, rfl, ?_, rfl, rfl, rfl, rfl, rfl, trivial⟩, ⟨?_, by dsimp only; omega, hv1⟩, by dsimp only; omega⟩
                     · show Value.slice A59 ((ini ++ [lst]).flatten.length + o.2.length) c59 = Value.slice A59 _ c59
                       rw [flat_put, List.length_append]
                     · have h1 := h.dropAt (i := 1) rfl
                       dsimp only
                       rw [flat_put, List.length_append, bys_append]
                       exact h1)
                  | (refine ⟨(i + 1, (ini, lst), (A7, c7), (A8, c8), (A9, c9), tl, rs), ⟨rfl, rfl, rfl, rfl, rfl, rfl, rfl, rfl, trivial⟩, ⟨?_, by dsimp only; omega, hv2⟩, by dsimp only; omega⟩
                     have hb2 : o.2.length = 0 ∨ (o.2.length : Int) > size := Decidable.byContradiction fun hc => c68 (by rw [recE, if_neg hc])
                     have h1 := (h.dropAt (i := 0) rfl).dropAt (i := 1) rfl
                     rw [recI, recL, if_pos hb2, if_pos hb2] at h1
                     exact h1)
                  | (have hg2 : ¬ (o.2.length = 0 ∨ (o.2.length : Int) > size) := fun hc => by rw [recE, if_pos hc] at c68; exact absurd c68 (by decide)
                     refine ⟨(i + 1, (recI size ini lst o.2, recL size lst o.2), (A72, c72), (A76, c76), (A81, c81), tl ++ [(recD size ini lst o.2, recA size lst o.2, o.2)], rs ++ [.slice B o.2.length cb]), ⟨rfl, rfl, ?_, ?_, ?_, rfl, rfl, rfl, trivial⟩, ⟨?_, by dsimp only; omega, hv3 hg2⟩, by dsimp only; omega⟩
                     · show Value.slice A72 ((ini ++ [lst]).flatten.length + o.2.length) c72 = Value.slice A72 _ c72
                       rw [flat_lay hg2, List.length_append]
                     · show Value.slice A76 (tl.length + 1) c76 = Value.slice A76 _ c76
                       rw [List.length_append]
                       rfl
                     · show Value.slice A81 (tl.length + 1) c81 = Value.slice A81 _ c81
                       rw [List.length_append]
                       rfl
                     · have h1 := ((((h.front (i := 3) rfl).dropAt (i := 1) rfl).dropAt (i := 1) rfl).dropAt (i := 1) rfl).dropAt (i := 1) rfl
                       dsimp only
                       rw [flat_lay hg2, List.length_append, List.length_append, bys_append, pcells_snoc]
                       exact h1)
              · obtain rfl := Option.some.inj ho
                --- 80 (Op.buildSlice 29 1 [(0, t79)])
                refine L_buildSlice h [.slice _ _ _] [.slice _ _ _] Try.underlying29 zs33 rfl rfl rfl rfl (by decide) (by decide) (fun g80 w h b => ?_)
                refine L_nil ⟨b, ?_⟩
                refine T_H 3 (by decide +kernel) rfl ?_
                --- 76 (Op.call {(Callee.builtin Builtin.append), [t73, t75], [51, 51]})
                first
                  | (refine L_appendRd h (i := 5) rfl Try.underlying51 info37 rfl (by decide) (by decide) rfl rfl (by simp) (h.rowAt (i := 0) rfl).rd (by simp [Value.oneCell']) (by omega) (fun v76 w h => ?_)
                     obtain ⟨A76, c76, rfl, _⟩ := (h.rowAt (i := 5) rfl).slice)
                  | (refine L_appendRd h (i := 6) rfl Try.underlying51 info37 rfl (by decide) (by decide) rfl rfl (by simp) (h.rowAt (i := 1) rfl).rd (by simp [Value.oneCell']) (by omega) (fun v76 w h => ?_)
                     obtain ⟨A76, c76, rfl, _⟩ := (h.rowAt (i := 6) rfl).slice)
                  | (refine L_appendRd h (i := 6) rfl Try.underlying51 info37 rfl (by decide) (by decide) rfl rfl (by simp) (h.rowAt (i := 0) rfl).rd (by simp [Value.oneCell']) (by omega) (fun v76 w h => ?_)
                     obtain ⟨A76, c76, rfl, _⟩ := (h.rowAt (i := 6) rfl).slice)
                refine L_nil ?_
                refine T_H 8 (by decide +kernel) rfl ?_
                --- 81 (Op.call {(Callee.builtin Builtin.append), [t77, t80], [29, 29]})
                first
                  | (refine L_appendRd h (i := 5) rfl Try.underlying29 info33 rfl (by decide) (by decide) rfl rfl (by simp) (h.rowAt (i := 0) rfl).rd (by simp [Value.oneCell']) (by omega) (fun v81 w h => ?_)
                     obtain ⟨A81, c81, rfl, _⟩ := (h.rowAt (i := 5) rfl).slice)
                  | (refine L_appendRd h (i := 5) rfl Try.underlying29 info33 rfl (by decide) (by decide) rfl rfl (by simp) (h.rowAt (i := 1) rfl).rd (by simp [Value.oneCell']) (by omega) (fun v81 w h => ?_)
                     obtain ⟨A81, c81, rfl, _⟩ := (h.rowAt (i := 5) rfl).slice)
                refine L_nil ?_
                refine T_P 9 rfl (by decide +kernel) (fun w2 => d_assign (v := .slice _ _ _) rfl) ?_   -- 8 (Op.assign t76)
                refine T_P 10 rfl (by decide +kernel) (fun w2 => d_assign (v := .slice _ _ _) rfl) ?_   -- 9 (Op.assign t81)
                refine T_end (by decide +kernel) ?_
                refine W_region ?_   -- region 19
                refine L_op (d_add' (has_i64 (by omega) (by omega)) rfl rfl) ?_   -- 82 (Op.binOp BinOp.add 3 t40 ((1)) 3)
                refine L_op (d_move (v := .int .i64 _) rfl) ?_   -- 40 (Op.move t82)
                refine L_nil ?_
                first
                  | (refine ⟨(i + 1, (o.2.foldl (putB size) (ini, lst)), (A59, c59), (A8, c8), (A9, c9), tl, rs), ⟨rfl, rfl, ?_, rfl, rfl, rfl, rfl, rfl, trivial⟩, ⟨?_, by dsimp only; omega, hv1⟩, by dsimp only; omega⟩
                     · show Value.slice A59 ((ini ++ [lst]).flatten.length + o.2.length) c59 = Value.slice A59 _ c59
                       rw [flat_put, List.length_append]
                     · have h1 := h.dropAt (i := 1) rfl
                       dsimp only
                       rw [flat_put, List.length_append, bys_append]
                       exact h1)
                  | (refine ⟨(i + 1, (ini, lst), (A7, c7), (A8, c8), (A9, c9), tl, rs), ⟨rfl, rfl, rfl, rfl, rfl, rfl, rfl, rfl, trivial⟩, ⟨?_, by dsimp only; omega, hv2⟩, by dsimp only; omega⟩
                     have hb2 : o.2.length = 0 ∨ (o.2.length : Int) > size := Decidable.byContradiction fun hc => c68 (by rw [recE, if_neg hc])
                     have h1 := (h.dropAt (i := 0) rfl).dropAt (i := 1) rfl
                     rw [recI, recL, if_pos hb2, if_pos hb2] at h1
                     exact h1)
                  | (have hg2 : ¬ (o.2.length = 0 ∨ (o.2.length : Int) > size) := fun hc => by rw [recE, if_pos hc] at c68; exact absurd c68 (by decide)
                     refine ⟨(i + 1, (recI size ini lst o.2, recL size lst o.2), (A72, c72), (A76, c76), (A81, c81), tl ++ [(recD size ini lst o.2, recA size lst o.2, o.2)], rs ++ [.slice B o.2.length cb]), ⟨rfl, rfl, ?_, ?_, ?_, rfl, rfl, rfl, trivial⟩, ⟨?_, by dsimp only; omega, hv3 hg2⟩, by dsimp only; omega⟩
                     · show Value.slice A72 ((ini ++ [lst]).flatten.length + o.2.length) c72 = Value.slice A72 _ c72
                       rw [flat_lay hg2, List.length_append]
                     · show Value.slice A76 (tl.length + 1) c76 = Value.slice A76 _ c76
                       rw [List.length_append]
                       rfl
                     · show Value.slice A81 (tl.length + 1) c81 = Value.slice A81 _ c81
                       rw [List.length_append]
                       rfl
                     · have h1 := ((((h.front (i := 3) rfl).dropAt (i := 1) rfl).dropAt (i := 1) rfl).dropAt (i := 1) rfl).dropAt (i := 1) rfl
                       dsimp only
                       rw [flat_lay hg2, List.length_append, List.length_append, bys_append, pcells_snoc]
                       exact h1)
          · obtain rfl := Option.some.inj ho
            refine ⟨_, fun w2 b2 => .inl ⟨rfl, by rw [eval_act]; exact d_loadB sc33 (v := .slice _ _ _) rfl (by first | exact (h.keep b2).cell (i := 0) rfl rfl | exact (h.keep b2).cell (i := 1) rfl rfl | exact (h.keep b2).cell (i := 2) rfl rfl | exact (h.keep b2).cell (i := 3) rfl rfl | exact (h.keep b2).cell (i := 4) rfl rfl | exact (h.keep b2).cell (i := 5) rfl rfl | exact (h.keep b2).cell (i := 6) rfl rfl | exact (h.keep b2).cell (i := 7) rfl rfl | exact (h.keep b2).cell (i := 8) rfl rfl)⟩, ?_⟩   -- 79 (Op.load 33 t78)
            refine T_fork [2, 7] (by decide +kernel) ⟨fun o ho => ?_, fun o ho => ?_, trivial⟩
            · obtain rfl := Option.some.inj ho
              --- 75 (Op.buildSlice 51 1 [(0, t74)])
              refine L_buildSlice h [.agg #[.int .i64 _, .int .i64 _]] [.int .i64 _, .int .i64 _] Try.underlying51 zs37 rfl rfl rfl rfl (by decide) (by decide) (fun g75 w h b => ?_)
              refine L_nil ⟨b, ?_⟩
              refine T_fork [3, 7] (by decide +kernel) ⟨fun o ho => ?_, fun o ho => ?_, trivial⟩
              · obtain rfl := Option.some.inj ho
                --- 76 (Op.call {(Callee.builtin Builtin.append), [t73, t75], [51, 51]})
                first
                  | (refine L_appendRd h (i := 5) rfl Try.underlying51 info37 rfl (by decide) (by decide) rfl rfl (by simp) (h.rowAt (i := 0) rfl).rd (by simp [Value.oneCell']) (by omega) (fun v76 w h => ?_)
                     obtain ⟨A76, c76, rfl, _⟩ := (h.rowAt (i := 5) rfl).slice)
                  | (refine L_appendRd h (i := 6) rfl Try.underlying51 info37 rfl (by decide) (by decide) rfl rfl (by simp) (h.rowAt (i := 1) rfl).rd (by simp [Value.oneCell']) (by omega) (fun v76 w h => ?_)
                     obtain ⟨A76, c76, rfl, _⟩ := (h.rowAt (i := 6) rfl).slice)
                  | (refine L_appendRd h (i := 6) rfl Try.underlying51 info37 rfl (by decide) (by decide) rfl rfl (by simp) (h.rowAt (i := 0) rfl).rd (by simp [Value.oneCell']) (by omega) (fun v76 w h => ?_)
                     obtain ⟨A76, c76, rfl, _⟩ := (h.rowAt (i := 6) rfl).slice)
                refine L_nil ?_
                refine T_G 7 (by decide +kernel) rfl ?_
                --- 80 (Op.buildSlice 29 1 [(0, t79)])
                refine L_buildSlice h [.slice _ _ _] [.slice _ _ _] Try.underlying29 zs33 rfl rfl rfl rfl (by decide) (by decide) (fun g80 w h b => ?_)
                refine L_nil ⟨b, ?_⟩
                refine T_H 8 (by decide +kernel) rfl ?_
                --- 81 (Op.call {(Callee.builtin Builtin.append), [t77, t80], [29, 29]})
                first
                  | (refine L_appendRd h (i := 5) rfl Try.underlying29 info33 rfl (by decide) (by decide) rfl rfl (by simp) (h.rowAt (i := 0) rfl).rd (by simp [Value.oneCell']) (by omega) (fun v81 w h => ?_)
                     obtain ⟨A81, c81, rfl, _⟩ := (h.rowAt (i := 5) rfl).slice)
                  | (refine L_appendRd h (i := 5) rfl Try.underlying29 info33 rfl (by decide) (by decide) rfl rfl (by simp) (h.rowAt (i := 1) rfl).rd (by simp [Value.oneCell']) (by omega) (fun v81 w h => ?_)
                     obtain ⟨A81, c81, rfl, _⟩ := (h.rowAt (i := 5) rfl).slice)
                refine L_nil ?_
                refine T_P 9 rfl (by decide +kernel) (fun w2 => d_assign (v := .slice _ _ _) rfl) ?_   -- 8 (Op.assign t76)
                refine T_P 10 rfl (by decide +kernel) (fun w2 => d_assign (v := .slice _ _ _) rfl) ?_   -- 9 (Op.assign t81)
                refine T_end (by decide +kernel) ?_
                refine W_region ?_   -- region 19
                refine L_op (d_add' (has_i64 (by omega) (by omega)) rfl rfl) ?_   -- 82 (Op.binOp BinOp.add 3 t40 ((1)) 3)
                refine L_op (d_move (v := .int .i64 _) rfl) ?_   -- 40 (Op.move t82)
                refine L_nil ?_
                first
                  | (refine ⟨(i + 1, (o.2.foldl (putB size) (ini, lst)), (A59, c59), (A8, c8), (A9, c9), tl, rs), ⟨rfl, rfl, ?_, rfl, rfl, rfl, rfl, rfl, trivial⟩, ⟨?_, by dsimp only; omega, hv1⟩, by dsimp only; omega⟩
                     · show Value.slice A59 ((ini ++ [lst]).flatten.length + o.2.length) c59 = Value.slice A59 _ c59
                       rw [flat_put, List.length_append]
                     · have h1 := h.dropAt (i := 1) rfl
                       dsimp only
                       rw [flat_put, List.length_append, bys_append]
                       exact h1)
                  | (refine ⟨(i + 1, (ini, lst), (A7, c7), (A8, c8), (A9, c9), tl, rs), ⟨rfl, rfl, rfl, rfl, rfl, rfl, rfl, rfl, trivial⟩, ⟨?_, by dsimp only; omega, hv2⟩, by dsimp only; omega⟩
                     have hb2 : o.2.length = 0 ∨ (o.2.length : Int) > size := Decidable.byContradiction fun hc => c68 (by rw [recE, if_neg hc])
                     have h1 := (h.dropAt (i := 0) rfl).dropAt (i := 1) rfl
                     rw [recI, recL, if_pos hb2, if_pos hb2] at h1
                     exact h1)
                  | (have hg2 : ¬ (o.2.length = 0 ∨ (o.2.length : Int) > size) := fun hc => by rw [recE, if_pos hc] at c68; exact absurd c68 (by decide)
                     refine ⟨(i + 1, (recI size ini lst o.2, recL size lst o.2), (A72, c72), (A76, c76), (A81, c81), tl ++ [(recD size ini lst o.2, recA size lst o.2, o.2)], rs ++ [.slice B o.2.length cb]), ⟨rfl, rfl, ?_, ?_, ?_, rfl, rfl, rfl, trivial⟩, ⟨?_, by dsimp only; omega, hv3 hg2⟩, by dsimp only; omega⟩
                     · show Value.slice A72 ((ini ++ [lst]).flatten.length + o.2.length) c72 = Value.slice A72 _ c72
                       rw [flat_lay hg2, List.length_append]
                     · show Value.slice A76 (tl.length + 1) c76 = Value.slice A76 _ c76
                       rw [List.length_append]
                       rfl
                     · show Value.slice A81 (tl.length + 1) c81 = Value.slice A81 _ c81
                       rw [List.length_append]
                       rfl
                     · have h1 := ((((h.front (i := 3) rfl).dropAt (i := 1) rfl).dropAt (i := 1) rfl).dropAt (i := 1) rfl).dropAt (i := 1) rfl
                       dsimp only
                       rw [flat_lay hg2, List.length_append, List.length_append, bys_append, pcells_snoc]
                       exact h1)
              · obtain rfl := Option.some.inj ho
                --- 80 (Op.buildSlice 29 1 [(0, t79)])
                refine L_buildSlice h [.slice _ _ _] [.slice _ _ _] Try.underlying29 zs33 rfl rfl rfl rfl (by decide) (by decide) (fun g80 w h b => ?_)
                refine L_nil ⟨b, ?_⟩
                refine T_H 3 (by decide +kernel) rfl ?_
                --- 76 (Op.call {(Callee.builtin Builtin.append), [t73, t75], [51, 51]})
                first
                  | (refine L_appendRd h (i := 5) rfl Try.underlying51 info37 rfl (by decide) (by decide) rfl rfl (by simp) (h.rowAt (i := 0) rfl).rd (by simp [Value.oneCell']) (by omega) (fun v76 w h => ?_)
                     obtain ⟨A76, c76, rfl, _⟩ := (h.rowAt (i := 5) rfl).slice)
                  | (refine L_appendRd h (i := 6) rfl Try.underlying51 info37 rfl (by decide) (by decide) rfl rfl (by simp) (h.rowAt (i := 1) rfl).rd (by simp [Value.oneCell']) (by omega) (fun v76 w h => ?_)
                     obtain ⟨A76, c76, rfl, _⟩ := (h.rowAt (i := 6) rfl).slice)
                  | (refine L_appendRd h (i := 6) rfl Try.underlying51 info37 rfl (by decide) (by decide) rfl rfl (by simp) (h.rowAt (i := 0) rfl).rd (by simp [Value.oneCell']) (by omega) (fun v76 w h => ?_)
                     obtain ⟨A76, c76, rfl, _⟩ := (h.rowAt (i := 6) rfl).slice)
                refine L_nil ?_
                refine T_H 8 (by decide +kernel) rfl ?_
                --- 81 (Op.call {(Callee.builtin Builtin.append), [t77, t80], [29, 29]})
                first
                  | (refine L_appendRd h (i := 5) rfl Try.underlying29 info33 rfl (by decide) (by decide) rfl rfl (by simp) (h.rowAt (i := 0) rfl).rd (by simp [Value.oneCell']) (by omega) (fun v81 w h => ?_)
                     obtain ⟨A81, c81, rfl, _⟩ := (h.rowAt (i := 5) rfl).slice)
                  | (refine L_appendRd h (i := 5) rfl Try.underlying29 info33 rfl (by decide) (by decide) rfl rfl (by simp) (h.rowAt (i := 1) rfl).rd (by simp [Value.oneCell']) (by omega) (fun v81 w h => ?_)
                     obtain ⟨A81, c81, rfl, _⟩ := (h.rowAt (i := 5) rfl).slice)
                refine L_nil ?_
                refine T_P 9 rfl (by decide +kernel) (fun w2 => d_assign (v := .slice _ _ _) rfl) ?_   -- 8 (Op.assign t76)
                refine T_P 10 rfl (by decide +kernel) (fun w2 => d_assign (v := .slice _ _ _) rfl) ?_   -- 9 (Op.assign t81)
                refine T_end (by decide +kernel) ?_
                refine W_region ?_   -- region 19
                refine L_op (d_add' (has_i64 (by omega) (by omega)) rfl rfl) ?_   -- 82 (Op.binOp BinOp.add 3 t40 ((1)) 3)
                refine L_op (d_move (v := .int .i64 _) rfl) ?_   -- 40 (Op.move t82)
                refine L_nil ?_
                first
                  | (refine ⟨(i + 1, (o.2.foldl (putB size) (ini, lst)), (A59, c59), (A8, c8), (A9, c9), tl, rs), ⟨rfl, rfl, ?_, rfl, rfl, rfl, rfl, rfl, trivial⟩, ⟨?_, by dsimp only; omega, hv1⟩, by dsimp only; omega⟩
                     · show Value.slice A59 ((ini ++ [lst]).flatten.length + o.2.length) c59 = Value.slice A59 _ c59
                       rw [flat_put, List.length_append]
                     · have h1 := h.dropAt (i := 1) rfl
                       dsimp only
                       rw [flat_put, List.length_append, bys_append]
                       exact h1)
                  | (refine ⟨(i + 1, (ini, lst), (A7, c7), (A8, c8), (A9, c9), tl, rs), ⟨rfl, rfl, rfl, rfl, rfl, rfl, rfl, rfl, trivial⟩, ⟨?_, by dsimp only; omega, hv2⟩, by dsimp only; omega⟩
                     have hb2 : o.2.length = 0 ∨ (o.2.length : Int) > size := Decidable.byContradiction fun hc => c68 (by rw [recE, if_neg hc])
                     have h1 := (h.dropAt (i := 0) rfl).dropAt (i := 1) rfl
                     rw [recI, recL, if_pos hb2, if_pos hb2] at h1
                     exact h1)
                  | (have hg2 : ¬ (o.2.length = 0 ∨ (o.2.length : Int) > size) := fun hc => by rw [recE, if_pos hc] at c68; exact absurd c68 (by decide)
                     refine ⟨(i + 1, (recI size ini lst o.2, recL size lst o.2), (A72, c72), (A76, c76), (A81, c81), tl ++ [(recD size ini lst o.2, recA size lst o.2, o.2)], rs ++ [.slice B o.2.length cb]), ⟨rfl, rfl, ?_, ?_, ?_, rfl, rfl, rfl, trivial⟩, ⟨?_, by dsimp only; omega, hv3 hg2⟩, by dsimp only; omega⟩
                     · show Value.slice A72 ((ini ++ [lst]).flatten.length + o.2.length) c72 = Value.slice A72 _ c72
                       rw [flat_lay hg2, List.length_append]
                     · show Value.slice A76 (tl.length + 1) c76 = Value.slice A76 _ c76
                       rw [List.length_append]
                       rfl
                     · show Value.slice A81 (tl.length + 1) c81 = Value.slice A81 _ c81
                       rw [List.length_append]
                       rfl
                     · have h1 := ((((h.front (i := 3) rfl).dropAt (i := 1) rfl).dropAt (i := 1) rfl).dropAt (i := 1) rfl).dropAt (i := 1) rfl
                       dsimp only
                       rw [flat_lay hg2, List.length_append, List.length_append, bys_append, pcells_snoc]
                       exact h1)
            · obtain rfl := Option.some.inj ho
              --- 80 (Op.buildSlice 29 1 [(0, t79)])
              refine L_buildSlice h [.slice _ _ _] [.slice _ _ _] Try.underlying29 zs33 rfl rfl rfl rfl (by decide) (by decide) (fun g80 w h b => ?_)
              refine L_nil ⟨b, ?_⟩
              refine T_G 2 (by decide +kernel) rfl ?_
              --- 75 (Op.buildSlice 51 1 [(0, t74)])
              refine L_buildSlice h [.agg #[.int .i64 _, .int .i64 _]] [.int .i64 _, .int .i64 _] Try.underlying51 zs37 rfl rfl rfl rfl (by decide) (by decide) (fun g75 w h b => ?_)
              refine L_nil ⟨b, ?_⟩
              refine T_H 3 (by decide +kernel) rfl ?_
              --- 76 (Op.call {(Callee.builtin Builtin.append), [t73, t75], [51, 51]})
              first
                | (refine L_appendRd h (i := 5) rfl Try.underlying51 info37 rfl (by decide) (by decide) rfl rfl (by simp) (h.rowAt (i := 0) rfl).rd (by simp [Value.oneCell']) (by omega) (fun v76 w h => ?_)
                   obtain ⟨A76, c76, rfl, _⟩ := (h.rowAt (i := 5) rfl).slice)
                | (refine L_appendRd h (i := 6) rfl Try.underlying51 info37 rfl (by decide) (by decide) rfl rfl (by simp) (h.rowAt (i := 1) rfl).rd (by simp [Value.oneCell']) (by omega) (fun v76 w h => ?_)
                   obtain ⟨A76, c76, rfl, _⟩ := (h.rowAt (i := 6) rfl).slice)
                | (refine L_appendRd h (i := 6) rfl Try.underlying51 info37 rfl (by decide) (by decide) rfl rfl (by simp) (h.rowAt (i := 0) rfl).rd (by simp [Value.oneCell']) (by omega) (fun v76 w h => ?_)
                   obtain ⟨A76, c76, rfl, _⟩ := (h.rowAt (i := 6) rfl).slice)
              refine L_nil ?_
              refine T_H 8 (by decide +kernel) rfl ?_
              --- 81 (Op.call {(Callee.builtin Builtin.append), [t77, t80], [29, 29]})
              first
                | (refine L_appendRd h (i := 5) rfl Try.underlying29 info33 rfl (by decide) (by decide) rfl rfl (by simp) (h.rowAt (i := 0) rfl).rd (by simp [Value.oneCell']) (by omega) (fun v81 w h => ?_)
                   obtain ⟨A81, c81, rfl, _⟩ := (h.rowAt (i := 5) rfl).slice)
                | (refine L_appendRd h (i := 5) rfl Try.underlying29 info33 rfl (by decide) (by decide) rfl rfl (by simp) (h.rowAt (i := 1) rfl).rd (by simp [Value.oneCell']) (by omega) (fun v81 w h => ?_)
                   obtain ⟨A81, c81, rfl, _⟩ := (h.rowAt (i := 5) rfl).slice)
              refine L_nil ?_
              refine T_P 9 rfl (by decide +kernel) (fun w2 => d_assign (v := .slice _ _ _) rfl) ?_   -- 8 (Op.assign t76)
              refine T_P 10 rfl (by decide +kernel) (fun w2 => d_assign (v := .slice _ _ _) rfl) ?_   -- 9 (Op.assign t81)
              refine T_end (by decide +kernel) ?_
              refine W_region ?_   -- region 19
              refine L_op (d_add' (has_i64 (by omega) (by omega)) rfl rfl) ?_   -- 82 (Op.binOp BinOp.add 3 t40 ((1)) 3)
              refine L_op (d_move (v := .int .i64 _) rfl) ?_   -- 40 (Op.move t82)
              refine L_nil ?_
              first
                | (refine ⟨(i + 1, (o.2.foldl (putB size) (ini, lst)), (A59, c59), (A8, c8), (A9, c9), tl, rs), ⟨rfl, rfl, ?_, rfl, rfl, rfl, rfl, rfl, trivial⟩, ⟨?_, by dsimp only; omega, hv1⟩, by dsimp only; omega⟩
                   · show Value.slice A59 ((ini ++ [lst]).flatten.length + o.2.length) c59 = Value.slice A59 _ c59
                     rw [flat_put, List.length_append]
                   · have h1 := h.dropAt (i := 1) rfl
                     dsimp only
                     rw [flat_put, List.length_append, bys_append]
                     exact h1)
                | (refine ⟨(i + 1, (ini, lst), (A7, c7), (A8, c8), (A9, c9), tl, rs), ⟨rfl, rfl, rfl, rfl, rfl, rfl, rfl, rfl, trivial⟩, ⟨?_, by dsimp only; omega, hv2⟩, by dsimp only; omega⟩
                   have hb2 : o.2.length = 0 ∨ (o.2.length : Int) > size := Decidable.byContradiction fun hc => c68 (by rw [recE, if_neg hc])
                   have h1 := (h.dropAt (i := 0) rfl).dropAt (i := 1) rfl
                   rw [recI, recL, if_pos hb2, if_pos hb2] at h1
                   exact h1)
                | (have hg2 : ¬ (o.2.length = 0 ∨ (o.2.length : Int) > size) := fun hc => by rw [recE, if_pos hc] at c68; exact absurd c68 (by decide)
                   refine ⟨(i + 1, (recI size ini lst o.2, recL size lst o.2), (A72, c72), (A76, c76), (A81, c81), tl ++ [(recD size ini lst o.2, recA size lst o.2, o.2)], rs ++ [.slice B o.2.length cb]), ⟨rfl, rfl, ?_, ?_, ?_, rfl, rfl, rfl, trivial⟩, ⟨?_, by dsimp only; omega, hv3 hg2⟩, by dsimp only; omega⟩
                   · show Value.slice A72 ((ini ++ [lst]).flatten.length + o.2.length) c72 = Value.slice A72 _ c72
                     rw [flat_lay hg2, List.length_append]
                   · show Value.slice A76 (tl.length + 1) c76 = Value.slice A76 _ c76
                     rw [List.length_append]
                     rfl
                   · show Value.slice A81 (tl.length + 1) c81 = Value.slice A81 _ c81
                     rw [List.length_append]
                     rfl
                   · have h1 := ((((h.front (i := 3) rfl).dropAt (i := 1) rfl).dropAt (i := 1) rfl).dropAt (i := 1) rfl).dropAt (i := 1) rfl
                     dsimp only
                     rw [flat_lay hg2, List.length_append, List.length_append, bys_append, pcells_snoc]
                     exact h1)
        · -- c68 no
          refine W_skip ?_
          refine W_region ?_   -- region 19
          refine L_op (d_add' (has_i64 (by omega) (by omega)) rfl rfl) ?_   -- 82 (Op.binOp BinOp.add 3 t40 ((1)) 3)
          refine L_op (d_move (v := .int .i64 _) rfl) ?_   -- 40 (Op.move t82)
          refine L_nil ?_
          first
            | (refine ⟨(i + 1, (o.2.foldl (putB size) (ini, lst)), (A59, c59), (A8, c8), (A9, c9), tl, rs), ⟨rfl, rfl, ?_, rfl, rfl, rfl, rfl, rfl, trivial⟩, ⟨?_, by dsimp only; omega, hv1⟩, by dsimp only; omega⟩
               · show Value.slice A59 ((ini ++ [lst]).flatten.length + o.2.length) c59 = Value.slice A59 _ c59
                 rw [flat_put, List.length_append]
               · have h1 := h.dropAt (i := 1) rfl
                 dsimp only
                 rw [flat_put, List.length_append, bys_append]
                 exact h1)
            | (refine ⟨(i + 1, (ini, lst), (A7, c7), (A8, c8), (A9, c9), tl, rs), ⟨rfl, rfl, rfl, rfl, rfl, rfl, rfl, rfl, trivial⟩, ⟨?_, by dsimp only; omega, hv2⟩, by dsimp only; omega⟩
               have hb2 : o.2.length = 0 ∨ (o.2.length : Int) > size := Decidable.byContradiction fun hc => c68 (by rw [recE, if_neg hc])
               have h1 := (h.dropAt (i := 0) rfl).dropAt (i := 1) rfl
               rw [recI, recL, if_pos hb2, if_pos hb2] at h1
               exact h1)
            | (have hg2 : ¬ (o.2.length = 0 ∨ (o.2.length : Int) > size) := fun hc => by rw [recE, if_pos hc] at c68; exact absurd c68 (by decide)
               refine ⟨(i + 1, (recI size ini lst o.2, recL size lst o.2), (A72, c72), (A76, c76), (A81, c81), tl ++ [(recD size ini lst o.2, recA size lst o.2, o.2)], rs ++ [.slice B o.2.length cb]), ⟨rfl, rfl, ?_, ?_, ?_, rfl, rfl, rfl, trivial⟩, ⟨?_, by dsimp only; omega, hv3 hg2⟩, by dsimp only; omega⟩
               · show Value.slice A72 ((ini ++ [lst]).flatten.length + o.2.length) c72 = Value.slice A72 _ c72
                 rw [flat_lay hg2, List.length_append]
               · show Value.slice A76 (tl.length + 1) c76 = Value.slice A76 _ c76
                 rw [List.length_append]
                 rfl
               · show Value.slice A81 (tl.length + 1) c81 = Value.slice A81 _ c81
                 rw [List.length_append]
                 rfl
               · have h1 := ((((h.front (i := 3) rfl).dropAt (i := 1) rfl).dropAt (i := 1) rfl).dropAt (i := 1) rfl).dropAt (i := 1) rfl
                 dsimp only
                 rw [flat_lay hg2, List.length_append, List.length_append, bys_append, pcells_snoc]
                 exact h1)
    · -- c41 no
      refine W_exit (X_here ?_)
      refine W_seq ?_
      refine W_region ?_   -- region 20
      refine L_op (d_move (v := .pointer _) rfl) ?_   -- 83 (Op.move t5)
      obtain rfl : i = ops.length := by omega
      obtain ⟨Aw, cw, hbw, hrw⟩ := wr_rd h (i := 0) rfl
      --- 84 (Op.call {(Callee.value (Operand.func 16)), [t83], [25]})
      refine L_callB fn16 rfl (row_calls hbw hrw (by omega) (fun xs hx => by have := hal xs hx; omega)) ?_
      rintro v84 w1 hm
      have b := hm.below
      replace h := h.take hm
      obtain ⟨vs84, hvs84, ho84⟩ := rows_open h
      obtain ⟨A84, c84, rfl, _⟩ := (ho84.rowAt (i := 0) rfl).slice
      have hr84 := rows_rd hvs84 ho84
      clear ho84
      rw [hvs84] at h ⊢
      refine L_op (d_assign (v := .slice _ _ _) rfl) ?_   -- 14 (Op.assign t84)
      refine L_nil ?_
      refine W_seq ?_   -- join7: live (7, _), (8, _), (9, _), (14, _)
      refine W_seq ?_
      refine W_region ?_   -- region 21
      refine L_op (d_move (v := .slice _ _ _) rfl) ?_   -- 85 (Op.move t14)
      refine L_op (d_lenB sl29 rfl) ?_   -- 86 (Op.call {(Callee.builtin Builtin.len), [t85], [29]})
      refine L_op (d_move (v := .int .i64 _) rfl) ?_   -- 87 (Op.move ((0)))
      refine L_nil ?_
      refine W_block ?_   -- block 2
      refine W_while (σ := Nat) 0 (fun k => [(0, .int .i64 size), (7, .slice A7 (ini ++ [lst]).flatten.length c7), (8, .slice A8 tl.length c8), (9, .slice A9 tl.length c9), (14, .slice A84 (ini ++ [lst]).length c84), (85, .slice A84 (ini ++ [lst]).length c84), (86, .int .i64 (ini ++ [lst]).length), (87, .int .i64 k)])
        (fun k w1 => St W (fun k => k < W.heap.size) [rowsA 33 5 (.slice A84 (ini ++ [lst]).length c84) (ini ++ [lst]), wrA gw size ini lst, row 33 1 (.slice A9 tl.length c9) tl.length rs, row 37 2 (.slice A8 tl.length c8) tl.length (pcells tl), row 5 1 (.slice A7 (ini ++ [lst]).flatten.length c7) (ini ++ [lst]).flatten.length (bys (ini ++ [lst]).flatten)] w1 ∧ k ≤ (ini ++ [lst]).length) (fun k => (ini ++ [lst]).length - k) ⟨rfl, rfl, rfl, rfl, rfl, rfl, rfl, rfl, trivial⟩ ⟨h, Nat.zero_le _⟩ ?_
      rintro k w1 b_ ⟨h, hk⟩
      refine W_seq ?_
      refine W_region ?_   -- region 22
      refine L_op (d_lss rfl rfl) ?_   -- 88 (Op.binOp BinOp.lss 3 t87 t86 3)
      refine L_nil ?_
      refine W_seq ?_   -- join8: live (0, .append), (7, _), (8, _), (9, _), (14, _), (85, _), (86, _), (87, _)
      refine W_if rfl (fun c88 => ?_) (fun c88 => ?_)
      · -- c88 yes
        have hk2 : k < (ini ++ [lst]).length := by omega
        obtain ⟨a84, A2, c2, rfl, hcell, hle2, hrd2⟩ := rowsA_rd (i := 0) h rfl k _ (List.getElem?_eq_getElem hk2)
        have hgk := hv.g _ (List.getElem_mem hk2)
        have hk4 : k = 0 → 4 ≤ ((ini ++ [lst])[k]).length := by
          intro e
          subst e
          obtain ⟨r4, h5, h6⟩ := hv.h4
          dsimp only at h5
          rw [List.getElem?_eq_getElem hk2] at h5
          injection h5 with h5
          rw [h5]
          exact h6
        generalize (ini ++ [lst])[k] = rk at hcell hle2 hgk hk4
        refine W_skip ?_
        refine W_seq ?_   -- join9: live (0, .append), (7, _), (8, _), (9, _), (14, _), (85, _), (86, _), (87, _)
        refine W_block ?_   -- block 3
        refine W_seq ?_
        refine W_region ?_   -- region 23
        refine L_op (d_move (v := .int .i64 _) rfl) ?_   -- 89 (Op.move t87)
        refine L_op (d_ix1 (m := k) sl29 rfl rfl rfl hk2) ?_   -- 90 (Op.indexAddr 29 t85 t87)
        refine L_op (d_loadB sc33 (v := .slice _ _ _) rfl (hcell)) ?_   -- 91 (Op.load 33 t90)
        refine L_op (d_assign (v := .int .i64 _) rfl) ?_   -- 15 (Op.assign t89)
        refine L_op (d_assign (v := .slice _ _ _) rfl) ?_   -- 16 (Op.assign t91)
        refine L_nil ?_
        refine W_seq ?_
        refine W_region ?_   -- region 24
        refine L_op (d_move (v := .slice _ _ _) rfl) ?_   -- 92 (Op.move t16)
        refine L_op (d_lenB sl33 rfl) ?_   -- 93 (Op.call {(Callee.builtin Builtin.len), [t92], [33]})
        refine L_op (d_lss rfl rfl) ?_   -- 94 (Op.binOp BinOp.lss 3 t93 ((1)) 3)
        refine L_op (d_move (v := .bool _) rfl) ?_   -- 95 (Op.move t94)
        refine L_know (dj := 95) (b := false) rfl (decide_eq_false (by omega)) ?_
        refine L_on rfl rfl rfl ?_
        refine L_op (d_move (v := .slice _ _ _) rfl) ?_   -- 96 (Op.move t16)
        refine L_on rfl rfl rfl ?_
        refine L_op (d_lenB sl33 rfl) ?_   -- 97 (Op.call {(Callee.builtin Builtin.len), [t96], [33]})
        refine L_on rfl rfl rfl ?_
        refine L_op (d_move (v := .int .i64 _) rfl) ?_   -- 98 (Op.move t0)
        refine L_on rfl rfl rfl ?_
        refine L_op (d_gtr rfl rfl) ?_   -- 99 (Op.binOp BinOp.gtr 3 t97 t98 3)
        refine L_op (d_pick (r := .bool _) rfl rfl) ?_   -- 100 (Op.pick t95 ((true)) t99)
        refine L_op (d_move (v := .bool _) rfl) ?_   -- 101 (Op.move t100)
        refine L_know (dj := 101) (b := false) rfl (decide_eq_false (by omega)) ?_
        refine L_on rfl rfl rfl ?_
        refine L_op (d_move (v := .int .i64 _) rfl) ?_   -- 102 (Op.move t15)
        refine L_on rfl rfl rfl ?_
        refine L_op (d_eql rfl rfl) ?_   -- 103 (Op.binOp BinOp.eql 3 t102 ((0)) 3)
        refine L_on rfl rfl rfl ?_
        refine L_op (d_move (v := .bool _) rfl) ?_   -- 104 (Op.move t103)
        refine L_case (dj := 104) rfl (fun q104 => ?_) (fun q104 => ?_)
        · -- guard 104 true
          refine L_on rfl rfl rfl ?_
          refine L_op (d_move (v := .slice _ _ _) rfl) ?_   -- 105 (Op.move t16)
          refine L_on rfl rfl rfl ?_
          refine L_op (d_lenB sl33 rfl) ?_   -- 106 (Op.call {(Callee.builtin Builtin.len), [t105], [33]})
          refine L_on rfl rfl rfl ?_
          refine L_op (d_lss rfl rfl) ?_   -- 107 (Op.binOp BinOp.lss 3 t106 ((4)) 3)
          refine L_on rfl rfl rfl ?_
          refine L_op (d_pick (r := .bool _) rfl rfl) ?_   -- 108 (Op.pick t104 t107 ((false)))
          refine L_op (d_pick (r := .bool _) rfl rfl) ?_   -- 109 (Op.pick t101 ((true)) t108)
          refine L_nil ?_
          refine W_false (congrArg Value.bool (decide_eq_false (by have := hk4 (by have := of_decide_eq_true q104; omega); omega))) ?_
          refine W_skip ?_
          refine W_region ?_   -- region 26
          refine L_op (d_add' (has_i64 (by omega) (by omega)) rfl rfl) ?_   -- 110 (Op.binOp BinOp.add 3 t87 ((1)) 3)
          refine L_op (d_move (v := .int .i64 _) rfl) ?_   -- 87 (Op.move t110)
          refine L_nil ?_
          exact ⟨k + 1, ⟨rfl, rfl, rfl, rfl, rfl, rfl, rfl, rfl, trivial⟩, ⟨h, by omega⟩, by omega⟩
        · -- guard 104 false
          refine L_off rfl rfl rfl ?_   -- 105 (Op.move t16)
          refine L_off rfl rfl rfl ?_   -- 106 (Op.call {(Callee.builtin Builtin.len), [t105], [33]})
          refine L_off rfl rfl rfl ?_   -- 107 (Op.binOp BinOp.lss 3 t106 ((4)) 3)
          refine L_on rfl rfl rfl ?_
          refine L_op (d_pick (r := .bool _) rfl rfl) ?_   -- 108 (Op.pick t104 t107 ((false)))
          refine L_op (d_pick (r := .bool _) rfl rfl) ?_   -- 109 (Op.pick t101 ((true)) t108)
          refine L_nil ?_
          refine W_false (rfl) ?_
          refine W_skip ?_
          refine W_region ?_   -- region 26
          refine L_op (d_add' (has_i64 (by omega) (by omega)) rfl rfl) ?_   -- 110 (Op.binOp BinOp.add 3 t87 ((1)) 3)
          refine L_op (d_move (v := .int .i64 _) rfl) ?_   -- 87 (Op.move t110)
          refine L_nil ?_
          exact ⟨k + 1, ⟨rfl, rfl, rfl, rfl, rfl, rfl, rfl, rfl, trivial⟩, ⟨h, by omega⟩, by omega⟩
      · -- c88 no
        refine W_exit (X_here ?_)
        refine W_seq ?_   -- join10: live (7, _), (14, _)
        refine W_seq ?_
        refine W_region ?_   -- region 27
        refine L_op (d_move (v := .slice _ _ _) rfl) ?_   -- 111 (Op.move t8)
        refine L_op (d_lenB sl51 rfl) ?_   -- 112 (Op.call {(Callee.builtin Builtin.len), [t111], [51]})
        refine L_op (d_move (v := .int .i64 _) rfl) ?_   -- 113 (Op.move ((0)))
        refine L_nil ?_
        refine W_block ?_   -- block 4
        refine W_while (σ := Nat) 0 (fun j => [(7, .slice A7 (ini ++ [lst]).flatten.length c7), (9, .slice A9 tl.length c9), (14, .slice A84 (ini ++ [lst]).length c84), (111, .slice A8 tl.length c8), (112, .int .i64 tl.length), (113, .int .i64 j)])
          (fun j w1 => St W (fun k => k < W.heap.size) [rowsA 33 5 (.slice A84 (ini ++ [lst]).length c84) (ini ++ [lst]), wrA gw size ini lst, row 33 1 (.slice A9 tl.length c9) tl.length rs, row 37 2 (.slice A8 tl.length c8) tl.length (pcells tl), row 5 1 (.slice A7 (ini ++ [lst]).flatten.length c7) (ini ++ [lst]).flatten.length (bys (ini ++ [lst]).flatten)] w1 ∧ j ≤ tl.length) (fun j => tl.length - j) ⟨rfl, rfl, rfl, rfl, rfl, rfl, trivial⟩ ⟨h, Nat.zero_le _⟩ ?_
        rintro j w1 b_ ⟨h, hj⟩
        refine W_seq ?_
        refine W_region ?_   -- region 28
        refine L_op (d_lss rfl rfl) ?_   -- 114 (Op.binOp BinOp.lss 3 t113 t112 3)
        refine L_nil ?_
        refine W_seq ?_   -- join11: live (7, _), (9, _), (14, _), (111, _), (112, _), (113, _)
        refine W_if rfl (fun c114 => ?_) (fun c114 => ?_)
        · -- c114 yes
          have hj2 : j < tl.length := by omega
          obtain ⟨ht1, ht2, r, hr84, hrl84, hreq⟩ := hv.t _ (List.getElem_mem hj2)
          obtain ⟨B, cb, hrs, hcb, hrb⟩ := hv.r.2 j _ (List.getElem?_eq_getElem hj2)
          obtain ⟨g8, k8, e8⟩ := (h.rowAt (i := 3) rfl).form (by omega)
          injection e8 with e8 _ e8c
          subst e8
          obtain ⟨g9, k9, e9⟩ := (h.rowAt (i := 2) rfl).form (by omega)
          injection e9 with e9 _ e9c
          subst e9
          have hpc : ∀ (q : Nat) (v : Value), [Value.int .i64 tl[j].1, .int .i64 tl[j].2.1][q]? = some v → w1.cell? (((⟨g8, 0, none⟩ : Addr).add (j * 2)).add q) = some v := fun q v hq => by
            rw [Addr.add_add]
            exact h.rowCells (i := 3) rfl _ _ (pcells_get tl j q hj2 v hq)
          generalize tl[j] = t at ht1 ht2 hr84 hrl84 hreq hrs hcb hrb hpc
          obtain ⟨d, p, xs⟩ := t
          dsimp only at ht1 ht2 hr84 hrl84 hreq hrs hcb hrb hpc
          obtain ⟨dn, rfl⟩ := Int.eq_ofNat_of_zero_le ht1
          obtain ⟨pn, rfl⟩ := Int.eq_ofNat_of_zero_le ht2
          rw [Int.toNat_natCast] at hr84 hrl84 hreq
          have hdn : dn < (ini ++ [lst]).length := (List.getElem?_eq_some_iff.1 hr84).1
          have hrle := hal r (List.mem_of_getElem? hr84)
          refine W_skip ?_
          refine W_seq ?_   -- join12: live (7, _), (9, _), (14, _), (111, _), (112, _), (113, _)
          refine W_block ?_   -- block 5
          refine W_seq ?_
          refine W_region ?_   -- region 29
          refine L_op (d_move (v := .int .i64 _) rfl) ?_   -- 115 (Op.move t113)
          refine L_op (d_ix (m := j) sl51 rfl rfl rfl hj2) ?_   -- 116 (Op.indexAddr 51 t111 t113)
          refine L_op (d_loadAggB [.int .i64 (dn : Int), .int .i64 (pn : Int)] ag37 rfl rfl hpc) ?_   -- 117 (Op.load 37 t116)
          --- 18 (Op.alloc 37)
          refine L_allocB h [.int .i64 0, .int .i64 0] zi37 rfl (fun g18 w h b => ?_)
          refine L_op (d_assign (v := .int .i64 _) rfl) ?_   -- 17 (Op.assign t115)
          --- None (Op.store 37 t18 t117)
          first
            | refine L_storeBlk h (i := 0) (vs := [.int .i64 _, .int .i64 _]) rfl sz37 rfl rfl (by simp [Value.oneCell']) rfl (fun w h => ?_)
            | refine L_storeBlk h (i := 1) (vs := [.int .i64 _, .int .i64 _]) rfl sz37 rfl rfl (by simp [Value.oneCell']) rfl (fun w h => ?_)
            | refine L_storeBlk h (i := 2) (vs := [.int .i64 _, .int .i64 _]) rfl sz37 rfl rfl (by simp [Value.oneCell']) rfl (fun w h => ?_)
            | refine L_storeBlk h (i := 3) (vs := [.int .i64 _, .int .i64 _]) rfl sz37 rfl rfl (by simp [Value.oneCell']) rfl (fun w h => ?_)
            | refine L_storeBlk h (i := 4) (vs := [.int .i64 _, .int .i64 _]) rfl sz37 rfl rfl (by simp [Value.oneCell']) rfl (fun w h => ?_)
            | refine L_storeBlk h (i := 5) (vs := [.int .i64 _, .int .i64 _]) rfl sz37 rfl rfl (by simp [Value.oneCell']) rfl (fun w h => ?_)
            | refine L_storeBlk h (i := 6) (vs := [.int .i64 _, .int .i64 _]) rfl sz37 rfl rfl (by simp [Value.oneCell']) rfl (fun w h => ?_)
            | refine L_storeBlk h (i := 7) (vs := [.int .i64 _, .int .i64 _]) rfl sz37 rfl rfl (by simp [Value.oneCell']) rfl (fun w h => ?_)
          refine L_nil ?_
          refine W_seq ?_
          refine W_region ?_   -- region 30
          refine L_op (d_move (v := .slice _ _ _) rfl) ?_   -- 118 (Op.move t9)
          refine L_op (d_move (v := .int .i64 _) rfl) ?_   -- 119 (Op.move t17)
          refine L_op (d_ixOwn1 (m := j) sl29 rfl rfl rfl hj2) ?_   -- 120 (Op.indexAddr 29 t118 t119)
          refine L_op (d_loadB sc33 (v := .slice _ _ _) rfl ((h.rowAt (i := 3) rfl).cell (j := j) hrs)) ?_   -- 121 (Op.load 33 t120)
          refine L_op (d_assign (v := .slice _ _ _) rfl) ?_   -- 19 (Op.assign t121)
          refine L_nil ?_
          refine W_seq ?_
          refine W_draw [.P, .S, .P, .P, .S, .S, .S, .S, .S, .P, .P, .S, .S, .S, .P, .P, .S, .S, .S, .S, .S, .S, .S, .S, .S, .S, .S, .S, .P, .P, .S, .S, .S, .S, .S, .S, .S, .S, .S, .S, .S, .S, .S, .S, .H, .S, .P] [[], [0], [0, 1], [0, 1, 2], [0, 1, 2, 3], [0, 1, 2, 3, 4], [0, 1, 2, 3], [0, 1, 2, 3, 6], [0, 1, 2, 3, 4, 5, 6, 7], [0, 1, 2, 3, 4, 5, 6, 7, 8], [0, 1, 2, 3, 4, 5, 6, 7, 8, 9], [0, 1, 2, 3, 4, 5, 6, 7, 8, 9, 10], [0, 1, 2, 3, 4, 5, 6, 7, 8, 9, 10, 11], [0, 1, 2, 3, 4, 5, 6, 7, 8, 9, 10, 11, 12], [0, 1, 2, 3, 4, 5, 6, 7, 8, 9, 10, 11, 12, 13], [0, 1, 2, 3, 4, 5, 6, 7, 8, 9, 10, 11, 12, 13, 14], [0, 1, 2, 3, 4, 5, 6, 7, 8, 9, 10, 11, 12, 13, 14, 15], [0, 1, 2, 3, 4, 5, 6, 7, 8, 9, 10, 11, 12, 13, 14, 15, 16], [0, 1, 2, 3, 4, 5, 6, 7, 8, 9, 10, 11, 12, 13, 14, 15], [0, 1, 2, 3, 4, 5, 6, 7, 8, 9, 10, 11, 12, 13, 14, 15, 18], [0, 1, 2, 3, 4, 5, 6, 7, 8, 9, 10, 11, 12, 13, 14, 15, 16, 17, 18, 19], [0, 1, 2, 3, 4, 5, 6, 7, 8, 9, 10, 11, 12, 13, 14, 15], [0, 1, 2, 3, 4, 5, 6, 7, 8, 9, 10, 11, 12, 13, 14, 15], [0, 1, 2, 3, 4, 5, 6, 7, 8, 9, 10, 11, 12, 13, 14, 15, 22], [0, 1, 2, 3, 4, 5, 6, 7, 8, 9, 10, 11, 12, 13, 14, 15, 21, 22, 23], [0, 1, 2, 3, 4, 5, 6, 7, 8, 9, 10, 11, 12, 13, 14, 15, 21, 22, 23, 24], [0, 1, 2, 3, 4, 5, 6, 7, 8, 9, 10, 11, 12, 13, 14, 15, 21, 22, 23, 24, 25], [0, 1, 2, 3, 4, 5, 6, 7, 8, 9, 10, 11, 12, 13, 14, 15, 16, 17, 18, 19, 20, 21, 22, 23, 24, 25, 26], [0, 1, 2, 3, 4, 5, 6, 7, 8, 9, 10, 11, 12, 13, 14, 15, 16, 17, 18, 19, 20, 21, 22, 23, 24, 25, 26, 27], [0, 1, 2, 3, 4, 5, 6, 7, 8, 9, 10, 11, 12, 13, 14, 15, 16, 17, 18, 19, 20, 21, 22, 23, 24, 25, 26, 27, 28], [0, 1, 2, 3, 4, 5, 6, 7, 8, 9, 10, 11, 12, 13, 14, 15, 16, 17, 18, 19, 20, 21, 22, 23, 24, 25, 26, 27, 28, 29], [0, 1, 2, 3, 4, 5, 6, 7, 8, 9, 10, 11, 12, 13, 14, 15, 16, 17, 18, 19, 20, 21, 22, 23, 24, 25, 26, 27, 28, 29], [0, 1, 2, 3, 4, 5, 6, 7, 8, 9, 10, 11, 12, 13, 14, 15, 16, 17, 18, 19, 20, 21, 22, 23, 24, 25, 26, 27, 28, 29, 31], [0, 1, 2, 3, 4, 5, 6, 7, 8, 9, 10, 11, 12, 13, 14, 15, 16, 17, 18, 19, 20, 21, 22, 23, 24, 25, 26, 27, 28, 29, 30, 31, 32], [0, 1, 2, 3, 4, 5, 6, 7, 8, 9, 10, 11, 12, 13, 14, 15, 16, 17, 18, 19, 20, 21, 22, 23, 24, 25, 26, 27, 28, 29, 30, 31, 32, 33], [0, 1, 2, 3, 4, 5, 6, 7, 8, 9, 10, 11, 12, 13, 14, 15, 16, 17, 18, 19, 20, 21, 22, 23, 24, 25, 26, 27, 28, 29], [0, 1, 2, 3, 4, 5, 6, 7, 8, 9, 10, 11, 12, 13, 14, 15, 16, 17, 18, 19, 20, 21, 22, 23, 24, 25, 26, 27, 28, 29, 35], [0, 1, 2, 3, 4, 5, 6, 7, 8, 9, 10, 11, 12, 13, 14, 15, 16, 17, 18, 19, 20, 21, 22, 23, 24, 25, 26, 27, 28, 29], [0, 1, 2, 3, 4, 5, 6, 7, 8, 9, 10, 11, 12, 13, 14, 15, 16, 17, 18, 19, 20, 21, 22, 23, 24, 25, 26, 27, 28, 29, 37], [0, 1, 2, 3, 4, 5, 6, 7, 8, 9, 10, 11, 12, 13, 14, 15, 16, 17, 18, 19, 20, 21, 22, 23, 24, 25, 26, 27, 28, 29], [0, 1, 2, 3, 4, 5, 6, 7, 8, 9, 10, 11, 12, 13, 14, 15, 16, 17, 18, 19, 20, 21, 22, 23, 24, 25, 26, 27, 28, 29, 39], [0, 1, 2, 3, 4, 5, 6, 7, 8, 9, 10, 11, 12, 13, 14, 15, 16, 17, 18, 19, 20, 21, 22, 23, 24, 25, 26, 27, 28, 29, 37, 38, 39, 40], [0, 1, 2, 3, 4, 5, 6, 7, 8, 9, 10, 11, 12, 13, 14, 15, 16, 17, 18, 19, 20, 21, 22, 23, 24, 25, 26, 27, 28, 29, 30, 31, 32, 33, 34, 35, 36, 37, 38, 39, 40, 41], [0, 1, 2, 3, 4, 5, 6, 7, 8, 9, 10, 11, 12, 13, 14, 15, 16, 17, 18, 19, 20, 21, 22, 23, 24, 25, 26, 27, 28, 29], [0, 1, 2, 3, 4, 5, 6, 7, 8, 9, 10, 11, 12, 13, 14, 15, 16, 17, 18, 19, 20, 21, 22, 23, 24, 25, 26, 27, 28, 29, 30, 31, 32, 33, 34, 35, 36, 37, 38, 39, 40, 41, 42, 43], [0, 1, 2, 3, 4, 5, 6, 7, 8, 9, 10, 11, 12, 13, 14, 15, 16, 17, 18, 19, 20, 21, 22, 23, 24, 25, 26, 27, 28, 29, 30, 31, 32, 33, 34, 35, 36, 37, 38, 39, 40, 41, 42, 43, 44], [0, 1, 2, 3, 4, 5, 6, 7, 8, 9, 10, 11, 12, 13, 14, 15, 16, 17, 18, 19, 20, 21, 22, 23, 24, 25, 26, 27, 28, 29, 30, 31, 32, 33, 34, 35, 36, 37, 38, 39, 40, 41, 42, 43, 44, 45]] mixed (by decide +kernel) (fun w b => ?_)   -- region 31
          replace h := h.keep b
          obtain ⟨a84, Ar, cr, rfl, hc84, hle84, hrd84⟩ := rowsA_rd (i := 1) h rfl dn r hr84
          refine T_P 0 rfl (by decide +kernel) (fun w2 => d_fieldAddrB fa37_0 rfl) ?_   -- 122 (Op.fieldAddr 37 t18 0)
          refine T_S 1 rfl (by decide +kernel) (fun w2 b2 => d_loadB sc3 (v := .int .i64 _) rfl (by first | exact (h.keep b2).cell (i := 0) rfl rfl | exact (h.keep b2).cell (i := 1) rfl rfl | exact (h.keep b2).cell (i := 2) rfl rfl | exact (h.keep b2).cell (i := 3) rfl rfl | exact (h.keep b2).cell (i := 4) rfl rfl | exact (h.keep b2).cell (i := 5) rfl rfl | exact (h.keep b2).cell (i := 6) rfl rfl | exact (h.keep b2).cell (i := 7) rfl rfl | exact (h.keep b2).cell (i := 8) rfl rfl)) ?_   -- 123 (Op.load 3 t122)
          refine T_P 2 rfl (by decide +kernel) (fun w2 => d_lss rfl rfl) ?_   -- 124 (Op.binOp BinOp.lss 3 t123 ((0)) 3)
          refine T_P 3 rfl (by decide +kernel) (fun w2 => d_move (v := .bool _) rfl) ?_   -- 125 (Op.move t124)
          refine T_know (dj := 125) (b := false) rfl (decide_eq_false (by omega)) ?_
          refine T_on 4 rfl (by decide +kernel) rfl rfl rfl (fun w2 b2 => d_fieldAddrB fa37_0 rfl) rfl ?_   -- 126 (Op.fieldAddr 37 t18 0)
          refine T_on 5 rfl (by decide +kernel) rfl rfl rfl (fun w2 b2 => d_loadB sc3 (v := .int .i64 _) rfl (by first | exact (h.keep b2).cell (i := 0) rfl rfl | exact (h.keep b2).cell (i := 1) rfl rfl | exact (h.keep b2).cell (i := 2) rfl rfl | exact (h.keep b2).cell (i := 3) rfl rfl | exact (h.keep b2).cell (i := 4) rfl rfl | exact (h.keep b2).cell (i := 5) rfl rfl | exact (h.keep b2).cell (i := 6) rfl rfl | exact (h.keep b2).cell (i := 7) rfl rfl | exact (h.keep b2).cell (i := 8) rfl rfl)) rfl ?_   -- 127 (Op.load 3 t126)
          refine T_on 6 rfl (by decide +kernel) rfl rfl rfl (fun w2 b2 => d_move (v := .slice _ _ _) rfl) rfl ?_   -- 128 (Op.move t14)
          refine T_on 7 rfl (by decide +kernel) rfl rfl rfl (fun w2 b2 => d_lenB sl29 rfl) rfl ?_   -- 129 (Op.call {(Callee.builtin Builtin.len), [t128], [29]})
          refine T_on 8 rfl (by decide +kernel) rfl rfl rfl (fun w2 b2 => d_geq rfl rfl) rfl ?_   -- 130 (Op.binOp BinOp.geq 3 t127 t129 3)
          refine T_P 9 rfl (by decide +kernel) (fun w2 => d_pick (r := .bool _) rfl rfl) ?_   -- 131 (Op.pick t125 ((true)) t130)
          refine T_P 10 rfl (by decide +kernel) (fun w2 => d_move (v := .bool _) rfl) ?_   -- 132 (Op.move t131)
          refine T_know (dj := 132) (b := false) rfl (decide_eq_false (by omega)) ?_
          refine T_on 11 rfl (by decide +kernel) rfl rfl rfl (fun w2 b2 => d_fieldAddrB fa37_1 rfl) rfl ?_   -- 133 (Op.fieldAddr 37 t18 1)
          refine T_on 12 rfl (by decide +kernel) rfl rfl rfl (fun w2 b2 => d_loadB sc3 (v := .int .i64 _) rfl (by first | exact (h.keep b2).cell (i := 0) rfl rfl | exact (h.keep b2).cell (i := 1) rfl rfl | exact (h.keep b2).cell (i := 2) rfl rfl | exact (h.keep b2).cell (i := 3) rfl rfl | exact (h.keep b2).cell (i := 4) rfl rfl | exact (h.keep b2).cell (i := 5) rfl rfl | exact (h.keep b2).cell (i := 6) rfl rfl | exact (h.keep b2).cell (i := 7) rfl rfl | exact (h.keep b2).cell (i := 8) rfl rfl)) rfl ?_   -- 134 (Op.load 3 t133)
          refine T_on 13 rfl (by decide +kernel) rfl rfl rfl (fun w2 b2 => d_lss rfl rfl) rfl ?_   -- 135 (Op.binOp BinOp.lss 3 t134 ((0)) 3)
          refine T_P 14 rfl (by decide +kernel) (fun w2 => d_pick (r := .bool _) rfl rfl) ?_   -- 136 (Op.pick t132 ((true)) t135)
          refine T_P 15 rfl (by decide +kernel) (fun w2 => d_move (v := .bool _) rfl) ?_   -- 137 (Op.move t136)
          refine T_know (dj := 137) (b := false) rfl (decide_eq_false (by omega)) ?_
          refine T_on 16 rfl (by decide +kernel) rfl rfl rfl (fun w2 b2 => d_fieldAddrB fa37_1 rfl) rfl ?_   -- 138 (Op.fieldAddr 37 t18 1)
          refine T_on 17 rfl (by decide +kernel) rfl rfl rfl (fun w2 b2 => d_loadB sc3 (v := .int .i64 _) rfl (by first | exact (h.keep b2).cell (i := 0) rfl rfl | exact (h.keep b2).cell (i := 1) rfl rfl | exact (h.keep b2).cell (i := 2) rfl rfl | exact (h.keep b2).cell (i := 3) rfl rfl | exact (h.keep b2).cell (i := 4) rfl rfl | exact (h.keep b2).cell (i := 5) rfl rfl | exact (h.keep b2).cell (i := 6) rfl rfl | exact (h.keep b2).cell (i := 7) rfl rfl | exact (h.keep b2).cell (i := 8) rfl rfl)) rfl ?_   -- 139 (Op.load 3 t138)
          refine T_on 18 rfl (by decide +kernel) rfl rfl rfl (fun w2 b2 => d_move (v := .slice _ _ _) rfl) rfl ?_   -- 140 (Op.move t19)
          refine T_on 19 rfl (by decide +kernel) rfl rfl rfl (fun w2 b2 => d_lenB sl33 rfl) rfl ?_   -- 141 (Op.call {(Callee.builtin Builtin.len), [t140], [33]})
          refine T_on 20 rfl (by decide +kernel) rfl rfl rfl (fun w2 b2 => d_add' (has_i64 (by omega) (by omega)) rfl rfl) rfl ?_   -- 142 (Op.binOp BinOp.add 3 t139 t141 3)
          refine T_on 21 rfl (by decide +kernel) rfl rfl rfl (fun w2 b2 => d_move (v := .slice _ _ _) rfl) rfl ?_   -- 143 (Op.move t14)
          refine T_on 22 rfl (by decide +kernel) rfl rfl rfl (fun w2 b2 => d_fieldAddrB fa37_0 rfl) rfl ?_   -- 144 (Op.fieldAddr 37 t18 0)
          refine T_on 23 rfl (by decide +kernel) rfl rfl rfl (fun w2 b2 => d_loadB sc3 (v := .int .i64 _) rfl (by first | exact (h.keep b2).cell (i := 0) rfl rfl | exact (h.keep b2).cell (i := 1) rfl rfl | exact (h.keep b2).cell (i := 2) rfl rfl | exact (h.keep b2).cell (i := 3) rfl rfl | exact (h.keep b2).cell (i := 4) rfl rfl | exact (h.keep b2).cell (i := 5) rfl rfl | exact (h.keep b2).cell (i := 6) rfl rfl | exact (h.keep b2).cell (i := 7) rfl rfl | exact (h.keep b2).cell (i := 8) rfl rfl)) rfl ?_   -- 145 (Op.load 3 t144)
          refine T_on 24 rfl (by decide +kernel) rfl rfl rfl (fun w2 b2 => d_ix1 (m := dn) sl29 rfl rfl rfl hdn) rfl ?_   -- 146 (Op.indexAddr 29 t143 t145)
          refine T_on 25 rfl (by decide +kernel) rfl rfl rfl (fun w2 b2 => d_loadB sc33 (v := .slice _ _ _) rfl (cell_keep hc84 b2)) rfl ?_   -- 147 (Op.load 33 t146)
          refine T_on 26 rfl (by decide +kernel) rfl rfl rfl (fun w2 b2 => d_lenB sl33 rfl) rfl ?_   -- 148 (Op.call {(Callee.builtin Builtin.len), [t147], [33]})
          refine T_on 27 rfl (by decide +kernel) rfl rfl rfl (fun w2 b2 => d_gtr rfl rfl) rfl ?_   -- 149 (Op.binOp BinOp.gtr 3 t142 t148 3)
          refine T_P 28 rfl (by decide +kernel) (fun w2 => d_pick (r := .bool _) rfl rfl) ?_   -- 150 (Op.pick t137 ((true)) t149)
          refine T_P 29 rfl (by decide +kernel) (fun w2 => d_move (v := .bool _) rfl) ?_   -- 151 (Op.move t150)
          refine T_know (dj := 151) (b := false) rfl (decide_eq_false (by omega)) ?_
          refine T_on 30 rfl (by decide +kernel) rfl rfl rfl (fun w2 b2 => d_move (v := .slice _ _ _) rfl) rfl ?_   -- 152 (Op.move t14)
          refine T_on 31 rfl (by decide +kernel) rfl rfl rfl (fun w2 b2 => d_fieldAddrB fa37_0 rfl) rfl ?_   -- 153 (Op.fieldAddr 37 t18 0)
          refine T_on 32 rfl (by decide +kernel) rfl rfl rfl (fun w2 b2 => d_loadB sc3 (v := .int .i64 _) rfl (by first | exact (h.keep b2).cell (i := 0) rfl rfl | exact (h.keep b2).cell (i := 1) rfl rfl | exact (h.keep b2).cell (i := 2) rfl rfl | exact (h.keep b2).cell (i := 3) rfl rfl | exact (h.keep b2).cell (i := 4) rfl rfl | exact (h.keep b2).cell (i := 5) rfl rfl | exact (h.keep b2).cell (i := 6) rfl rfl | exact (h.keep b2).cell (i := 7) rfl rfl | exact (h.keep b2).cell (i := 8) rfl rfl)) rfl ?_   -- 154 (Op.load 3 t153)
          refine T_on 33 rfl (by decide +kernel) rfl rfl rfl (fun w2 b2 => d_ix1 (m := dn) sl29 rfl rfl rfl hdn) rfl ?_   -- 155 (Op.indexAddr 29 t152 t154)
          refine T_on 34 rfl (by decide +kernel) rfl rfl rfl (fun w2 b2 => d_loadB sc33 (v := .slice _ _ _) rfl (cell_keep hc84 b2)) rfl ?_   -- 156 (Op.load 33 t155)
          refine T_on 35 rfl (by decide +kernel) rfl rfl rfl (fun w2 b2 => d_fieldAddrB fa37_1 rfl) rfl ?_   -- 157 (Op.fieldAddr 37 t18 1)
          refine T_on 36 rfl (by decide +kernel) rfl rfl rfl (fun w2 b2 => d_loadB sc3 (v := .int .i64 _) rfl (by first | exact (h.keep b2).cell (i := 0) rfl rfl | exact (h.keep b2).cell (i := 1) rfl rfl | exact (h.keep b2).cell (i := 2) rfl rfl | exact (h.keep b2).cell (i := 3) rfl rfl | exact (h.keep b2).cell (i := 4) rfl rfl | exact (h.keep b2).cell (i := 5) rfl rfl | exact (h.keep b2).cell (i := 6) rfl rfl | exact (h.keep b2).cell (i := 7) rfl rfl | exact (h.keep b2).cell (i := 8) rfl rfl)) rfl ?_   -- 158 (Op.load 3 t157)
          refine T_on 37 rfl (by decide +kernel) rfl rfl rfl (fun w2 b2 => d_fieldAddrB fa37_1 rfl) rfl ?_   -- 159 (Op.fieldAddr 37 t18 1)
          refine T_on 38 rfl (by decide +kernel) rfl rfl rfl (fun w2 b2 => d_loadB sc3 (v := .int .i64 _) rfl (by first | exact (h.keep b2).cell (i := 0) rfl rfl | exact (h.keep b2).cell (i := 1) rfl rfl | exact (h.keep b2).cell (i := 2) rfl rfl | exact (h.keep b2).cell (i := 3) rfl rfl | exact (h.keep b2).cell (i := 4) rfl rfl | exact (h.keep b2).cell (i := 5) rfl rfl | exact (h.keep b2).cell (i := 6) rfl rfl | exact (h.keep b2).cell (i := 7) rfl rfl | exact (h.keep b2).cell (i := 8) rfl rfl)) rfl ?_   -- 160 (Op.load 3 t159)
          refine T_on 39 rfl (by decide +kernel) rfl rfl rfl (fun w2 b2 => d_move (v := .slice _ _ _) rfl) rfl ?_   -- 161 (Op.move t19)
          refine T_on 40 rfl (by decide +kernel) rfl rfl rfl (fun w2 b2 => d_lenB sl33 rfl) rfl ?_   -- 162 (Op.call {(Callee.builtin Builtin.len), [t161], [33]})
          refine T_on 41 rfl (by decide +kernel) rfl rfl rfl (fun w2 b2 => d_add' (has_i64 (by omega) (by omega)) rfl rfl) rfl ?_   -- 163 (Op.binOp BinOp.add 3 t160 t162 3)
          refine T_on 42 rfl (by decide +kernel) rfl rfl rfl (fun w2 b2 => d_sliceN (pn := pn) (n := xs.length) sl33 rfl rfl rfl rfl rfl (by omega)) rfl ?_   -- 164 (Op.slice 33 t156 (some t158) (some t163) none)
          refine T_on 43 rfl (by decide +kernel) rfl rfl rfl (fun w2 b2 => d_move (v := .slice _ _ _) rfl) rfl ?_   -- 165 (Op.move t19)
          refine T_H 44 (by decide +kernel) rfl ?_
          refine L_on rfl rfl rfl ?_
          --- 166 (Op.call {(Callee.value (Operand.func 20)), [t164, t165], [33, 33]})
          refine L_callB fn20 rfl (same_calls (xs := xs) (ys := xs) (rd_mid hrd84 hle84 hreq hrl84) (hrb.at h) (by omega)) ?_
          rintro _ w ⟨rfl, b⟩
          replace h := h.keep b
          refine L_nil ?_
          refine T_on 45 rfl (by decide +kernel) rfl rfl rfl (fun w2 b2 => d_not rfl) rfl ?_   -- 167 (Op.unOp UnOp.not 4 t166)
          refine T_P 46 rfl (by decide +kernel) (fun w2 => d_pick (r := .bool _) rfl rfl) ?_   -- 168 (Op.pick t151 ((true)) t167)
          refine T_end (by decide +kernel) ?_
          refine W_false (congrArg Value.bool (by simp)) ?_
          refine W_skip ?_
          refine W_region ?_   -- region 33
          refine L_op (d_add' (has_i64 (by omega) (by omega)) rfl rfl) ?_   -- 169 (Op.binOp BinOp.add 3 t113 ((1)) 3)
          refine L_op (d_move (v := .int .i64 _) rfl) ?_   -- 113 (Op.move t169)
          refine L_nil ?_
          exact ⟨j + 1, ⟨rfl, rfl, rfl, rfl, rfl, rfl, trivial⟩, ⟨h.drop, by omega⟩, by omega⟩
        · -- c114 no
          refine W_exit (X_here ?_)
          refine W_seq ?_
          refine W_region ?_   -- region 34
          refine L_op (d_move (v := .slice _ _ _) rfl) ?_   -- 170 (Op.move t14)
          --- 171 (Op.call {(Callee.value (Operand.func 21)), [t170], [29]})
          refine L_callB fn21 rfl (join_calls (rowsA_rd (i := 0) h rfl) (by omega) (by omega)) ?_
          rintro v171 w1 hm
          replace h := h.take hm
          obtain ⟨A171, c171, rfl, _⟩ := (h.rowAt (i := 0) rfl).slice
          refine L_op (d_move (v := .slice _ _ _) rfl) ?_   -- 172 (Op.move t7)
          --- 173 (Op.call {(Callee.value (Operand.func 20)), [t171, t172], [33, 33]})
          refine L_callB fn20 rfl (same_calls (h.rowAt (i := 0) rfl).rd (h.rowAt (i := 5) rfl).rd (by omega)) ?_
          rintro _ w ⟨rfl, b⟩
          replace h := h.keep b
          refine L_op (d_assign (v := .bool _) rfl) ?_   -- 4 (Op.assign t173)
          refine L_nil ?_
          refine W_ret (Ret1 (v1 := .bool _) rfl rfl ?_)
          exact ⟨congrArg Value.bool (by simp), h.below⟩
end Go.Proofs.Ytbhjdbkdnandfaa.Sp
