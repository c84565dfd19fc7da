/- Walks of the functions 6, printed by wip/fw/walk.py out of sp12.py. -/
import Derived.Test.YtbhjdbkdnandfaaSpd
import Derived.Test.YtbhjdbkdnandfaaSpp
namespace Go.Proofs.Ytbhjdbkdnandfaa.Sp
open Go Go.RowKit Go.Fw Go.Fw.Asn Go.Proofs
set_option linter.unusedVariables false
set_option maxRecDepth 100000 in
theorem goes_good {W : World} {A1 A2 : Option Addr} {c1 c2 : Nat} {ahead ops : OpL} {size : Int} (ho1 : FOps (fun k => k < W.heap.size) W A1 ahead) (hl1 : ahead.length ≤ 9223372036854775807) (ho : FOps (fun k => k < W.heap.size) W A2 ops) (hl : ops.length ≤ 9223372036854775807) (hs : -9223372036854775808 ≤ size ∧ size ≤ 9223372036854775807) (hgood : ¬ (size < 5 ∨ size > 16777216)) :
    Runs Try.prog 6 [.int .i64 size, .slice A1 ahead.length c1, .slice A2 ops.length c2] W (fun v w' => v = .bool true ∧ Below W.heap.size W w') := by
  have h := St.start W
  have hs1 : 5 ≤ size := by omega
  have hs2 : size ≤ 16777216 := by omega
  refine Runs_of (N := 195) Try.func6 rfl rfl (by simp) ?_
  refine W_seq ?_
  refine W_region ?_   -- region 0
  refine L_op (d_assign (v := .bool _) rfl) ?_   -- 6 (Op.assign ((false)))
  refine L_nil ?_
  refine W_seq ?_   -- join1: live (0, .append), (1, _), (2, _)
  refine W_seq ?_
  refine W_region ?_   -- region 1
  --- 29 (Op.call {(Callee.value (Operand.func 7)), [], []})
  refine L_callB fn7 rfl (alive_calls _) ?_
  rintro _ w ⟨rfl, b⟩
  replace h := h.keep b
  refine L_op (d_not rfl) ?_   -- 30 (Op.unOp UnOp.not 4 t29)
  refine L_nil ?_
  refine W_false (rfl) ?_
  refine W_skip ?_
  refine W_seq ?_
  refine W_region ?_   -- region 3
  refine L_op (d_move (v := .int .i64 _) rfl) ?_   -- 32 (Op.move t0)
  --- 33 (Op.call {(Callee.value (Operand.func 9)), [t32], [3]})
  refine L_callB fn9 rfl (new_calls _ _ hs) ?_
  rintro v33 w1 hv
  rw [if_neg hgood] at hv
  obtain ⟨gw, rfl, hm⟩ := hv
  replace h := h.take hm
  refine L_op (d_move (v := .tuple _) rfl) ?_   -- 31 (Op.move t33)
  refine L_op (d_extract (v := .pointer _) rfl rfl) ?_   -- 34 (Op.extract t31 0)
  refine L_op (d_extract (v := .int .i64 _) rfl rfl) ?_   -- 35 (Op.extract t31 1)
  refine L_op (d_assign (v := .pointer _) rfl) ?_   -- 7 (Op.assign t34)
  refine L_op (d_assign (v := .int .i64 _) rfl) ?_   -- 8 (Op.assign t35)
  refine L_nil ?_
  refine W_seq ?_   -- join2: live (0, .append), (1, _), (2, _), (7, _)
  refine W_seq ?_
  refine W_region ?_   -- region 4
  refine L_op (d_move (v := .slice _ _ _) rfl) ?_   -- 36 (Op.move t1)
  --- 37 (Op.call {(Callee.value (Operand.func 8)), [t36], [22]})
  refine L_callB fn8 rfl (few_calls h ho1 hl1) ?_
  rintro _ w ⟨rfl, h⟩
  refine L_op (d_not rfl) ?_   -- 38 (Op.unOp UnOp.not 4 t37)
  refine L_op (d_move (v := .bool _) rfl) ?_   -- 39 (Op.move t38)
  refine L_case (dj := 39) rfl (fun q39 => ?_) (fun q39 => ?_)
  · -- guard 39 true
    refine L_off rfl rfl rfl ?_   -- 40 (Op.move t2)
    refine L_off rfl rfl rfl ?_   -- 41 (Op.call {(Callee.value (Operand.func 8)), [t40], [22]})
    refine L_off rfl rfl rfl ?_   -- 42 (Op.unOp UnOp.not 4 t41)
    refine L_op (d_pick (r := .bool _) rfl rfl) ?_   -- 43 (Op.pick t39 ((true)) t42)
    refine L_op (d_move (v := .bool _) rfl) ?_   -- 44 (Op.move t43)
    refine L_off rfl rfl rfl ?_   -- 45 (Op.move t8)
    refine L_off rfl rfl rfl ?_   -- 46 (Op.binOp BinOp.neq 26 t45 ((0)) 26)
    refine L_op (d_pick (r := .bool _) rfl rfl) ?_   -- 47 (Op.pick t44 ((true)) t46)
    refine L_nil ?_
    refine W_true (rfl) ?_
    refine W_seq ?_
    refine W_region ?_   -- region 5
    refine L_op (d_assign (v := .bool _) rfl) ?_   -- 6 (Op.assign ((true)))
    refine L_nil ?_
    refine W_ret (Ret1 (v1 := .bool _) rfl rfl ?_)
    exact ⟨rfl, h.below⟩
  · -- guard 39 false
    refine L_on rfl rfl rfl ?_
    refine L_op (d_move (v := .slice _ _ _) rfl) ?_   -- 40 (Op.move t2)
    refine L_on rfl rfl rfl ?_
    --- 41 (Op.call {(Callee.value (Operand.func 8)), [t40], [22]})
    refine L_callB fn8 rfl (few_calls h ho hl) ?_
    rintro _ w ⟨rfl, h⟩
    refine L_on rfl rfl rfl ?_
    refine L_op (d_not rfl) ?_   -- 42 (Op.unOp UnOp.not 4 t41)
    refine L_op (d_pick (r := .bool _) rfl rfl) ?_   -- 43 (Op.pick t39 ((true)) t42)
    refine L_op (d_move (v := .bool _) rfl) ?_   -- 44 (Op.move t43)
    refine L_case (dj := 44) rfl (fun q44 => ?_) (fun q44 => ?_)
    · -- guard 44 true
      refine L_off rfl rfl rfl ?_   -- 45 (Op.move t8)
      refine L_off rfl rfl rfl ?_   -- 46 (Op.binOp BinOp.neq 26 t45 ((0)) 26)
      refine L_op (d_pick (r := .bool _) rfl rfl) ?_   -- 47 (Op.pick t44 ((true)) t46)
      refine L_nil ?_
      refine W_true (rfl) ?_
      refine W_seq ?_
      refine W_region ?_   -- region 5
      refine L_op (d_assign (v := .bool _) rfl) ?_   -- 6 (Op.assign ((true)))
      refine L_nil ?_
      refine W_ret (Ret1 (v1 := .bool _) rfl rfl ?_)
      exact ⟨rfl, h.below⟩
    · -- guard 44 false
      refine L_on rfl rfl rfl ?_
      refine L_op (d_move (v := .int .i64 _) rfl) ?_   -- 45 (Op.move t8)
      refine L_on rfl rfl rfl ?_
      refine L_op (d_neq rfl rfl) ?_   -- 46 (Op.binOp BinOp.neq 26 t45 ((0)) 26)
      refine L_op (d_pick (r := .bool _) rfl rfl) ?_   -- 47 (Op.pick t44 ((true)) t46)
      refine L_nil ?_
      refine W_false (rfl) ?_
      refine W_skip ?_
      refine W_seq ?_   -- join3: live (0, .append), (2, _), (7, _)
      refine W_seq ?_
      refine W_region ?_   -- region 6
      refine L_op (d_move (v := .slice _ _ _) rfl) ?_   -- 48 (Op.move t1)
      refine L_op (d_lenB sl22 rfl) ?_   -- 49 (Op.call {(Callee.builtin Builtin.len), [t48], [22]})
      refine L_op (d_move (v := .int .i64 _) rfl) ?_   -- 50 (Op.move ((0)))
      refine L_nil ?_
      refine W_block ?_   -- block 0
      obtain ⟨hfew1, hlen1⟩ := fewB_iff.1 (by simpa using q39)
      obtain ⟨hfew, hlen⟩ := fewB_iff.1 (by simpa using q44)
      refine W_while (σ := Nat × List (List Int) × List Int) (0, [], [80, 75, 7, 8]) (fun s => [(0, .int .i64 size), (2, .slice A2 ops.length c2), (7, .pointer (some ⟨gw, 0, none⟩)), (48, .slice A1 ahead.length c1), (49, .int .i64 ahead.length), (50, .int .i64 s.1)])
        (fun s w1 => St W (fun k => k < W.heap.size) [wrA gw size s.2.1 s.2.2] w1 ∧ s.1 ≤ ahead.length ∧ InvW size s.1 s.2.1 s.2.2 ∧ InvG size s.2.1 s.2.2) (fun s => ahead.length - s.1) ⟨rfl, rfl, rfl, rfl, rfl, rfl, trivial⟩ ⟨h, Nat.zero_le _, InvW.zero hs1, InvG.zero hs1⟩ ?_
      rintro ⟨i, ini, lst⟩ w1 b_ ⟨h, hi, hv, hg⟩
      dsimp only at h hi hv hg ⊢
      refine W_seq ?_
      refine W_region ?_   -- region 7
      refine L_op (d_lss rfl rfl) ?_   -- 51 (Op.binOp BinOp.lss 3 t50 t49 3)
      refine L_nil ?_
      refine W_seq ?_   -- join4: live (0, .append), (2, _), (7, _), (48, _), (49, _), (50, _)
      refine W_if rfl (fun c51 => ?_) (fun c51 => ?_)
      · -- c51 yes
        have hi2 : i < ahead.length := by omega
        have hi20 : i < 20 := by omega
        obtain ⟨a, B, cb, rfl, hcb, hrb, hld⟩ := ho1.get hi2
        have ho60 := hfew1 _ (List.getElem_mem hi2)
        generalize ahead[i] = o at hcb hrb hld ho60
        have hn1 := hv.n
        have hn2 := hv.l
        have hn3 := hv.s
        have hv1 := hv.lay ho60
        have hv2 := hv.put (by omega) ho60
        have hg1 := hg.lay (xs := o.2)
        have hg2 := InvG.put (size := size) (by omega) (xs := o.2) (s := (ini, lst)) hg
        refine W_skip ?_
        refine W_seq ?_   -- join5: live (0, .append), (2, _), (7, _), (48, _), (49, _), (50, _)
        refine W_block ?_   -- block 1
        refine W_seq ?_
        refine W_region ?_   -- region 8
        refine L_op (d_ix (m := i) sl22 rfl rfl rfl hi2) ?_   -- 52 (Op.indexAddr 22 t48 t50)
        refine L_op (d_loadAggB [.int .i64 o.1, .slice B o.2.length cb] ag35 rfl rfl (hld h)) ?_   -- 53 (Op.load 35 t52)
        --- 10 (Op.alloc 35)
        refine L_allocB h [.int .i64 0, .slice none 0 0] zi35 rfl (fun g10 w h b => ?_)
        --- None (Op.store 35 t10 t53)
        first
          | refine L_storeBlk h (i := 0) (vs := [.int .i64 _, .slice _ _ _]) rfl sz35 rfl rfl (by simp [Value.oneCell']) rfl (fun w h => ?_)
          | refine L_storeBlk h (i := 1) (vs := [.int .i64 _, .slice _ _ _]) rfl sz35 rfl rfl (by simp [Value.oneCell']) rfl (fun w h => ?_)
          | refine L_storeBlk h (i := 2) (vs := [.int .i64 _, .slice _ _ _]) rfl sz35 rfl rfl (by simp [Value.oneCell']) rfl (fun w h => ?_)
          | refine L_storeBlk h (i := 3) (vs := [.int .i64 _, .slice _ _ _]) rfl sz35 rfl rfl (by simp [Value.oneCell']) rfl (fun w h => ?_)
          | refine L_storeBlk h (i := 4) (vs := [.int .i64 _, .slice _ _ _]) rfl sz35 rfl rfl (by simp [Value.oneCell']) rfl (fun w h => ?_)
          | refine L_storeBlk h (i := 5) (vs := [.int .i64 _, .slice _ _ _]) rfl sz35 rfl rfl (by simp [Value.oneCell']) rfl (fun w h => ?_)
          | refine L_storeBlk h (i := 6) (vs := [.int .i64 _, .slice _ _ _]) rfl sz35 rfl rfl (by simp [Value.oneCell']) rfl (fun w h => ?_)
          | refine L_storeBlk h (i := 7) (vs := [.int .i64 _, .slice _ _ _]) rfl sz35 rfl rfl (by simp [Value.oneCell']) rfl (fun w h => ?_)
        refine L_nil ?_
        refine W_seq ?_
        refine W_region ?_   -- region 9
        refine L_op (d_fieldAddrB fa35_0 rfl) ?_   -- 54 (Op.fieldAddr 35 t10 0)
        refine L_op (d_loadB sc3 (v := .int .i64 _) rfl (by first | exact (h).cell (i := 0) rfl rfl | exact (h).cell (i := 1) rfl rfl | exact (h).cell (i := 2) rfl rfl | exact (h).cell (i := 3) rfl rfl | exact (h).cell (i := 4) rfl rfl | exact (h).cell (i := 5) rfl rfl | exact (h).cell (i := 6) rfl rfl | exact (h).cell (i := 7) rfl rfl | exact (h).cell (i := 8) rfl rfl)) ?_   -- 55 (Op.load 3 t54)
        refine L_op (d_eql rfl rfl) ?_   -- 56 (Op.binOp BinOp.eql 3 t55 ((0)) 3)
        refine L_op (d_move (v := .bool _) rfl) ?_   -- 57 (Op.move t56)
        refine L_case (dj := 57) rfl (fun q57 => ?_) (fun q57 => ?_)
        · -- guard 57 true
          refine L_off rfl rfl rfl ?_   -- 58 (Op.fieldAddr 35 t10 0)
          refine L_off rfl rfl rfl ?_   -- 59 (Op.load 3 t58)
          refine L_off rfl rfl rfl ?_   -- 60 (Op.binOp BinOp.eql 3 t59 ((1)) 3)
          refine L_op (d_pick (r := .bool _) rfl rfl) ?_   -- 61 (Op.pick t57 ((true)) t60)
          refine L_nil ?_
          refine W_true (rfl) ?_
          refine W_region ?_   -- region 10
          refine L_op (d_move (v := .pointer _) rfl) ?_   -- 62 (Op.move t7)
          refine L_op (d_fieldAddrB fa35_1 rfl) ?_   -- 63 (Op.fieldAddr 35 t10 1)
          refine L_op (d_loadB sc33 (v := .slice _ _ _) rfl (by first | exact (h).cell (i := 0) rfl rfl | exact (h).cell (i := 1) rfl rfl | exact (h).cell (i := 2) rfl rfl | exact (h).cell (i := 3) rfl rfl | exact (h).cell (i := 4) rfl rfl | exact (h).cell (i := 5) rfl rfl | exact (h).cell (i := 6) rfl rfl | exact (h).cell (i := 7) rfl rfl | exact (h).cell (i := 8) rfl rfl)) ?_   -- 64 (Op.load 33 t63)
          replace h := h.up1
          --- 65 (Op.call {(Callee.value (Operand.func 11)), [t62, t64], [25, 33]})
          refine L_callB fn11 rfl (record_calls h hrb (by omega) (by omega) (by omega) (by omega)) ?_
          rintro _ w ⟨rfl, h⟩
          refine L_nil ?_
          refine W_region ?_   -- region 12
          refine L_op (d_add' (has_i64 (by omega) (by omega)) rfl rfl) ?_   -- 70 (Op.binOp BinOp.add 3 t50 ((1)) 3)
          refine L_op (d_move (v := .int .i64 _) rfl) ?_   -- 50 (Op.move t70)
          refine L_nil ?_
          first
            | exact ⟨(i + 1, _, _), ⟨rfl, rfl, rfl, rfl, rfl, rfl, trivial⟩, ⟨h.dropAt (i := 1) rfl, by dsimp only; omega, hv1, hg1⟩, by dsimp only; omega⟩
            | exact ⟨(i + 1, _, _), ⟨rfl, rfl, rfl, rfl, rfl, rfl, trivial⟩, ⟨h.dropAt (i := 1) rfl, by dsimp only; omega, hv2, hg2⟩, by dsimp only; omega⟩
        · -- guard 57 false
          refine L_on rfl rfl rfl ?_
          refine L_op (d_fieldAddrB fa35_0 rfl) ?_   -- 58 (Op.fieldAddr 35 t10 0)
          refine L_on rfl rfl rfl ?_
          refine L_op (d_loadB sc3 (v := .int .i64 _) rfl (by first | exact (h).cell (i := 0) rfl rfl | exact (h).cell (i := 1) rfl rfl | exact (h).cell (i := 2) rfl rfl | exact (h).cell (i := 3) rfl rfl | exact (h).cell (i := 4) rfl rfl | exact (h).cell (i := 5) rfl rfl | exact (h).cell (i := 6) rfl rfl | exact (h).cell (i := 7) rfl rfl | exact (h).cell (i := 8) rfl rfl)) ?_   -- 59 (Op.load 3 t58)
          refine L_on rfl rfl rfl ?_
          refine L_op (d_eql rfl rfl) ?_   -- 60 (Op.binOp BinOp.eql 3 t59 ((1)) 3)
          refine L_op (d_pick (r := .bool _) rfl rfl) ?_   -- 61 (Op.pick t57 ((true)) t60)
          refine L_nil ?_
          refine W_if rfl (fun c61 => ?_) (fun c61 => ?_)
          · -- c61 yes
            refine W_region ?_   -- region 10
            refine L_op (d_move (v := .pointer _) rfl) ?_   -- 62 (Op.move t7)
            refine L_op (d_fieldAddrB fa35_1 rfl) ?_   -- 63 (Op.fieldAddr 35 t10 1)
            refine L_op (d_loadB sc33 (v := .slice _ _ _) rfl (by first | exact (h).cell (i := 0) rfl rfl | exact (h).cell (i := 1) rfl rfl | exact (h).cell (i := 2) rfl rfl | exact (h).cell (i := 3) rfl rfl | exact (h).cell (i := 4) rfl rfl | exact (h).cell (i := 5) rfl rfl | exact (h).cell (i := 6) rfl rfl | exact (h).cell (i := 7) rfl rfl | exact (h).cell (i := 8) rfl rfl)) ?_   -- 64 (Op.load 33 t63)
            replace h := h.up1
            --- 65 (Op.call {(Callee.value (Operand.func 11)), [t62, t64], [25, 33]})
            refine L_callB fn11 rfl (record_calls h hrb (by omega) (by omega) (by omega) (by omega)) ?_
            rintro _ w ⟨rfl, h⟩
            refine L_nil ?_
            refine W_region ?_   -- region 12
            refine L_op (d_add' (has_i64 (by omega) (by omega)) rfl rfl) ?_   -- 70 (Op.binOp BinOp.add 3 t50 ((1)) 3)
            refine L_op (d_move (v := .int .i64 _) rfl) ?_   -- 50 (Op.move t70)
            refine L_nil ?_
            first
              | exact ⟨(i + 1, _, _), ⟨rfl, rfl, rfl, rfl, rfl, rfl, trivial⟩, ⟨h.dropAt (i := 1) rfl, by dsimp only; omega, hv1, hg1⟩, by dsimp only; omega⟩
              | exact ⟨(i + 1, _, _), ⟨rfl, rfl, rfl, rfl, rfl, rfl, trivial⟩, ⟨h.dropAt (i := 1) rfl, by dsimp only; omega, hv2, hg2⟩, by dsimp only; omega⟩
          · -- c61 no
            refine W_region ?_   -- region 11
            refine L_op (d_move (v := .pointer _) rfl) ?_   -- 66 (Op.move t7)
            refine L_op (d_fieldAddrB fa35_1 rfl) ?_   -- 67 (Op.fieldAddr 35 t10 1)
            refine L_op (d_loadB sc33 (v := .slice _ _ _) rfl (by first | exact (h).cell (i := 0) rfl rfl | exact (h).cell (i := 1) rfl rfl | exact (h).cell (i := 2) rfl rfl | exact (h).cell (i := 3) rfl rfl | exact (h).cell (i := 4) rfl rfl | exact (h).cell (i := 5) rfl rfl | exact (h).cell (i := 6) rfl rfl | exact (h).cell (i := 7) rfl rfl | exact (h).cell (i := 8) rfl rfl)) ?_   -- 68 (Op.load 33 t67)
            replace h := h.up1
            --- 69 (Op.call {(Callee.value (Operand.func 13)), [t66, t68], [25, 33]})
            refine L_callB fn13 rfl (data_calls h hrb hcb (by omega) (by omega) (by omega) (by omega)) ?_
            rintro _ w ⟨rfl, h⟩
            refine L_nil ?_
            refine W_region ?_   -- region 12
            refine L_op (d_add' (has_i64 (by omega) (by omega)) rfl rfl) ?_   -- 70 (Op.binOp BinOp.add 3 t50 ((1)) 3)
            refine L_op (d_move (v := .int .i64 _) rfl) ?_   -- 50 (Op.move t70)
            refine L_nil ?_
            first
              | exact ⟨(i + 1, _, _), ⟨rfl, rfl, rfl, rfl, rfl, rfl, trivial⟩, ⟨h.dropAt (i := 1) rfl, by dsimp only; omega, hv1, hg1⟩, by dsimp only; omega⟩
              | exact ⟨(i + 1, _, _), ⟨rfl, rfl, rfl, rfl, rfl, rfl, trivial⟩, ⟨h.dropAt (i := 1) rfl, by dsimp only; omega, hv2, hg2⟩, by dsimp only; omega⟩
      · -- c51 no
        refine W_exit (X_here ?_)
        refine W_seq ?_
        refine W_region ?_   -- region 13
        refine L_op (d_move (v := .pointer _) rfl) ?_   -- 71 (Op.move t7)
        have hal := hv.all
        have hle := hv.len
        have hi20 : i ≤ 20 := by omega
        obtain ⟨Aw, cw, hbw, hrw⟩ := wr_rd h (i := 0) rfl
        --- 72 (Op.call {(Callee.value (Operand.func 16)), [t71], [25]})
        refine L_callB fn16 rfl (row_calls hbw hrw (by omega) (fun xs hx => by have := hal xs hx; omega)) ?_
        rintro v72 w1 hm
        have b := hm.below
        replace h := h.take hm
        obtain ⟨vs72, hvs72, ho72⟩ := rows_open h
        obtain ⟨A72, c72, rfl, _⟩ := (ho72.rowAt (i := 0) rfl).slice
        have hr72 := rows_rd hvs72 ho72
        clear ho72
        rw [hvs72] at h ⊢
        refine L_op (d_assign (v := .slice _ _ _) rfl) ?_   -- 11 (Op.assign t72)
        refine L_nil ?_
        refine W_seq ?_
        refine W_region ?_   -- region 14
        refine L_op (d_move (v := .int .i64 _) rfl) ?_   -- 74 (Op.move t0)
        refine L_op (d_move (v := .slice _ _ _) rfl) ?_   -- 75 (Op.move t11)
        --- 76 (Op.call {(Callee.value (Operand.func 22)), [t74, t75], [3, 29]})
        refine L_callB fn22 rfl (go_calls hr72 (by omega) (fun xs hx => by have := hal xs hx; omega)) ?_
        rintro v76 w1 hv76
        rw [if_neg hgood, if_neg hg.not_bad] at hv76
        obtain ⟨gu, rfl, hm⟩ := hv76 ini lst rfl
        replace h := h.take hm
        refine L_op (d_move (v := .tuple _) rfl) ?_   -- 73 (Op.move t76)
        refine L_op (d_extract (v := .pointer _) rfl rfl) ?_   -- 77 (Op.extract t73 0)
        refine L_op (d_extract (v := .int .i64 _) rfl rfl) ?_   -- 78 (Op.extract t73 1)
        refine L_op (d_assign (v := .pointer _) rfl) ?_   -- 12 (Op.assign t77)
        refine L_op (d_assign (v := .int .i64 _) rfl) ?_   -- 13 (Op.assign t78)
        refine L_nil ?_
        refine W_seq ?_
        refine W_region ?_   -- region 15
        refine L_op (d_move (v := .pointer _) rfl) ?_   -- 79 (Op.move t7)
        obtain ⟨Aw8, cw8, hbw8, hrw8⟩ := wr_rd h (i := 2) rfl
        --- 80 (Op.call {(Callee.value (Operand.func 23)), [t79], [25]})
        refine L_callB fn23 rfl (wclone_calls hbw8 hrw8 (by omega) (fun xs hx => by have := hal xs hx; omega)) ?_
        rintro _ w1 ⟨gv, rfl, hm⟩
        replace h := h.take hm
        refine L_op (d_assign (v := .pointer _) rfl) ?_   -- 14 (Op.assign t80)
        refine L_nil ?_
        refine W_seq ?_   -- join6: live (0, .append), (2, _), (7, _), (11, _), (12, _), (14, _)
        refine W_seq ?_
        refine W_region ?_   -- region 16
        refine L_op (d_move (v := .int .i64 _) rfl) ?_   -- 81 (Op.move t13)
        refine L_op (d_neq rfl rfl) ?_   -- 82 (Op.binOp BinOp.neq 26 t81 ((0)) 26)
        refine L_op (d_move (v := .bool _) rfl) ?_   -- 83 (Op.move t82)
        refine L_know (dj := 83) (b := false) rfl (by decide) ?_
        refine L_on rfl rfl rfl ?_
        refine L_op (d_move (v := .pointer _) rfl) ?_   -- 84 (Op.move t12)
        refine L_on rfl rfl rfl ?_
        refine L_op (d_eqlPtr ptr25 rfl rfl) ?_   -- 85 (Op.binOp BinOp.eql 25 t84 ((Value.pointer none)) 25)
        refine L_op (d_pick (r := .bool _) rfl rfl) ?_   -- 86 (Op.pick t83 ((true)) t85)
        refine L_op (d_move (v := .bool _) rfl) ?_   -- 87 (Op.move t86)
        refine L_know (dj := 87) (b := false) rfl (rfl) ?_
        refine L_on rfl rfl rfl ?_
        refine L_op (d_move (v := .pointer _) rfl) ?_   -- 88 (Op.move t14)
        refine L_on rfl rfl rfl ?_
        refine L_op (d_eqlPtr ptr25 rfl rfl) ?_   -- 89 (Op.binOp BinOp.eql 25 t88 ((Value.pointer none)) 25)
        refine L_op (d_pick (r := .bool _) rfl rfl) ?_   -- 90 (Op.pick t87 ((true)) t89)
        refine L_nil ?_
        refine W_false (rfl) ?_
        refine W_skip ?_
        refine W_seq ?_   -- join7: live (0, .append), (7, _), (11, _), (12, _), (14, _)
        refine W_seq ?_
        refine W_region ?_   -- region 18
        refine L_op (d_move (v := .slice _ _ _) rfl) ?_   -- 91 (Op.move t2)
        refine L_op (d_lenB sl22 rfl) ?_   -- 92 (Op.call {(Callee.builtin Builtin.len), [t91], [22]})
        refine L_op (d_move (v := .int .i64 _) rfl) ?_   -- 93 (Op.move ((0)))
        refine L_nil ?_
        refine W_block ?_   -- block 2
        refine W_while (σ := Nat × List (List Int) × List Int) (0, ini, lst) (fun s => [(0, .int .i64 size), (7, .pointer (some ⟨gw, 0, none⟩)), (11, .slice A72 (ini ++ [lst]).length c72), (12, .pointer (some ⟨gu, 0, none⟩)), (14, .pointer (some ⟨gv, 0, none⟩)), (91, .slice A2 ops.length c2), (92, .int .i64 ops.length), (93, .int .i64 s.1)])
          (fun s w1 => St W (fun k => k < W.heap.size) [wrA gv size s.2.1 s.2.2, wrA gu size s.2.1 s.2.2, rowsA 33 5 (.slice A72 (ini ++ [lst]).length c72) (ini ++ [lst]), wrA gw size ini lst] w1 ∧ s.1 ≤ ops.length ∧ InvW size (i + s.1) s.2.1 s.2.2) (fun s => ops.length - s.1) ⟨rfl, rfl, rfl, rfl, rfl, rfl, rfl, rfl, trivial⟩ ⟨h, Nat.zero_le _, hv⟩ ?_
        rintro ⟨j, ini2, lst2⟩ w1 b_ ⟨h, hj, hv3⟩
        dsimp only at h hj hv3 ⊢
        refine W_seq ?_
        refine W_region ?_   -- region 19
        refine L_op (d_lss rfl rfl) ?_   -- 94 (Op.binOp BinOp.lss 3 t93 t92 3)
        refine L_nil ?_
        refine W_seq ?_   -- join8: live (0, .append), (7, _), (11, _), (12, _), (14, _), (91, _), (92, _), (93, _)
        refine W_if rfl (fun c94 => ?_) (fun c94 => ?_)
        · -- c94 yes
          have hj2 : j < ops.length := by omega
          have hj20 : j < 20 := by omega
          obtain ⟨a, B, cb, rfl, hcb, hrb, hld⟩ := ho.get hj2
          have ho60 := hfew _ (List.getElem_mem hj2)
          generalize ops[j] = o at hcb hrb hld ho60
          have hn1 := hv3.n
          have hn2 := hv3.l
          have hn3 := hv3.s
          have hv1 := hv3.lay ho60
          have hv2 := hv3.put (by omega) ho60
          refine W_skip ?_
          refine W_seq ?_   -- join9: live (0, .append), (7, _), (11, _), (12, _), (14, _), (91, _), (92, _), (93, _)
          refine W_block ?_   -- block 3
          refine W_seq ?_
          refine W_region ?_   -- region 20
          refine L_op (d_ix (m := j) sl22 rfl rfl rfl hj2) ?_   -- 95 (Op.indexAddr 22 t91 t93)
          refine L_op (d_loadAggB [.int .i64 o.1, .slice B o.2.length cb] ag35 rfl rfl (hld h)) ?_   -- 96 (Op.load 35 t95)
          --- 16 (Op.alloc 35)
          refine L_allocB h [.int .i64 0, .slice none 0 0] zi35 rfl (fun g16 w h b => ?_)
          --- None (Op.store 35 t16 t96)
          first
            | refine L_storeBlk h (i := 0) (vs := [.int .i64 _, .slice _ _ _]) rfl sz35 rfl rfl (by simp [Value.oneCell']) rfl (fun w h => ?_)
            | refine L_storeBlk h (i := 1) (vs := [.int .i64 _, .slice _ _ _]) rfl sz35 rfl rfl (by simp [Value.oneCell']) rfl (fun w h => ?_)
            | refine L_storeBlk h (i := 2) (vs := [.int .i64 _, .slice _ _ _]) rfl sz35 rfl rfl (by simp [Value.oneCell']) rfl (fun w h => ?_)
            | refine L_storeBlk h (i := 3) (vs := [.int .i64 _, .slice _ _ _]) rfl sz35 rfl rfl (by simp [Value.oneCell']) rfl (fun w h => ?_)
            | refine L_storeBlk h (i := 4) (vs := [.int .i64 _, .slice _ _ _]) rfl sz35 rfl rfl (by simp [Value.oneCell']) rfl (fun w h => ?_)
            | refine L_storeBlk h (i := 5) (vs := [.int .i64 _, .slice _ _ _]) rfl sz35 rfl rfl (by simp [Value.oneCell']) rfl (fun w h => ?_)
            | refine L_storeBlk h (i := 6) (vs := [.int .i64 _, .slice _ _ _]) rfl sz35 rfl rfl (by simp [Value.oneCell']) rfl (fun w h => ?_)
            | refine L_storeBlk h (i := 7) (vs := [.int .i64 _, .slice _ _ _]) rfl sz35 rfl rfl (by simp [Value.oneCell']) rfl (fun w h => ?_)
          refine L_nil ?_
          refine W_seq ?_
          refine W_region ?_   -- region 21
          refine L_op (d_fieldAddrB fa35_0 rfl) ?_   -- 97 (Op.fieldAddr 35 t16 0)
          refine L_op (d_loadB sc3 (v := .int .i64 _) rfl (by first | exact (h).cell (i := 0) rfl rfl | exact (h).cell (i := 1) rfl rfl | exact (h).cell (i := 2) rfl rfl | exact (h).cell (i := 3) rfl rfl | exact (h).cell (i := 4) rfl rfl | exact (h).cell (i := 5) rfl rfl | exact (h).cell (i := 6) rfl rfl | exact (h).cell (i := 7) rfl rfl | exact (h).cell (i := 8) rfl rfl)) ?_   -- 98 (Op.load 3 t97)
          refine L_op (d_eql rfl rfl) ?_   -- 99 (Op.binOp BinOp.eql 3 t98 ((0)) 3)
          refine L_op (d_move (v := .bool _) rfl) ?_   -- 100 (Op.move t99)
          refine L_case (dj := 100) rfl (fun q100 => ?_) (fun q100 => ?_)
          · -- guard 100 true
            refine L_off rfl rfl rfl ?_   -- 101 (Op.fieldAddr 35 t16 0)
            refine L_off rfl rfl rfl ?_   -- 102 (Op.load 3 t101)
            refine L_off rfl rfl rfl ?_   -- 103 (Op.binOp BinOp.eql 3 t102 ((1)) 3)
            refine L_op (d_pick (r := .bool _) rfl rfl) ?_   -- 104 (Op.pick t100 ((true)) t103)
            refine L_nil ?_
            refine W_true (rfl) ?_
            refine W_seq ?_
            refine W_region ?_   -- region 22
            refine L_op (d_move (v := .pointer _) rfl) ?_   -- 106 (Op.move t12)
            refine L_op (d_fieldAddrB fa35_1 rfl) ?_   -- 107 (Op.fieldAddr 35 t16 1)
            refine L_op (d_loadB sc33 (v := .slice _ _ _) rfl (by first | exact (h).cell (i := 0) rfl rfl | exact (h).cell (i := 1) rfl rfl | exact (h).cell (i := 2) rfl rfl | exact (h).cell (i := 3) rfl rfl | exact (h).cell (i := 4) rfl rfl | exact (h).cell (i := 5) rfl rfl | exact (h).cell (i := 6) rfl rfl | exact (h).cell (i := 7) rfl rfl | exact (h).cell (i := 8) rfl rfl)) ?_   -- 108 (Op.load 33 t107)
            replace h := h.front (i := 2) rfl
            --- 109 (Op.call {(Callee.value (Operand.func 11)), [t106, t108], [25, 33]})
            refine L_callB fn11 rfl (record_calls h hrb (by omega) (by omega) (by omega) (by omega)) ?_
            rintro _ w ⟨rfl, h⟩
            refine L_op (d_move (v := .tuple _) rfl) ?_   -- 105 (Op.move t109)
            refine L_op (d_extract (v := .agg _) rfl rfl) ?_   -- 110 (Op.extract t105 0)
            refine L_op (d_extract (v := .int .i64 _) rfl rfl) ?_   -- 111 (Op.extract t105 1)
            --- 17 (Op.alloc 37)
            refine L_allocB h [.int .i64 0, .int .i64 0] zi37 rfl (fun g17 w h b => ?_)
            --- None (Op.store 37 t17 t110)
            first
              | refine L_storeBlk h (i := 0) (vs := [.int .i64 _, .int .i64 _]) rfl sz37 rfl rfl (by simp [Value.oneCell']) rfl (fun w h => ?_)
              | refine L_storeBlk h (i := 1) (vs := [.int .i64 _, .int .i64 _]) rfl sz37 rfl rfl (by simp [Value.oneCell']) rfl (fun w h => ?_)
              | refine L_storeBlk h (i := 2) (vs := [.int .i64 _, .int .i64 _]) rfl sz37 rfl rfl (by simp [Value.oneCell']) rfl (fun w h => ?_)
              | refine L_storeBlk h (i := 3) (vs := [.int .i64 _, .int .i64 _]) rfl sz37 rfl rfl (by simp [Value.oneCell']) rfl (fun w h => ?_)
              | refine L_storeBlk h (i := 4) (vs := [.int .i64 _, .int .i64 _]) rfl sz37 rfl rfl (by simp [Value.oneCell']) rfl (fun w h => ?_)
              | refine L_storeBlk h (i := 5) (vs := [.int .i64 _, .int .i64 _]) rfl sz37 rfl rfl (by simp [Value.oneCell']) rfl (fun w h => ?_)
              | refine L_storeBlk h (i := 6) (vs := [.int .i64 _, .int .i64 _]) rfl sz37 rfl rfl (by simp [Value.oneCell']) rfl (fun w h => ?_)
              | refine L_storeBlk h (i := 7) (vs := [.int .i64 _, .int .i64 _]) rfl sz37 rfl rfl (by simp [Value.oneCell']) rfl (fun w h => ?_)
            refine L_op (d_assign (v := .int .i64 _) rfl) ?_   -- 18 (Op.assign t111)
            refine L_nil ?_
            refine W_seq ?_
            refine W_region ?_   -- region 23
            refine L_op (d_move (v := .pointer _) rfl) ?_   -- 113 (Op.move t14)
            refine L_op (d_fieldAddrB fa35_1 rfl) ?_   -- 114 (Op.fieldAddr 35 t16 1)
            refine L_op (d_loadB sc33 (v := .slice _ _ _) rfl (by first | exact (h).cell (i := 0) rfl rfl | exact (h).cell (i := 1) rfl rfl | exact (h).cell (i := 2) rfl rfl | exact (h).cell (i := 3) rfl rfl | exact (h).cell (i := 4) rfl rfl | exact (h).cell (i := 5) rfl rfl | exact (h).cell (i := 6) rfl rfl | exact (h).cell (i := 7) rfl rfl | exact (h).cell (i := 8) rfl rfl)) ?_   -- 115 (Op.load 33 t114)
            replace h := h.front (i := 3) rfl
            --- 116 (Op.call {(Callee.value (Operand.func 11)), [t113, t115], [25, 33]})
            refine L_callB fn11 rfl (record_calls h hrb (by omega) (by omega) (by omega) (by omega)) ?_
            rintro _ w ⟨rfl, h⟩
            refine L_op (d_move (v := .tuple _) rfl) ?_   -- 112 (Op.move t116)
            refine L_op (d_extract (v := .agg _) rfl rfl) ?_   -- 117 (Op.extract t112 0)
            refine L_op (d_extract (v := .int .i64 _) rfl rfl) ?_   -- 118 (Op.extract t112 1)
            --- 19 (Op.alloc 37)
            refine L_allocB h [.int .i64 0, .int .i64 0] zi37 rfl (fun g19 w h b => ?_)
            --- None (Op.store 37 t19 t117)
            first
              | refine L_storeBlk h (i := 0) (vs := [.int .i64 _, .int .i64 _]) rfl sz37 rfl rfl (by simp [Value.oneCell']) rfl (fun w h => ?_)
              | refine L_storeBlk h (i := 1) (vs := [.int .i64 _, .int .i64 _]) rfl sz37 rfl rfl (by simp [Value.oneCell']) rfl (fun w h => ?_)
              | refine L_storeBlk h (i := 2) (vs := [.int .i64 _, .int .i64 _]) rfl sz37 rfl rfl (by simp [Value.oneCell']) rfl (fun w h => ?_)
              | refine L_storeBlk h (i := 3) (vs := [.int .i64 _, .int .i64 _]) rfl sz37 rfl rfl (by simp [Value.oneCell']) rfl (fun w h => ?_)
              | refine L_storeBlk h (i := 4) (vs := [.int .i64 _, .int .i64 _]) rfl sz37 rfl rfl (by simp [Value.oneCell']) rfl (fun w h => ?_)
              | refine L_storeBlk h (i := 5) (vs := [.int .i64 _, .int .i64 _]) rfl sz37 rfl rfl (by simp [Value.oneCell']) rfl (fun w h => ?_)
              | refine L_storeBlk h (i := 6) (vs := [.int .i64 _, .int .i64 _]) rfl sz37 rfl rfl (by simp [Value.oneCell']) rfl (fun w h => ?_)
              | refine L_storeBlk h (i := 7) (vs := [.int .i64 _, .int .i64 _]) rfl sz37 rfl rfl (by simp [Value.oneCell']) rfl (fun w h => ?_)
            refine L_op (d_assign (v := .int .i64 _) rfl) ?_   -- 20 (Op.assign t118)
            refine L_nil ?_
            refine W_seq ?_
            refine W_region ?_   -- region 24
            refine L_op (by first | exact d_loadBlk ag37 (h) (i := 0) rfl rfl rfl | exact d_loadBlk ag37 (h) (i := 1) rfl rfl rfl | exact d_loadBlk ag37 (h) (i := 2) rfl rfl rfl | exact d_loadBlk ag37 (h) (i := 3) rfl rfl rfl | exact d_loadBlk ag37 (h) (i := 4) rfl rfl rfl | exact d_loadBlk ag37 (h) (i := 5) rfl rfl rfl | exact d_loadBlk ag37 (h) (i := 6) rfl rfl rfl | exact d_loadBlk ag37 (h) (i := 7) rfl rfl rfl | exact d_loadBlk ag37 (h) (i := 8) rfl rfl rfl) ?_   -- 119 (Op.load 37 t17)
            refine L_op (by first | exact d_loadBlk ag37 (h) (i := 0) rfl rfl rfl | exact d_loadBlk ag37 (h) (i := 1) rfl rfl rfl | exact d_loadBlk ag37 (h) (i := 2) rfl rfl rfl | exact d_loadBlk ag37 (h) (i := 3) rfl rfl rfl | exact d_loadBlk ag37 (h) (i := 4) rfl rfl rfl | exact d_loadBlk ag37 (h) (i := 5) rfl rfl rfl | exact d_loadBlk ag37 (h) (i := 6) rfl rfl rfl | exact d_loadBlk ag37 (h) (i := 7) rfl rfl rfl | exact d_loadBlk ag37 (h) (i := 8) rfl rfl rfl) ?_   -- 120 (Op.load 37 t19)
            refine L_op (d_neq2 pair37 rfl rfl) ?_   -- 121 (Op.binOp BinOp.neq 37 t119 t120 37)
            refine L_op (d_move (v := .bool _) rfl) ?_   -- 122 (Op.move t121)
            refine L_know (dj := 122) (b := false) rfl (by simp) ?_
            refine L_on rfl rfl rfl ?_
            refine L_op (d_move (v := .int .i64 _) rfl) ?_   -- 123 (Op.move t18)
            refine L_on rfl rfl rfl ?_
            refine L_op (d_move (v := .int .i64 _) rfl) ?_   -- 124 (Op.move t20)
            refine L_on rfl rfl rfl ?_
            refine L_op (d_neq rfl rfl) ?_   -- 125 (Op.binOp BinOp.neq 26 t123 t124 26)
            refine L_op (d_pick (r := .bool _) rfl rfl) ?_   -- 126 (Op.pick t122 ((true)) t125)
            refine L_nil ?_
            refine W_false (congrArg Value.bool (by simp)) ?_
            refine W_skip ?_
            refine W_region ?_   -- region 28
            refine L_op (d_add' (has_i64 (by omega) (by omega)) rfl rfl) ?_   -- 136 (Op.binOp BinOp.add 3 t93 ((1)) 3)
            refine L_op (d_move (v := .int .i64 _) rfl) ?_   -- 93 (Op.move t136)
            refine L_nil ?_
            first
              | exact ⟨(j + 1, _, _), ⟨rfl, rfl, rfl, rfl, rfl, rfl, rfl, rfl, trivial⟩, ⟨((h.dropAt (i := 0) rfl).dropAt (i := 1) rfl).dropAt (i := 2) rfl, by dsimp only; omega, hv1⟩, by dsimp only; omega⟩
              | exact ⟨(j + 1, _, _), ⟨rfl, rfl, rfl, rfl, rfl, rfl, rfl, rfl, trivial⟩, ⟨h.dropAt (i := 2) rfl, by dsimp only; omega, hv2⟩, by dsimp only; omega⟩
          · -- guard 100 false
            refine L_on rfl rfl rfl ?_
            refine L_op (d_fieldAddrB fa35_0 rfl) ?_   -- 101 (Op.fieldAddr 35 t16 0)
            refine L_on rfl rfl rfl ?_
            refine L_op (d_loadB sc3 (v := .int .i64 _) rfl (by first | exact (h).cell (i := 0) rfl rfl | exact (h).cell (i := 1) rfl rfl | exact (h).cell (i := 2) rfl rfl | exact (h).cell (i := 3) rfl rfl | exact (h).cell (i := 4) rfl rfl | exact (h).cell (i := 5) rfl rfl | exact (h).cell (i := 6) rfl rfl | exact (h).cell (i := 7) rfl rfl | exact (h).cell (i := 8) rfl rfl)) ?_   -- 102 (Op.load 3 t101)
            refine L_on rfl rfl rfl ?_
            refine L_op (d_eql rfl rfl) ?_   -- 103 (Op.binOp BinOp.eql 3 t102 ((1)) 3)
            refine L_op (d_pick (r := .bool _) rfl rfl) ?_   -- 104 (Op.pick t100 ((true)) t103)
            refine L_nil ?_
            refine W_if rfl (fun c104 => ?_) (fun c104 => ?_)
            · -- c104 yes
              refine W_seq ?_
              refine W_region ?_   -- region 22
              refine L_op (d_move (v := .pointer _) rfl) ?_   -- 106 (Op.move t12)
              refine L_op (d_fieldAddrB fa35_1 rfl) ?_   -- 107 (Op.fieldAddr 35 t16 1)
              refine L_op (d_loadB sc33 (v := .slice _ _ _) rfl (by first | exact (h).cell (i := 0) rfl rfl | exact (h).cell (i := 1) rfl rfl | exact (h).cell (i := 2) rfl rfl | exact (h).cell (i := 3) rfl rfl | exact (h).cell (i := 4) rfl rfl | exact (h).cell (i := 5) rfl rfl | exact (h).cell (i := 6) rfl rfl | exact (h).cell (i := 7) rfl rfl | exact (h).cell (i := 8) rfl rfl)) ?_   -- 108 (Op.load 33 t107)
              replace h := h.front (i := 2) rfl
              --- 109 (Op.call {(Callee.value (Operand.func 11)), [t106, t108], [25, 33]})
              refine L_callB fn11 rfl (record_calls h hrb (by omega) (by omega) (by omega) (by omega)) ?_
              rintro _ w ⟨rfl, h⟩
              refine L_op (d_move (v := .tuple _) rfl) ?_   -- 105 (Op.move t109)
              refine L_op (d_extract (v := .agg _) rfl rfl) ?_   -- 110 (Op.extract t105 0)
              refine L_op (d_extract (v := .int .i64 _) rfl rfl) ?_   -- 111 (Op.extract t105 1)
              --- 17 (Op.alloc 37)
              refine L_allocB h [.int .i64 0, .int .i64 0] zi37 rfl (fun g17 w h b => ?_)
              --- None (Op.store 37 t17 t110)
              first
                | refine L_storeBlk h (i := 0) (vs := [.int .i64 _, .int .i64 _]) rfl sz37 rfl rfl (by simp [Value.oneCell']) rfl (fun w h => ?_)
                | refine L_storeBlk h (i := 1) (vs := [.int .i64 _, .int .i64 _]) rfl sz37 rfl rfl (by simp [Value.oneCell']) rfl (fun w h => ?_)
                | refine L_storeBlk h (i := 2) (vs := [.int .i64 _, .int .i64 _]) rfl sz37 rfl rfl (by simp [Value.oneCell']) rfl (fun w h => ?_)
                | refine L_storeBlk h (i := 3) (vs := [.int .i64 _, .int .i64 _]) rfl sz37 rfl rfl (by simp [Value.oneCell']) rfl (fun w h => ?_)
                | refine L_storeBlk h (i := 4) (vs := [.int .i64 _, .int .i64 _]) rfl sz37 rfl rfl (by simp [Value.oneCell']) rfl (fun w h => ?_)
                | refine L_storeBlk h (i := 5) (vs := [.int .i64 _, .int .i64 _]) rfl sz37 rfl rfl (by simp [Value.oneCell']) rfl (fun w h => ?_)
                | refine L_storeBlk h (i := 6) (vs := [.int .i64 _, .int .i64 _]) rfl sz37 rfl rfl (by simp [Value.oneCell']) rfl (fun w h => ?_)
                | refine L_storeBlk h (i := 7) (vs := [.int .i64 _, .int .i64 _]) rfl sz37 rfl rfl (by simp [Value.oneCell']) rfl (fun w h => ?_)
              refine L_op (d_assign (v := .int .i64 _) rfl) ?_   -- 18 (Op.assign t111)
              refine L_nil ?_
              refine W_seq ?_
              refine W_region ?_   -- region 23
              refine L_op (d_move (v := .pointer _) rfl) ?_   -- 113 (Op.move t14)
              refine L_op (d_fieldAddrB fa35_1 rfl) ?_   -- 114 (Op.fieldAddr 35 t16 1)
              refine L_op (d_loadB sc33 (v := .slice _ _ _) rfl (by first | exact (h).cell (i := 0) rfl rfl | exact (h).cell (i := 1) rfl rfl | exact (h).cell (i := 2) rfl rfl | exact (h).cell (i := 3) rfl rfl | exact (h).cell (i := 4) rfl rfl | exact (h).cell (i := 5) rfl rfl | exact (h).cell (i := 6) rfl rfl | exact (h).cell (i := 7) rfl rfl | exact (h).cell (i := 8) rfl rfl)) ?_   -- 115 (Op.load 33 t114)
              replace h := h.front (i := 3) rfl
              --- 116 (Op.call {(Callee.value (Operand.func 11)), [t113, t115], [25, 33]})
              refine L_callB fn11 rfl (record_calls h hrb (by omega) (by omega) (by omega) (by omega)) ?_
              rintro _ w ⟨rfl, h⟩
              refine L_op (d_move (v := .tuple _) rfl) ?_   -- 112 (Op.move t116)
              refine L_op (d_extract (v := .agg _) rfl rfl) ?_   -- 117 (Op.extract t112 0)
              refine L_op (d_extract (v := .int .i64 _) rfl rfl) ?_   -- 118 (Op.extract t112 1)
              --- 19 (Op.alloc 37)
              refine L_allocB h [.int .i64 0, .int .i64 0] zi37 rfl (fun g19 w h b => ?_)
              --- None (Op.store 37 t19 t117)
              first
                | refine L_storeBlk h (i := 0) (vs := [.int .i64 _, .int .i64 _]) rfl sz37 rfl rfl (by simp [Value.oneCell']) rfl (fun w h => ?_)
                | refine L_storeBlk h (i := 1) (vs := [.int .i64 _, .int .i64 _]) rfl sz37 rfl rfl (by simp [Value.oneCell']) rfl (fun w h => ?_)
                | refine L_storeBlk h (i := 2) (vs := [.int .i64 _, .int .i64 _]) rfl sz37 rfl rfl (by simp [Value.oneCell']) rfl (fun w h => ?_)
                | refine L_storeBlk h (i := 3) (vs := [.int .i64 _, .int .i64 _]) rfl sz37 rfl rfl (by simp [Value.oneCell']) rfl (fun w h => ?_)
                | refine L_storeBlk h (i := 4) (vs := [.int .i64 _, .int .i64 _]) rfl sz37 rfl rfl (by simp [Value.oneCell']) rfl (fun w h => ?_)
                | refine L_storeBlk h (i := 5) (vs := [.int .i64 _, .int .i64 _]) rfl sz37 rfl rfl (by simp [Value.oneCell']) rfl (fun w h => ?_)
                | refine L_storeBlk h (i := 6) (vs := [.int .i64 _, .int .i64 _]) rfl sz37 rfl rfl (by simp [Value.oneCell']) rfl (fun w h => ?_)
                | refine L_storeBlk h (i := 7) (vs := [.int .i64 _, .int .i64 _]) rfl sz37 rfl rfl (by simp [Value.oneCell']) rfl (fun w h => ?_)
              refine L_op (d_assign (v := .int .i64 _) rfl) ?_   -- 20 (Op.assign t118)
              refine L_nil ?_
              refine W_seq ?_
              refine W_region ?_   -- region 24
              refine L_op (by first | exact d_loadBlk ag37 (h) (i := 0) rfl rfl rfl | exact d_loadBlk ag37 (h) (i := 1) rfl rfl rfl | exact d_loadBlk ag37 (h) (i := 2) rfl rfl rfl | exact d_loadBlk ag37 (h) (i := 3) rfl rfl rfl | exact d_loadBlk ag37 (h) (i := 4) rfl rfl rfl | exact d_loadBlk ag37 (h) (i := 5) rfl rfl rfl | exact d_loadBlk ag37 (h) (i := 6) rfl rfl rfl | exact d_loadBlk ag37 (h) (i := 7) rfl rfl rfl | exact d_loadBlk ag37 (h) (i := 8) rfl rfl rfl) ?_   -- 119 (Op.load 37 t17)
              refine L_op (by first | exact d_loadBlk ag37 (h) (i := 0) rfl rfl rfl | exact d_loadBlk ag37 (h) (i := 1) rfl rfl rfl | exact d_loadBlk ag37 (h) (i := 2) rfl rfl rfl | exact d_loadBlk ag37 (h) (i := 3) rfl rfl rfl | exact d_loadBlk ag37 (h) (i := 4) rfl rfl rfl | exact d_loadBlk ag37 (h) (i := 5) rfl rfl rfl | exact d_loadBlk ag37 (h) (i := 6) rfl rfl rfl | exact d_loadBlk ag37 (h) (i := 7) rfl rfl rfl | exact d_loadBlk ag37 (h) (i := 8) rfl rfl rfl) ?_   -- 120 (Op.load 37 t19)
              refine L_op (d_neq2 pair37 rfl rfl) ?_   -- 121 (Op.binOp BinOp.neq 37 t119 t120 37)
              refine L_op (d_move (v := .bool _) rfl) ?_   -- 122 (Op.move t121)
              refine L_know (dj := 122) (b := false) rfl (by simp) ?_
              refine L_on rfl rfl rfl ?_
              refine L_op (d_move (v := .int .i64 _) rfl) ?_   -- 123 (Op.move t18)
              refine L_on rfl rfl rfl ?_
              refine L_op (d_move (v := .int .i64 _) rfl) ?_   -- 124 (Op.move t20)
              refine L_on rfl rfl rfl ?_
              refine L_op (d_neq rfl rfl) ?_   -- 125 (Op.binOp BinOp.neq 26 t123 t124 26)
              refine L_op (d_pick (r := .bool _) rfl rfl) ?_   -- 126 (Op.pick t122 ((true)) t125)
              refine L_nil ?_
              refine W_false (congrArg Value.bool (by simp)) ?_
              refine W_skip ?_
              refine W_region ?_   -- region 28
              refine L_op (d_add' (has_i64 (by omega) (by omega)) rfl rfl) ?_   -- 136 (Op.binOp BinOp.add 3 t93 ((1)) 3)
              refine L_op (d_move (v := .int .i64 _) rfl) ?_   -- 93 (Op.move t136)
              refine L_nil ?_
              first
                | exact ⟨(j + 1, _, _), ⟨rfl, rfl, rfl, rfl, rfl, rfl, rfl, rfl, trivial⟩, ⟨((h.dropAt (i := 0) rfl).dropAt (i := 1) rfl).dropAt (i := 2) rfl, by dsimp only; omega, hv1⟩, by dsimp only; omega⟩
                | exact ⟨(j + 1, _, _), ⟨rfl, rfl, rfl, rfl, rfl, rfl, rfl, rfl, trivial⟩, ⟨h.dropAt (i := 2) rfl, by dsimp only; omega, hv2⟩, by dsimp only; omega⟩
            · -- c104 no
              refine W_seq ?_
              refine W_draw [.P, .P, .S, .H, .P, .P, .S, .H, .P] [[], [], [1], [0, 1, 2], [], [], [5], [0, 1, 2, 3, 4, 5, 6], [0, 1, 2, 3, 4, 5, 6, 7]] mixed (by decide +kernel) (fun w b => ?_)   -- region 26
              replace h := h.keep b
              refine T_P 0 rfl (by decide +kernel) (fun w2 => d_move (v := .pointer _) rfl) ?_   -- 127 (Op.move t12)
              refine T_P 1 rfl (by decide +kernel) (fun w2 => d_fieldAddrB fa35_1 rfl) ?_   -- 128 (Op.fieldAddr 35 t16 1)
              refine T_S 2 rfl (by decide +kernel) (fun w2 b2 => d_loadB sc33 (v := .slice _ _ _) rfl (by first | exact (h.keep b2).cell (i := 0) rfl rfl | exact (h.keep b2).cell (i := 1) rfl rfl | exact (h.keep b2).cell (i := 2) rfl rfl | exact (h.keep b2).cell (i := 3) rfl rfl | exact (h.keep b2).cell (i := 4) rfl rfl | exact (h.keep b2).cell (i := 5) rfl rfl | exact (h.keep b2).cell (i := 6) rfl rfl | exact (h.keep b2).cell (i := 7) rfl rfl | exact (h.keep b2).cell (i := 8) rfl rfl)) ?_   -- 129 (Op.load 33 t128)
              refine T_P 4 rfl (by decide +kernel) (fun w2 => d_move (v := .pointer _) rfl) ?_   -- 131 (Op.move t14)
              refine T_P 5 rfl (by decide +kernel) (fun w2 => d_fieldAddrB fa35_1 rfl) ?_   -- 132 (Op.fieldAddr 35 t16 1)
              refine T_fork [3, 6] (by decide +kernel) ⟨fun o ho => ?_, fun o ho => ?_, trivial⟩
              · obtain rfl := Option.some.inj ho
                replace h := h.front (i := 2) rfl
                --- 130 (Op.call {(Callee.value (Operand.func 13)), [t127, t129], [25, 33]})
                refine L_callB fn13 rfl (data_calls h hrb hcb (by omega) (by omega) (by omega) (by omega)) ?_
                rintro _ w ⟨rfl, h⟩
                refine L_nil ?_
                refine T_S 6 rfl (by decide +kernel) (fun w2 b2 => d_loadB sc33 (v := .slice _ _ _) rfl (by first | exact (h.keep b2).cell (i := 0) rfl rfl | exact (h.keep b2).cell (i := 1) rfl rfl | exact (h.keep b2).cell (i := 2) rfl rfl | exact (h.keep b2).cell (i := 3) rfl rfl | exact (h.keep b2).cell (i := 4) rfl rfl | exact (h.keep b2).cell (i := 5) rfl rfl | exact (h.keep b2).cell (i := 6) rfl rfl | exact (h.keep b2).cell (i := 7) rfl rfl | exact (h.keep b2).cell (i := 8) rfl rfl)) ?_   -- 133 (Op.load 33 t132)
                replace h := h.front (i := 2) rfl
                refine T_H 7 (by decide +kernel) rfl ?_
                --- 134 (Op.call {(Callee.value (Operand.func 13)), [t131, t133], [25, 33]})
                refine L_callB fn13 rfl (data_calls h hrb hcb (by omega) (by omega) (by omega) (by omega)) ?_
                rintro _ w ⟨rfl, h⟩
                refine L_nil ?_
                refine T_P 8 rfl (by decide +kernel) (fun w2 => d_neq2 pair37 rfl rfl) ?_   -- 135 (Op.binOp BinOp.neq 37 t130 t134 37)
                refine T_end (by decide +kernel) ?_
                refine W_false (congrArg Value.bool (by simp)) ?_
                refine W_skip ?_
                refine W_region ?_   -- region 28
                refine L_op (d_add' (has_i64 (by omega) (by omega)) rfl rfl) ?_   -- 136 (Op.binOp BinOp.add 3 t93 ((1)) 3)
                refine L_op (d_move (v := .int .i64 _) rfl) ?_   -- 93 (Op.move t136)
                refine L_nil ?_
                first
                  | exact ⟨(j + 1, _, _), ⟨rfl, rfl, rfl, rfl, rfl, rfl, rfl, rfl, trivial⟩, ⟨((h.dropAt (i := 0) rfl).dropAt (i := 1) rfl).dropAt (i := 2) rfl, by dsimp only; omega, hv1⟩, by dsimp only; omega⟩
                  | exact ⟨(j + 1, _, _), ⟨rfl, rfl, rfl, rfl, rfl, rfl, rfl, rfl, trivial⟩, ⟨h.dropAt (i := 2) rfl, by dsimp only; omega, hv2⟩, by dsimp only; omega⟩
              · obtain rfl := Option.some.inj ho
                refine ⟨_, fun w2 b2 => .inl ⟨rfl, by rw [eval_act]; exact d_loadB sc33 (v := .slice _ _ _) rfl (by first | exact (h.keep b2).cell (i := 0) rfl rfl | exact (h.keep b2).cell (i := 1) rfl rfl | exact (h.keep b2).cell (i := 2) rfl rfl | exact (h.keep b2).cell (i := 3) rfl rfl | exact (h.keep b2).cell (i := 4) rfl rfl | exact (h.keep b2).cell (i := 5) rfl rfl | exact (h.keep b2).cell (i := 6) rfl rfl | exact (h.keep b2).cell (i := 7) rfl rfl | exact (h.keep b2).cell (i := 8) rfl rfl)⟩, ?_⟩   -- 133 (Op.load 33 t132)
                replace h := h.front (i := 2) rfl
                refine T_H 3 (by decide +kernel) rfl ?_
                --- 130 (Op.call {(Callee.value (Operand.func 13)), [t127, t129], [25, 33]})
                refine L_callB fn13 rfl (data_calls h hrb hcb (by omega) (by omega) (by omega) (by omega)) ?_
                rintro _ w ⟨rfl, h⟩
                refine L_nil ?_
                replace h := h.front (i := 2) rfl
                refine T_H 7 (by decide +kernel) rfl ?_
                --- 134 (Op.call {(Callee.value (Operand.func 13)), [t131, t133], [25, 33]})
                refine L_callB fn13 rfl (data_calls h hrb hcb (by omega) (by omega) (by omega) (by omega)) ?_
                rintro _ w ⟨rfl, h⟩
                refine L_nil ?_
                refine T_P 8 rfl (by decide +kernel) (fun w2 => d_neq2 pair37 rfl rfl) ?_   -- 135 (Op.binOp BinOp.neq 37 t130 t134 37)
                refine T_end (by decide +kernel) ?_
                refine W_false (congrArg Value.bool (by simp)) ?_
                refine W_skip ?_
                refine W_region ?_   -- region 28
                refine L_op (d_add' (has_i64 (by omega) (by omega)) rfl rfl) ?_   -- 136 (Op.binOp BinOp.add 3 t93 ((1)) 3)
                refine L_op (d_move (v := .int .i64 _) rfl) ?_   -- 93 (Op.move t136)
                refine L_nil ?_
                first
                  | exact ⟨(j + 1, _, _), ⟨rfl, rfl, rfl, rfl, rfl, rfl, rfl, rfl, trivial⟩, ⟨((h.dropAt (i := 0) rfl).dropAt (i := 1) rfl).dropAt (i := 2) rfl, by dsimp only; omega, hv1⟩, by dsimp only; omega⟩
                  | exact ⟨(j + 1, _, _), ⟨rfl, rfl, rfl, rfl, rfl, rfl, rfl, rfl, trivial⟩, ⟨h.dropAt (i := 2) rfl, by dsimp only; omega, hv2⟩, by dsimp only; omega⟩
        · -- c94 no
          refine W_exit (X_here ?_)
          refine W_seq ?_
          refine W_region ?_   -- region 29
          refine L_op (d_move (v := .int .i64 _) rfl) ?_   -- 138 (Op.move t0)
          --- 139 (Op.call {(Callee.value (Operand.func 22)), [t138, ((Value.slice none 0 0))], [3, 29]})
          refine L_callB fn22 rfl (go_calls (A := none) (c := 0) (rows := []) (fun j xs hj => by simp at hj) (by decide) (by simp)) ?_
          rintro v139 w1 hv9
          rw [if_neg hgood, if_pos (.inl rfl)] at hv9
          obtain ⟨rfl, b⟩ := hv9
          replace h := h.keep b
          refine L_op (d_move (v := .tuple _) rfl) ?_   -- 137 (Op.move t139)
          refine L_op (d_extract (v := .pointer _) rfl rfl) ?_   -- 140 (Op.extract t137 0)
          refine L_op (d_extract (v := .int .i64 _) rfl rfl) ?_   -- 141 (Op.extract t137 1)
          refine L_op (d_assign (v := .pointer _) rfl) ?_   -- 21 (Op.assign t140)
          refine L_op (d_assign (v := .int .i64 _) rfl) ?_   -- 22 (Op.assign t141)
          refine L_nil ?_
          refine W_seq ?_
          refine W_region ?_   -- region 30
          refine L_op (d_move (v := .int .i64 _) rfl) ?_   -- 143 (Op.move t0)
          --- 144 (Op.buildSlice 33 0 [])
          refine L_buildSlice h [] [] Try.underlying33 zs5 rfl rfl rfl rfl (by decide) (by decide) (fun g144 w h b => ?_)
          --- 145 (Op.buildSlice 29 1 [(0, t144)])
          refine L_buildSlice h [.slice _ _ _] [.slice _ _ _] Try.underlying29 zs33 rfl rfl rfl rfl (by decide) (by decide) (fun g145 w h b => ?_)
          --- 146 (Op.call {(Callee.value (Operand.func 22)), [t143, t145], [3, 29]})
          refine L_callB fn22 rfl (go_calls (A := some ⟨g145, 0, none⟩) (c := 1) (rows := [[]]) (fun j xs hj => by
              match j, hj with
              | 0, hj =>
                obtain rfl : [] = xs := by simpa using hj
                exact ⟨_, _, _, rfl, (h.rowAt (i := 0) rfl).rd.cell rfl, Nat.le_refl _, .inl rfl⟩
              | j + 1, hj => simp at hj) (by decide) (by simp)) ?_
          rintro v146 w1 hv9
          rw [if_neg hgood, if_pos (.inr ⟨[], by simp, .inl rfl⟩)] at hv9
          obtain ⟨rfl, b⟩ := hv9
          replace h := h.keep b
          refine L_op (d_move (v := .tuple _) rfl) ?_   -- 142 (Op.move t146)
          refine L_op (d_extract (v := .pointer _) rfl rfl) ?_   -- 147 (Op.extract t142 0)
          refine L_op (d_extract (v := .int .i64 _) rfl rfl) ?_   -- 148 (Op.extract t142 1)
          refine L_op (d_assign (v := .pointer _) rfl) ?_   -- 23 (Op.assign t147)
          refine L_op (d_assign (v := .int .i64 _) rfl) ?_   -- 24 (Op.assign t148)
          refine L_nil ?_
          refine W_seq ?_
          refine W_region ?_   -- region 31
          refine L_op (d_move (v := .slice _ _ _) rfl) ?_   -- 150 (Op.move t11)
          --- 151 (Op.call {(Callee.value (Operand.func 22)), [((4)), t150], [3, 29]})
          refine L_callB fn22 rfl (go_calls (rowsA_rd (i := 4) h rfl) (by omega) (fun xs hx => by have := hal xs hx; omega)) ?_
          rintro v151 w1 hv9
          rw [if_pos (.inl (by decide))] at hv9
          obtain ⟨rfl, b⟩ := hv9
          replace h := h.keep b
          refine L_op (d_move (v := .tuple _) rfl) ?_   -- 149 (Op.move t151)
          refine L_op (d_extract (v := .pointer _) rfl rfl) ?_   -- 152 (Op.extract t149 0)
          refine L_op (d_extract (v := .int .i64 _) rfl rfl) ?_   -- 153 (Op.extract t149 1)
          refine L_op (d_assign (v := .pointer _) rfl) ?_   -- 25 (Op.assign t152)
          refine L_op (d_assign (v := .int .i64 _) rfl) ?_   -- 26 (Op.assign t153)
          refine L_nil ?_
          refine W_seq ?_
          refine W_region ?_   -- region 32
          refine L_op (d_move (v := .int .i64 _) rfl) ?_   -- 155 (Op.move t0)
          refine L_op (d_move (v := .int .i64 _) rfl) ?_   -- 156 (Op.move t0)
          refine L_op (d_min rfl rfl) ?_   -- 157 (Op.call {(Callee.builtin Builtin.min), [t156, ((1000))], [3, 3]})
          refine L_op (d_add' (has_i64 (by omega) (by omega)) rfl rfl) ?_   -- 158 (Op.binOp BinOp.add 3 t157 ((1)) 3)
          obtain ⟨m, hm⟩ : ∃ m : Nat, (m : Int) = min size 1000 + 1 := ⟨(min size 1000 + 1).toNat, by omega⟩
          rw [← hm]
          --- 159 (Op.makeSlice 33 t158 t158)
          refine L_makeInts (n := m) h Try.underlying33 info5 rfl rfl (by omega) (by omega) (fun g159 w h b => ?_)
          --- 160 (Op.buildSlice 29 1 [(0, t159)])
          refine L_buildSlice h [.slice _ _ _] [.slice _ _ _] Try.underlying29 zs33 rfl rfl rfl rfl (by decide) (by decide) (fun g160 w h b => ?_)
          --- 161 (Op.call {(Callee.value (Operand.func 22)), [t155, t160], [3, 29]})
          refine L_callB fn22 rfl (go_calls (A := some ⟨g160, 0, none⟩) (c := 1) (rows := [List.replicate m 0]) (fun j xs hj => by
              match j, hj with
              | 0, hj =>
                obtain rfl : List.replicate m 0 = xs := by simpa using hj
                exact ⟨_, some ⟨g159, 0, none⟩, m, rfl, by rw [List.length_replicate]; exact (h.rowAt (i := 0) rfl).rd.cell rfl, by simp, (h.rowAt (i := 1) rfl).rd⟩
              | j + 1, hj => simp at hj) (by simp) (fun xs hx => by
                obtain rfl : xs = List.replicate m 0 := by simpa using hx
                rw [List.length_replicate]
                omega)) ?_
          rintro v161 w1 hv9
          rw [if_neg hgood] at hv9
          obtain ⟨P1, E1, rfl, hE, b⟩ : ∃ P1 E1, v161 = .tuple #[.pointer P1, .int .i64 E1] ∧ (size ≤ 1000 → E1 = 21) ∧ Below w.heap.size w w1 := by
            split at hv9
            · obtain ⟨rfl, b⟩ := hv9
              exact ⟨_, _, rfl, fun _ => rfl, b⟩
            · rename_i hx
              obtain ⟨g, rfl, hm9⟩ := hv9 [] _ rfl
              exact ⟨_, _, rfl, fun hle => absurd (.inr ⟨_, List.mem_singleton.2 rfl, .inr (by rw [List.length_replicate]; omega)⟩) hx, hm9.below⟩
          replace h := h.keep b
          refine L_op (d_move (v := .tuple _) rfl) ?_   -- 154 (Op.move t161)
          refine L_op (d_extract (v := .pointer _) rfl rfl) ?_   -- 162 (Op.extract t154 0)
          refine L_op (d_extract (v := .int .i64 _) rfl rfl) ?_   -- 163 (Op.extract t154 1)
          refine L_op (d_assign (v := .pointer _) rfl) ?_   -- 27 (Op.assign t162)
          refine L_op (d_assign (v := .int .i64 _) rfl) ?_   -- 28 (Op.assign t163)
          refine L_nil ?_
          refine W_seq ?_
          refine W_region ?_   -- region 33
          refine L_op (d_move (v := .pointer _) rfl) ?_   -- 164 (Op.move t12)
          have hal2 := hv3.all
          have hle2 := hv3.len
          obtain ⟨Aw5, cw5, hbw5, hrw5⟩ := wr_rd h (i := 5) rfl
          --- 165 (Op.call {(Callee.value (Operand.func 16)), [t164], [25]})
          refine L_callB fn16 rfl (row_calls hbw5 hrw5 (by omega) (fun xs hx => by have := hal2 xs hx; omega)) ?_
          rintro v165 w1 hm
          have b := hm.below
          replace h := h.take hm
          obtain ⟨vs165, hvs165, ho165⟩ := rows_open h
          obtain ⟨A165, c165, rfl, _⟩ := (ho165.rowAt (i := 0) rfl).slice
          have hr165 := rows_rd hvs165 ho165
          clear ho165
          rw [hvs165] at h ⊢
          refine L_op (d_move (v := .pointer _) rfl) ?_   -- 166 (Op.move t14)
          obtain ⟨Aw6, cw6, hbw6, hrw6⟩ := wr_rd h (i := 5) rfl
          --- 167 (Op.call {(Callee.value (Operand.func 16)), [t166], [25]})
          refine L_callB fn16 rfl (row_calls hbw6 hrw6 (by omega) (fun xs hx => by have := hal2 xs hx; omega)) ?_
          rintro v167 w1 hm
          have b := hm.below
          replace h := h.take hm
          obtain ⟨vs167, hvs167, ho167⟩ := rows_open h
          obtain ⟨A167, c167, rfl, _⟩ := (ho167.rowAt (i := 0) rfl).slice
          have hr167 := rows_rd hvs167 ho167
          clear ho167
          rw [hvs167] at h ⊢
          --- 168 (Op.call {(Callee.value (Operand.func 15)), [t165, t167], [29, 29]})
          refine L_callB fn15 rfl (rows_calls (rowsA_rd (i := 1) h rfl) (rowsA_rd (i := 0) h rfl) (by omega) (fun xs hx => by have := hal2 xs hx; omega)) ?_
          rintro _ w ⟨rfl, b⟩
          replace h := h.keep b
          refine L_op (d_move (v := .bool _) rfl) ?_   -- 169 (Op.move t168)
          refine L_know (dj := 169) (b := true) rfl (by simp) ?_
          refine L_on rfl rfl rfl ?_
          refine L_op (d_move (v := .pointer _) rfl) ?_   -- 170 (Op.move t7)
          obtain ⟨Aw7, cw7, hbw7, hrw7⟩ := wr_rd h (i := 9) rfl
          refine L_on rfl rfl rfl ?_
          --- 171 (Op.call {(Callee.value (Operand.func 16)), [t170], [25]})
          refine L_callB fn16 rfl (row_calls hbw7 hrw7 (by omega) (fun xs hx => by have := hal xs hx; omega)) ?_
          rintro v171 w1 hm
          have b := hm.below
          replace h := h.take hm
          obtain ⟨vs171, hvs171, ho171⟩ := rows_open h
          obtain ⟨A171, c171, rfl, _⟩ := (ho171.rowAt (i := 0) rfl).slice
          have hr171 := rows_rd hvs171 ho171
          clear ho171
          rw [hvs171] at h ⊢
          refine L_on rfl rfl rfl ?_
          refine L_op (d_move (v := .slice _ _ _) rfl) ?_   -- 172 (Op.move t11)
          refine L_on rfl rfl rfl ?_
          --- 173 (Op.call {(Callee.value (Operand.func 15)), [t171, t172], [29, 29]})
          refine L_callB fn15 rfl (rows_calls (rowsA_rd (i := 0) h rfl) (rowsA_rd (i := 9) h rfl) (by omega) (fun xs hx => by have := hal xs hx; omega)) ?_
          rintro _ w ⟨rfl, b⟩
          replace h := h.keep b
          refine L_op (d_pick (r := .bool _) rfl rfl) ?_   -- 174 (Op.pick t169 t173 ((false)))
          refine L_op (d_move (v := .bool _) rfl) ?_   -- 175 (Op.move t174)
          refine L_know (dj := 175) (b := true) rfl (by simp) ?_
          refine L_on rfl rfl rfl ?_
          refine L_op (d_move (v := .int .i64 _) rfl) ?_   -- 176 (Op.move t22)
          refine L_on rfl rfl rfl ?_
          refine L_op (d_eql rfl rfl) ?_   -- 177 (Op.binOp BinOp.eql 26 t176 ((21)) 26)
          refine L_op (d_pick (r := .bool _) rfl rfl) ?_   -- 178 (Op.pick t175 t177 ((false)))
          refine L_op (d_move (v := .bool _) rfl) ?_   -- 179 (Op.move t178)
          refine L_know (dj := 179) (b := true) rfl (by decide) ?_
          refine L_on rfl rfl rfl ?_
          refine L_op (d_move (v := .int .i64 _) rfl) ?_   -- 180 (Op.move t24)
          refine L_on rfl rfl rfl ?_
          refine L_op (d_eql rfl rfl) ?_   -- 181 (Op.binOp BinOp.eql 26 t180 ((21)) 26)
          refine L_op (d_pick (r := .bool _) rfl rfl) ?_   -- 182 (Op.pick t179 t181 ((false)))
          refine L_op (d_move (v := .bool _) rfl) ?_   -- 183 (Op.move t182)
          refine L_know (dj := 183) (b := true) rfl (by decide) ?_
          refine L_on rfl rfl rfl ?_
          refine L_op (d_move (v := .int .i64 _) rfl) ?_   -- 184 (Op.move t26)
          refine L_on rfl rfl rfl ?_
          refine L_op (d_eql rfl rfl) ?_   -- 185 (Op.binOp BinOp.eql 26 t184 ((1)) 26)
          refine L_op (d_pick (r := .bool _) rfl rfl) ?_   -- 186 (Op.pick t183 t185 ((false)))
          refine L_op (d_move (v := .bool _) rfl) ?_   -- 187 (Op.move t186)
          refine L_know (dj := 187) (b := true) rfl (by decide) ?_
          refine L_on rfl rfl rfl ?_
          refine L_op (d_move (v := .int .i64 _) rfl) ?_   -- 188 (Op.move t0)
          refine L_on rfl rfl rfl ?_
          refine L_op (d_gtr rfl rfl) ?_   -- 189 (Op.binOp BinOp.gtr 3 t188 ((1000)) 3)
          refine L_on rfl rfl rfl ?_
          refine L_op (d_move (v := .bool _) rfl) ?_   -- 190 (Op.move t189)
          refine L_case (dj := 190) rfl (fun q190 => ?_) (fun q190 => ?_)
          · -- guard 190 true
            refine L_off rfl rfl rfl ?_   -- 191 (Op.move t28)
            refine L_off rfl rfl rfl ?_   -- 192 (Op.binOp BinOp.eql 26 t191 ((21)) 26)
            refine L_on rfl rfl rfl ?_
            refine L_op (d_pick (r := .bool _) rfl rfl) ?_   -- 193 (Op.pick t190 ((true)) t192)
            refine L_op (d_pick (r := .bool _) rfl rfl) ?_   -- 194 (Op.pick t187 t193 ((false)))
            refine L_op (d_assign (v := .bool _) rfl) ?_   -- 6 (Op.assign t194)
            refine L_nil ?_
            refine W_ret (Ret1 (v1 := .bool _) rfl rfl ?_)
            exact ⟨rfl, h.below⟩
          · -- guard 190 false
            refine L_on rfl rfl rfl ?_
            refine L_op (d_move (v := .int .i64 _) rfl) ?_   -- 191 (Op.move t28)
            refine L_on rfl rfl rfl ?_
            refine L_op (d_eql rfl rfl) ?_   -- 192 (Op.binOp BinOp.eql 26 t191 ((21)) 26)
            refine L_on rfl rfl rfl ?_
            refine L_op (d_pick (r := .bool _) rfl rfl) ?_   -- 193 (Op.pick t190 ((true)) t192)
            refine L_op (d_pick (r := .bool _) rfl rfl) ?_   -- 194 (Op.pick t187 t193 ((false)))
            refine L_op (d_assign (v := .bool _) rfl) ?_   -- 6 (Op.assign t194)
            refine L_nil ?_
            refine W_ret (Ret1 (v1 := .bool _) rfl rfl ?_)
            exact ⟨congrArg Value.bool (decide_eq_true (hE (by have := of_decide_eq_false q190; omega))), h.below⟩
end Go.Proofs.Ytbhjdbkdnandfaa.Sp
