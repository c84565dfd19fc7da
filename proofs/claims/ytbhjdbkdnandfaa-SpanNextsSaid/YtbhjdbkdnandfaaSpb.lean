/- Walks of the functions 5, printed by wip/fw/walk.py out of sp9.py. -/
import Derived.Test.YtbhjdbkdnandfaaSp8
import Derived.Test.YtbhjdbkdnandfaaSpp
namespace Go.Proofs.Ytbhjdbkdnandfaa.Sp
open Go Go.RowKit Go.Fw Go.Fw.Asn Go.Proofs
set_option linter.unusedVariables false
set_option maxRecDepth 100000 in
theorem nexts_good {W : World} {A : Option Addr} {c : Nat} {ops : OpL} {size : Int} (ho : FOps (fun k => k < W.heap.size) W A ops) (hl : ops.length ≤ 9223372036854775807) (hs : -9223372036854775808 ≤ size ∧ size ≤ 9223372036854775807) (hgood : ¬ (size < 5 ∨ size > 16777216)) :
    Runs Try.prog 5 [.int .i64 size, .slice A ops.length c] W (fun v w' => v = .bool true ∧ Below W.heap.size W w') := by
  have h := St.start W
  have hs1 : 5 ≤ size := by omega
  have hs2 : size ≤ 16777216 := by omega
  refine Runs_of (N := 149) Try.func5 rfl rfl (by simp) ?_
  refine W_seq ?_
  refine W_region ?_   -- region 0
  refine L_op (d_assign (v := .bool _) rfl) ?_   -- 4 (Op.assign ((false)))
  refine L_nil ?_
  refine W_seq ?_   -- join1: live (0, .append), (1, _)
  refine W_seq ?_
  refine W_region ?_   -- region 1
  --- 18 (Op.call {(Callee.value (Operand.func 7)), [], []})
  refine L_callB fn7 rfl (alive_calls _) ?_
  rintro _ w ⟨rfl, b⟩
  replace h := h.keep b
  refine L_op (d_not rfl) ?_   -- 19 (Op.unOp UnOp.not 4 t18)
  refine L_nil ?_
  refine W_false (rfl) ?_
  refine W_skip ?_
  refine W_seq ?_
  refine W_region ?_   -- region 3
  refine L_op (d_move (v := .int .i64 _) rfl) ?_   -- 21 (Op.move t0)
  --- 22 (Op.call {(Callee.value (Operand.func 9)), [t21], [3]})
  refine L_callB fn9 rfl (new_calls _ _ hs) ?_
  rintro v22 w1 hv
  rw [if_neg hgood] at hv
  obtain ⟨gw, rfl, hm⟩ := hv
  replace h := h.take hm
  refine L_op (d_move (v := .tuple _) rfl) ?_   -- 20 (Op.move t22)
  refine L_op (d_extract (v := .pointer _) rfl rfl) ?_   -- 23 (Op.extract t20 0)
  refine L_op (d_extract (v := .int .i64 _) rfl rfl) ?_   -- 24 (Op.extract t20 1)
  refine L_op (d_assign (v := .pointer _) rfl) ?_   -- 5 (Op.assign t23)
  refine L_op (d_assign (v := .int .i64 _) rfl) ?_   -- 6 (Op.assign t24)
  refine L_nil ?_
  refine W_seq ?_   -- join2: live (0, .append), (1, _), (5, _)
  refine W_seq ?_
  refine W_region ?_   -- region 4
  refine L_op (d_move (v := .slice _ _ _) rfl) ?_   -- 25 (Op.move t1)
  --- 26 (Op.call {(Callee.value (Operand.func 8)), [t25], [22]})
  refine L_callB fn8 rfl (few_calls h ho hl) ?_
  rintro _ w ⟨rfl, h⟩
  refine L_op (d_not rfl) ?_   -- 27 (Op.unOp UnOp.not 4 t26)
  refine L_op (d_move (v := .bool _) rfl) ?_   -- 28 (Op.move t27)
  
  refine L_case (dj := 28) rfl (fun q28 => ?_) (fun q28 => ?_)
  · -- guard 28 true
    refine L_off rfl rfl rfl ?_   -- 29 (Op.move t6)
    refine L_off rfl rfl rfl ?_   -- 30 (Op.binOp BinOp.neq 26 t29 ((0)) 26)
    refine L_op (d_pick (r := .bool _) rfl rfl) ?_   -- 31 (Op.pick t28 ((true)) t30)
    refine L_nil ?_
    refine W_true (rfl) ?_
    refine W_seq ?_
    refine W_region ?_   -- region 5
    refine L_op (d_assign (v := .bool _) rfl) ?_   -- 4 (Op.assign ((true)))
    refine L_nil ?_
    refine W_ret (Ret1 (v1 := .bool _) rfl rfl ?_)
    exact ⟨rfl, h.below⟩
  · -- guard 28 false
    refine L_on rfl rfl rfl ?_
    refine L_op (d_move (v := .int .i64 _) rfl) ?_   -- 29 (Op.move t6)
    refine L_on rfl rfl rfl ?_
    refine L_op (d_neq rfl rfl) ?_   -- 30 (Op.binOp BinOp.neq 26 t29 ((0)) 26)
    refine L_op (d_pick (r := .bool _) rfl rfl) ?_   -- 31 (Op.pick t28 ((true)) t30)
    refine L_nil ?_
    refine W_false (rfl) ?_
    refine W_skip ?_
    refine W_seq ?_   -- join3: live 
    refine W_seq ?_
    refine W_region ?_   -- region 6
    refine L_op (d_move (v := .slice _ _ _) rfl) ?_   -- 32 (Op.move t1)
    refine L_op (d_lenB sl22 rfl) ?_   -- 33 (Op.call {(Callee.builtin Builtin.len), [t32], [22]})
    refine L_op (d_move (v := .int .i64 _) rfl) ?_   -- 34 (Op.move ((0)))
    refine L_nil ?_
    refine W_block ?_   -- block 0
    obtain ⟨hfew, hlen⟩ := fewB_iff.1 (by simpa using q28)
    refine W_while (σ := Nat × List (List Int) × List Int) (0, [], [80, 75, 7, 8]) (fun s => [(0, .int .i64 size), (5, .pointer (some ⟨gw, 0, none⟩)), (32, .slice A ops.length c), (33, .int .i64 ops.length), (34, .int .i64 s.1)])
      (fun s w1 => St W (fun k => k < W.heap.size) [wrA gw size s.2.1 s.2.2] w1 ∧ s.1 ≤ ops.length ∧ InvW size s.1 s.2.1 s.2.2) (fun s => ops.length - s.1) ⟨rfl, rfl, rfl, rfl, rfl, trivial⟩ ⟨h, Nat.zero_le _, InvW.zero hs1⟩ ?_
    rintro ⟨i, ini, lst⟩ w1 b_ ⟨h, hi, hv⟩
    dsimp only at h hi hv ⊢
    refine W_seq ?_
    refine W_region ?_   -- region 7
    refine L_op (d_lss rfl rfl) ?_   -- 35 (Op.binOp BinOp.lss 3 t34 t33 3)
    refine L_nil ?_
    refine W_seq ?_   -- join4: live (0, .append), (5, _), (32, _), (33, _), (34, _)
    refine W_if rfl (fun c35 => ?_) (fun c35 => ?_)
    · -- c35 yes
      have hi2 : i < ops.length := by omega
      have hi20 : i < 20 := by omega
      obtain ⟨a, B, cb, rfl, hcb, hrb, hld⟩ := ho.get hi2
      have ho60 := hfew _ (List.getElem_mem hi2)
      generalize ops[i] = o at hcb hrb hld ho60
      have hn1 := hv.n
      have hn2 := hv.l
      have hn3 := hv.s
      have hv1 := hv.lay ho60
      have hv2 := hv.put (by omega) ho60
      have hal := hv.all
      have hle := hv.len
      have hrl : (ini ++ [lst]).length = ini.length + 1 := by simp
      refine W_skip ?_
      refine W_seq ?_   -- join5: live (0, .append), (5, _), (32, _), (33, _), (34, _)
      refine W_block ?_   -- block 1
      refine W_seq ?_
      refine W_region ?_   -- region 8
      refine L_op (d_ix (m := i) sl22 rfl rfl rfl hi2) ?_   -- 36 (Op.indexAddr 22 t32 t34)
      refine L_op (d_loadAggB [.int .i64 o.1, .slice B o.2.length cb] ag35 rfl rfl (hld h)) ?_   -- 37 (Op.load 35 t36)
      --- 8 (Op.alloc 35)
      refine L_allocB h [.int .i64 0, .slice none 0 0] zi35 rfl (fun g8 w h b => ?_)
      --- None (Op.store 35 t8 t37)
      first
        | refine L_storeBlk h (i := 0) (vs := [.int .i64 _, .slice _ _ _]) rfl sz35 rfl rfl (by simp [Value.oneCell']) rfl (fun w h => ?_)
        | refine L_storeBlk h (i := 1) (vs := [.int .i64 _, .slice _ _ _]) rfl sz35 rfl rfl (by simp [Value.oneCell']) rfl (fun w h => ?_)
        | refine L_storeBlk h (i := 2) (vs := [.int .i64 _, .slice _ _ _]) rfl sz35 rfl rfl (by simp [Value.oneCell']) rfl (fun w h => ?_)
        | refine L_storeBlk h (i := 3) (vs := [.int .i64 _, .slice _ _ _]) rfl sz35 rfl rfl (by simp [Value.oneCell']) rfl (fun w h => ?_)
        | refine L_storeBlk h (i := 4) (vs := [.int .i64 _, .slice _ _ _]) rfl sz35 rfl rfl (by simp [Value.oneCell']) rfl (fun w h => ?_)
        | refine L_storeBlk h (i := 5) (vs := [.int .i64 _, .slice _ _ _]) rfl sz35 rfl rfl (by simp [Value.oneCell']) rfl (fun w h => ?_)
        | refine L_storeBlk h (i := 6) (vs := [.int .i64 _, .slice _ _ _]) rfl sz35 rfl rfl (by simp [Value.oneCell']) rfl (fun w h => ?_)
        | refine L_storeBlk h (i := 7) (vs := [.int .i64 _, .slice _ _ _]) rfl sz35 rfl rfl (by simp [Value.oneCell']) rfl (fun w h => ?_)
      refine L_nil ?_
      refine W_seq ?_
      refine W_region ?_   -- region 9
      refine L_op (d_move (v := .pointer _) rfl) ?_   -- 38 (Op.move t5)
      obtain ⟨Aw, cw, hbw, hrw⟩ := wr_rd h (i := 1) rfl
      --- 39 (Op.call {(Callee.value (Operand.func 16)), [t38], [25]})
      refine L_callB fn16 rfl (row_calls hbw hrw (by omega) (fun xs hx => by have := hal xs hx; omega)) ?_
      rintro v39 w1 hm
      have b := hm.below
      replace h := h.take hm
      obtain ⟨vs39, hvs39, ho39⟩ := rows_open h
      obtain ⟨A39, c39, rfl, _⟩ := (ho39.rowAt (i := 0) rfl).slice
      have hr39 := rows_rd hvs39 ho39
      clear ho39
      rw [hvs39] at h ⊢
      refine L_op (d_assign (v := .slice _ _ _) rfl) ?_   -- 9 (Op.assign t39)
      refine L_nil ?_
      refine W_seq ?_
      refine W_region ?_   -- region 10
      refine L_op (d_move (v := .slice _ _ _) rfl) ?_   -- 40 (Op.move t9)
      refine L_op (d_lenB sl29 rfl) ?_   -- 41 (Op.call {(Callee.builtin Builtin.len), [t40], [29]})
      refine L_op (d_sub' (has_i64 (by omega) (by omega)) rfl rfl) ?_   -- 42 (Op.binOp BinOp.sub 3 t41 ((1)) 3)
      refine L_op (d_assign (v := .int .i64 _) rfl) ?_   -- 10 (Op.assign t42)
      refine L_nil ?_
      refine W_join (σ := Nat × Nat) (fun s => [(0, .int .i64 size), (5, .pointer (some ⟨gw, 0, none⟩)), (8, .pointer (some ⟨g8, 0, none⟩)), (9, .slice A39 (ini ++ [lst]).length c39), (10, .int .i64 (((ini ++ [lst]).length : Nat) - 1)), (11, .pointer (some ⟨s.1, 0, none⟩)), (12, .pointer (some ⟨s.2, 0, none⟩)), (32, .slice (some a) ops.length c), (33, .int .i64 ops.length), (34, .int .i64 i)]) (fun s w => St W (fun k => k < W.heap.size) [blk s.1 37 [.int .i64 (nxD size ini lst 1), .int .i64 (nxA size lst 1)], blk s.2 37 [.int .i64 (nxD size ini lst (o.2.length + 1)), .int .i64 (nxA size lst (o.2.length + 1))], rowsA 33 5 (.slice A39 (ini ++ [lst]).length c39) (ini ++ [lst]), blk g8 35 [.int .i64 o.1, .slice B o.2.length cb], wrA gw size ini lst] w) ?_ ?_
      · -- ahead
        refine W_draw [.P, .G, .P, .P, .S, .P, .P, .H, .G, .G, .H, .H] [[], [0], [], [], [3], [3, 4], [3, 4, 5], [0, 1, 2, 3, 4, 5, 6], [], [], [0, 1, 2, 3, 4, 5, 6, 7, 8, 9], [0, 1, 2, 3, 4, 5, 6, 7, 8, 9, 10]] mixed (by decide +kernel) (fun w b => ?_)   -- region 11
        replace h := h.keep b
        refine T_P 0 rfl (by decide +kernel) (fun w2 => d_move (v := .pointer _) rfl) ?_   -- 43 (Op.move t5)
        refine T_P 2 rfl (by decide +kernel) (fun w2 => d_move (v := .pointer _) rfl) ?_   -- 45 (Op.move t5)
        refine T_P 3 rfl (by decide +kernel) (fun w2 => d_fieldAddrB fa35_1 rfl) ?_   -- 46 (Op.fieldAddr 35 t8 1)
        refine T_S 4 rfl (by decide +kernel) (fun w2 b2 => d_loadB sc33 (v := .slice _ _ _) rfl (by first | exact (h.keep b2).cell (i := 0) rfl rfl | exact (h.keep b2).cell (i := 1) rfl rfl | exact (h.keep b2).cell (i := 2) rfl rfl | exact (h.keep b2).cell (i := 3) rfl rfl | exact (h.keep b2).cell (i := 4) rfl rfl | exact (h.keep b2).cell (i := 5) rfl rfl | exact (h.keep b2).cell (i := 6) rfl rfl | exact (h.keep b2).cell (i := 7) rfl rfl | exact (h.keep b2).cell (i := 8) rfl rfl)) ?_   -- 47 (Op.load 33 t46)
        refine T_P 5 rfl (by decide +kernel) (fun w2 => d_lenB sl33 rfl) ?_   -- 48 (Op.call {(Callee.builtin Builtin.len), [t47], [33]})
        refine T_P 6 rfl (by decide +kernel) (fun w2 => d_add' (has_i64 (by omega) (by omega)) rfl rfl) ?_   -- 49 (Op.binOp BinOp.add 3 t48 ((1)) 3)
        obtain ⟨gr8, c8, A8, k8, hb8, hv8, hk8⟩ : WrR w gw size ini lst := by first | exact wr_reads h (i := 2) rfl | exact wr_reads h (i := 3) rfl | exact wr_reads h (i := 4) rfl
        refine T_fork [1, 8, 9] (by decide +kernel) ⟨fun o ho => ?_, fun o ho => ?_, fun o ho => ?_, trivial⟩
        · obtain rfl := Option.some.inj ho
          obtain ⟨gr8, c8, A8, k8, hb8, hv8, hk8⟩ : WrR w gw size ini lst := by first | exact wr_reads h (i := 2) rfl | exact wr_reads h (i := 3) rfl | exact wr_reads h (i := 4) rfl
          --- 44 (Op.call {(Callee.value (Operand.func 17)), [t43, ((1))], [25, 3]})
          refine L_callB fn17 rfl (next_calls hb8 hv8 (by omega) (by omega) (by omega) (by omega) 1) ?_
          rintro _ w ⟨rfl, b⟩
          replace h := h.keep b
          refine L_nil ⟨b, ?_⟩
          obtain ⟨gr8, c8, A8, k8, hb8, hv8, hk8⟩ : WrR w gw size ini lst := by first | exact wr_reads h (i := 2) rfl | exact wr_reads h (i := 3) rfl | exact wr_reads h (i := 4) rfl
          refine T_fork [7, 8, 9] (by decide +kernel) ⟨fun o ho => ?_, fun o ho => ?_, fun o ho => ?_, trivial⟩
          · obtain rfl := Option.some.inj ho
            obtain ⟨gr8, c8, A8, k8, hb8, hv8, hk8⟩ : WrR w gw size ini lst := by first | exact wr_reads h (i := 2) rfl | exact wr_reads h (i := 3) rfl | exact wr_reads h (i := 4) rfl
            --- 50 (Op.call {(Callee.value (Operand.func 17)), [t45, t49], [25, 3]})
            refine L_callB fn17 rfl (next_calls hb8 hv8 (by omega) (by omega) (by omega) (by omega) _) ?_
            rintro _ w ⟨rfl, b⟩
            replace h := h.keep b
            refine L_nil ?_
            refine T_fork [8, 9] (by decide +kernel) ⟨fun o ho => ?_, fun o ho => ?_, trivial⟩
            · obtain rfl := Option.some.inj ho
              --- 11 (Op.alloc 37)
              refine L_allocB h [.int .i64 0, .int .i64 0] zi37 rfl (fun g11 w h b => ?_)
              refine L_nil ⟨b, ?_⟩
              refine T_G 9 (by decide +kernel) rfl ?_
              --- 12 (Op.alloc 37)
              refine L_allocB h [.int .i64 0, .int .i64 0] zi37 rfl (fun g12 w h b => ?_)
              refine L_nil ⟨b, ?_⟩
              refine T_H 10 (by decide +kernel) rfl ?_
              --- None (Op.store 37 t11 t44)
              first
                | refine L_storeBlk h (i := 0) (vs := [.int .i64 _, .int .i64 _]) rfl sz37 rfl rfl (by simp [Value.oneCell']) rfl (fun w h => ?_)
                | refine L_storeBlk h (i := 1) (vs := [.int .i64 _, .int .i64 _]) rfl sz37 rfl rfl (by simp [Value.oneCell']) rfl (fun w h => ?_)
                | refine L_storeBlk h (i := 2) (vs := [.int .i64 _, .int .i64 _]) rfl sz37 rfl rfl (by simp [Value.oneCell']) rfl (fun w h => ?_)
                | refine L_storeBlk h (i := 3) (vs := [.int .i64 _, .int .i64 _]) rfl sz37 rfl rfl (by simp [Value.oneCell']) rfl (fun w h => ?_)
                | refine L_storeBlk h (i := 4) (vs := [.int .i64 _, .int .i64 _]) rfl sz37 rfl rfl (by simp [Value.oneCell']) rfl (fun w h => ?_)
                | refine L_storeBlk h (i := 5) (vs := [.int .i64 _, .int .i64 _]) rfl sz37 rfl rfl (by simp [Value.oneCell']) rfl (fun w h => ?_)
                | refine L_storeBlk h (i := 6) (vs := [.int .i64 _, .int .i64 _]) rfl sz37 rfl rfl (by simp [Value.oneCell']) rfl (fun w h => ?_)
                | refine L_storeBlk h (i := 7) (vs := [.int .i64 _, .int .i64 _]) rfl sz37 rfl rfl (by simp [Value.oneCell']) rfl (fun w h => ?_)
              refine L_nil ?_
              refine T_H 11 (by decide +kernel) rfl ?_
              --- None (Op.store 37 t12 t50)
              first
                | refine L_storeBlk h (i := 0) (vs := [.int .i64 _, .int .i64 _]) rfl sz37 rfl rfl (by simp [Value.oneCell']) rfl (fun w h => ?_)
                | refine L_storeBlk h (i := 1) (vs := [.int .i64 _, .int .i64 _]) rfl sz37 rfl rfl (by simp [Value.oneCell']) rfl (fun w h => ?_)
                | refine L_storeBlk h (i := 2) (vs := [.int .i64 _, .int .i64 _]) rfl sz37 rfl rfl (by simp [Value.oneCell']) rfl (fun w h => ?_)
                | refine L_storeBlk h (i := 3) (vs := [.int .i64 _, .int .i64 _]) rfl sz37 rfl rfl (by simp [Value.oneCell']) rfl (fun w h => ?_)
                | refine L_storeBlk h (i := 4) (vs := [.int .i64 _, .int .i64 _]) rfl sz37 rfl rfl (by simp [Value.oneCell']) rfl (fun w h => ?_)
                | refine L_storeBlk h (i := 5) (vs := [.int .i64 _, .int .i64 _]) rfl sz37 rfl rfl (by simp [Value.oneCell']) rfl (fun w h => ?_)
                | refine L_storeBlk h (i := 6) (vs := [.int .i64 _, .int .i64 _]) rfl sz37 rfl rfl (by simp [Value.oneCell']) rfl (fun w h => ?_)
                | refine L_storeBlk h (i := 7) (vs := [.int .i64 _, .int .i64 _]) rfl sz37 rfl rfl (by simp [Value.oneCell']) rfl (fun w h => ?_)
              refine L_nil ?_
              refine T_end (by decide +kernel) ?_
              exact ⟨(g11, g12), ⟨rfl, rfl, rfl, rfl, rfl, rfl, rfl, rfl, rfl, rfl, trivial⟩, by first | exact h | exact h.up1⟩
            · obtain rfl := Option.some.inj ho
              --- 12 (Op.alloc 37)
              refine L_allocB h [.int .i64 0, .int .i64 0] zi37 rfl (fun g12 w h b => ?_)
              refine L_nil ⟨b, ?_⟩
              refine T_G 8 (by decide +kernel) rfl ?_
              --- 11 (Op.alloc 37)
              refine L_allocB h [.int .i64 0, .int .i64 0] zi37 rfl (fun g11 w h b => ?_)
              refine L_nil ⟨b, ?_⟩
              refine T_H 10 (by decide +kernel) rfl ?_
              --- None (Op.store 37 t11 t44)
              first
                | refine L_storeBlk h (i := 0) (vs := [.int .i64 _, .int .i64 _]) rfl sz37 rfl rfl (by simp [Value.oneCell']) rfl (fun w h => ?_)
                | refine L_storeBlk h (i := 1) (vs := [.int .i64 _, .int .i64 _]) rfl sz37 rfl rfl (by simp [Value.oneCell']) rfl (fun w h => ?_)
                | refine L_storeBlk h (i := 2) (vs := [.int .i64 _, .int .i64 _]) rfl sz37 rfl rfl (by simp [Value.oneCell']) rfl (fun w h => ?_)
                | refine L_storeBlk h (i := 3) (vs := [.int .i64 _, .int .i64 _]) rfl sz37 rfl rfl (by simp [Value.oneCell']) rfl (fun w h => ?_)
                | refine L_storeBlk h (i := 4) (vs := [.int .i64 _, .int .i64 _]) rfl sz37 rfl rfl (by simp [Value.oneCell']) rfl (fun w h => ?_)
                | refine L_storeBlk h (i := 5) (vs := [.int .i64 _, .int .i64 _]) rfl sz37 rfl rfl (by simp [Value.oneCell']) rfl (fun w h => ?_)
                | refine L_storeBlk h (i := 6) (vs := [.int .i64 _, .int .i64 _]) rfl sz37 rfl rfl (by simp [Value.oneCell']) rfl (fun w h => ?_)
                | refine L_storeBlk h (i := 7) (vs := [.int .i64 _, .int .i64 _]) rfl sz37 rfl rfl (by simp [Value.oneCell']) rfl (fun w h => ?_)
              refine L_nil ?_
              refine T_H 11 (by decide +kernel) rfl ?_
              --- None (Op.store 37 t12 t50)
              first
                | refine L_storeBlk h (i := 0) (vs := [.int .i64 _, .int .i64 _]) rfl sz37 rfl rfl (by simp [Value.oneCell']) rfl (fun w h => ?_)
                | refine L_storeBlk h (i := 1) (vs := [.int .i64 _, .int .i64 _]) rfl sz37 rfl rfl (by simp [Value.oneCell']) rfl (fun w h => ?_)
                | refine L_storeBlk h (i := 2) (vs := [.int .i64 _, .int .i64 _]) rfl sz37 rfl rfl (by simp [Value.oneCell']) rfl (fun w h => ?_)
                | refine L_storeBlk h (i := 3) (vs := [.int .i64 _, .int .i64 _]) rfl sz37 rfl rfl (by simp [Value.oneCell']) rfl (fun w h => ?_)
                | refine L_storeBlk h (i := 4) (vs := [.int .i64 _, .int .i64 _]) rfl sz37 rfl rfl (by simp [Value.oneCell']) rfl (fun w h => ?_)
                | refine L_storeBlk h (i := 5) (vs := [.int .i64 _, .int .i64 _]) rfl sz37 rfl rfl (by simp [Value.oneCell']) rfl (fun w h => ?_)
                | refine L_storeBlk h (i := 6) (vs := [.int .i64 _, .int .i64 _]) rfl sz37 rfl rfl (by simp [Value.oneCell']) rfl (fun w h => ?_)
                | refine L_storeBlk h (i := 7) (vs := [.int .i64 _, .int .i64 _]) rfl sz37 rfl rfl (by simp [Value.oneCell']) rfl (fun w h => ?_)
              refine L_nil ?_
              refine T_end (by decide +kernel) ?_
              exact ⟨(g11, g12), ⟨rfl, rfl, rfl, rfl, rfl, rfl, rfl, rfl, rfl, rfl, trivial⟩, by first | exact h | exact h.up1⟩
          · obtain rfl := Option.some.inj ho
            --- 11 (Op.alloc 37)
            refine L_allocB h [.int .i64 0, .int .i64 0] zi37 rfl (fun g11 w h b => ?_)
            refine L_nil ⟨b, ?_⟩
            obtain ⟨gr8, c8, A8, k8, hb8, hv8, hk8⟩ : WrR w gw size ini lst := by first | exact wr_reads h (i := 2) rfl | exact wr_reads h (i := 3) rfl | exact wr_reads h (i := 4) rfl
            refine T_fork [7, 9] (by decide +kernel) ⟨fun o ho => ?_, fun o ho => ?_, trivial⟩
            · obtain rfl := Option.some.inj ho
              obtain ⟨gr8, c8, A8, k8, hb8, hv8, hk8⟩ : WrR w gw size ini lst := by first | exact wr_reads h (i := 2) rfl | exact wr_reads h (i := 3) rfl | exact wr_reads h (i := 4) rfl
              --- 50 (Op.call {(Callee.value (Operand.func 17)), [t45, t49], [25, 3]})
              refine L_callB fn17 rfl (next_calls hb8 hv8 (by omega) (by omega) (by omega) (by omega) _) ?_
              rintro _ w ⟨rfl, b⟩
              replace h := h.keep b
              refine L_nil ?_
              refine T_G 9 (by decide +kernel) rfl ?_
              --- 12 (Op.alloc 37)
              refine L_allocB h [.int .i64 0, .int .i64 0] zi37 rfl (fun g12 w h b => ?_)
              refine L_nil ⟨b, ?_⟩
              refine T_H 10 (by decide +kernel) rfl ?_
              --- None (Op.store 37 t11 t44)
              first
                | refine L_storeBlk h (i := 0) (vs := [.int .i64 _, .int .i64 _]) rfl sz37 rfl rfl (by simp [Value.oneCell']) rfl (fun w h => ?_)
                | refine L_storeBlk h (i := 1) (vs := [.int .i64 _, .int .i64 _]) rfl sz37 rfl rfl (by simp [Value.oneCell']) rfl (fun w h => ?_)
                | refine L_storeBlk h (i := 2) (vs := [.int .i64 _, .int .i64 _]) rfl sz37 rfl rfl (by simp [Value.oneCell']) rfl (fun w h => ?_)
                | refine L_storeBlk h (i := 3) (vs := [.int .i64 _, .int .i64 _]) rfl sz37 rfl rfl (by simp [Value.oneCell']) rfl (fun w h => ?_)
                | refine L_storeBlk h (i := 4) (vs := [.int .i64 _, .int .i64 _]) rfl sz37 rfl rfl (by simp [Value.oneCell']) rfl (fun w h => ?_)
                | refine L_storeBlk h (i := 5) (vs := [.int .i64 _, .int .i64 _]) rfl sz37 rfl rfl (by simp [Value.oneCell']) rfl (fun w h => ?_)
                | refine L_storeBlk h (i := 6) (vs := [.int .i64 _, .int .i64 _]) rfl sz37 rfl rfl (by simp [Value.oneCell']) rfl (fun w h => ?_)
                | refine L_storeBlk h (i := 7) (vs := [.int .i64 _, .int .i64 _]) rfl sz37 rfl rfl (by simp [Value.oneCell']) rfl (fun w h => ?_)
              refine L_nil ?_
              refine T_H 11 (by decide +kernel) rfl ?_
              --- None (Op.store 37 t12 t50)
              first
                | refine L_storeBlk h (i := 0) (vs := [.int .i64 _, .int .i64 _]) rfl sz37 rfl rfl (by simp [Value.oneCell']) rfl (fun w h => ?_)
                | refine L_storeBlk h (i := 1) (vs := [.int .i64 _, .int .i64 _]) rfl sz37 rfl rfl (by simp [Value.oneCell']) rfl (fun w h => ?_)
                | refine L_storeBlk h (i := 2) (vs := [.int .i64 _, .int .i64 _]) rfl sz37 rfl rfl (by simp [Value.oneCell']) rfl (fun w h => ?_)
                | refine L_storeBlk h (i := 3) (vs := [.int .i64 _, .int .i64 _]) rfl sz37 rfl rfl (by simp [Value.oneCell']) rfl (fun w h => ?_)
                | refine L_storeBlk h (i := 4) (vs := [.int .i64 _, .int .i64 _]) rfl sz37 rfl rfl (by simp [Value.oneCell']) rfl (fun w h => ?_)
                | refine L_storeBlk h (i := 5) (vs := [.int .i64 _, .int .i64 _]) rfl sz37 rfl rfl (by simp [Value.oneCell']) rfl (fun w h => ?_)
                | refine L_storeBlk h (i := 6) (vs := [.int .i64 _, .int .i64 _]) rfl sz37 rfl rfl (by simp [Value.oneCell']) rfl (fun w h => ?_)
                | refine L_storeBlk h (i := 7) (vs := [.int .i64 _, .int .i64 _]) rfl sz37 rfl rfl (by simp [Value.oneCell']) rfl (fun w h => ?_)
              refine L_nil ?_
              refine T_end (by decide +kernel) ?_
              exact ⟨(g11, g12), ⟨rfl, rfl, rfl, rfl, rfl, rfl, rfl, rfl, rfl, rfl, trivial⟩, by first | exact h | exact h.up1⟩
            · obtain rfl := Option.some.inj ho
              --- 12 (Op.alloc 37)
              refine L_allocB h [.int .i64 0, .int .i64 0] zi37 rfl (fun g12 w h b => ?_)
              refine L_nil ⟨b, ?_⟩
              obtain ⟨gr8, c8, A8, k8, hb8, hv8, hk8⟩ : WrR w gw size ini lst := by first | exact wr_reads h (i := 2) rfl | exact wr_reads h (i := 3) rfl | exact wr_reads h (i := 4) rfl
              refine T_H 7 (by decide +kernel) rfl ?_
              --- 50 (Op.call {(Callee.value (Operand.func 17)), [t45, t49], [25, 3]})
              refine L_callB fn17 rfl (next_calls hb8 hv8 (by omega) (by omega) (by omega) (by omega) _) ?_
              rintro _ w ⟨rfl, b⟩
              replace h := h.keep b
              refine L_nil ?_
              refine T_H 10 (by decide +kernel) rfl ?_
              --- None (Op.store 37 t11 t44)
              first
                | refine L_storeBlk h (i := 0) (vs := [.int .i64 _, .int .i64 _]) rfl sz37 rfl rfl (by simp [Value.oneCell']) rfl (fun w h => ?_)
                | refine L_storeBlk h (i := 1) (vs := [.int .i64 _, .int .i64 _]) rfl sz37 rfl rfl (by simp [Value.oneCell']) rfl (fun w h => ?_)
                | refine L_storeBlk h (i := 2) (vs := [.int .i64 _, .int .i64 _]) rfl sz37 rfl rfl (by simp [Value.oneCell']) rfl (fun w h => ?_)
                | refine L_storeBlk h (i := 3) (vs := [.int .i64 _, .int .i64 _]) rfl sz37 rfl rfl (by simp [Value.oneCell']) rfl (fun w h => ?_)
                | refine L_storeBlk h (i := 4) (vs := [.int .i64 _, .int .i64 _]) rfl sz37 rfl rfl (by simp [Value.oneCell']) rfl (fun w h => ?_)
                | refine L_storeBlk h (i := 5) (vs := [.int .i64 _, .int .i64 _]) rfl sz37 rfl rfl (by simp [Value.oneCell']) rfl (fun w h => ?_)
                | refine L_storeBlk h (i := 6) (vs := [.int .i64 _, .int .i64 _]) rfl sz37 rfl rfl (by simp [Value.oneCell']) rfl (fun w h => ?_)
                | refine L_storeBlk h (i := 7) (vs := [.int .i64 _, .int .i64 _]) rfl sz37 rfl rfl (by simp [Value.oneCell']) rfl (fun w h => ?_)
              refine L_nil ?_
              refine T_H 11 (by decide +kernel) rfl ?_
              --- None (Op.store 37 t12 t50)
              first
                | refine L_storeBlk h (i := 0) (vs := [.int .i64 _, .int .i64 _]) rfl sz37 rfl rfl (by simp [Value.oneCell']) rfl (fun w h => ?_)
                | refine L_storeBlk h (i := 1) (vs := [.int .i64 _, .int .i64 _]) rfl sz37 rfl rfl (by simp [Value.oneCell']) rfl (fun w h => ?_)
                | refine L_storeBlk h (i := 2) (vs := [.int .i64 _, .int .i64 _]) rfl sz37 rfl rfl (by simp [Value.oneCell']) rfl (fun w h => ?_)
                | refine L_storeBlk h (i := 3) (vs := [.int .i64 _, .int .i64 _]) rfl sz37 rfl rfl (by simp [Value.oneCell']) rfl (fun w h => ?_)
                | refine L_storeBlk h (i := 4) (vs := [.int .i64 _, .int .i64 _]) rfl sz37 rfl rfl (by simp [Value.oneCell']) rfl (fun w h => ?_)
                | refine L_storeBlk h (i := 5) (vs := [.int .i64 _, .int .i64 _]) rfl sz37 rfl rfl (by simp [Value.oneCell']) rfl (fun w h => ?_)
                | refine L_storeBlk h (i := 6) (vs := [.int .i64 _, .int .i64 _]) rfl sz37 rfl rfl (by simp [Value.oneCell']) rfl (fun w h => ?_)
                | refine L_storeBlk h (i := 7) (vs := [.int .i64 _, .int .i64 _]) rfl sz37 rfl rfl (by simp [Value.oneCell']) rfl (fun w h => ?_)
              refine L_nil ?_
              refine T_end (by decide +kernel) ?_
              exact ⟨(g11, g12), ⟨rfl, rfl, rfl, rfl, rfl, rfl, rfl, rfl, rfl, rfl, trivial⟩, by first | exact h | exact h.up1⟩
          · obtain rfl := Option.some.inj ho
            --- 12 (Op.alloc 37)
            refine L_allocB h [.int .i64 0, .int .i64 0] zi37 rfl (fun g12 w h b => ?_)
            refine L_nil ⟨b, ?_⟩
            obtain ⟨gr8, c8, A8, k8, hb8, hv8, hk8⟩ : WrR w gw size ini lst := by first | exact wr_reads h (i := 2) rfl | exact wr_reads h (i := 3) rfl | exact wr_reads h (i := 4) rfl
            refine T_fork [7, 8] (by decide +kernel) ⟨fun o ho => ?_, fun o ho => ?_, trivial⟩
            · obtain rfl := Option.some.inj ho
              obtain ⟨gr8, c8, A8, k8, hb8, hv8, hk8⟩ : WrR w gw size ini lst := by first | exact wr_reads h (i := 2) rfl | exact wr_reads h (i := 3) rfl | exact wr_reads h (i := 4) rfl
              --- 50 (Op.call {(Callee.value (Operand.func 17)), [t45, t49], [25, 3]})
              refine L_callB fn17 rfl (next_calls hb8 hv8 (by omega) (by omega) (by omega) (by omega) _) ?_
              rintro _ w ⟨rfl, b⟩
              replace h := h.keep b
              refine L_nil ?_
              refine T_G 8 (by decide +kernel) rfl ?_
              --- 11 (Op.alloc 37)
              refine L_allocB h [.int .i64 0, .int .i64 0] zi37 rfl (fun g11 w h b => ?_)
              refine L_nil ⟨b, ?_⟩
              refine T_H 10 (by decide +kernel) rfl ?_
              --- None (Op.store 37 t11 t44)
              first
                | refine L_storeBlk h (i := 0) (vs := [.int .i64 _, .int .i64 _]) rfl sz37 rfl rfl (by simp [Value.oneCell']) rfl (fun w h => ?_)
                | refine L_storeBlk h (i := 1) (vs := [.int .i64 _, .int .i64 _]) rfl sz37 rfl rfl (by simp [Value.oneCell']) rfl (fun w h => ?_)
                | refine L_storeBlk h (i := 2) (vs := [.int .i64 _, .int .i64 _]) rfl sz37 rfl rfl (by simp [Value.oneCell']) rfl (fun w h => ?_)
                | refine L_storeBlk h (i := 3) (vs := [.int .i64 _, .int .i64 _]) rfl sz37 rfl rfl (by simp [Value.oneCell']) rfl (fun w h => ?_)
                | refine L_storeBlk h (i := 4) (vs := [.int .i64 _, .int .i64 _]) rfl sz37 rfl rfl (by simp [Value.oneCell']) rfl (fun w h => ?_)
                | refine L_storeBlk h (i := 5) (vs := [.int .i64 _, .int .i64 _]) rfl sz37 rfl rfl (by simp [Value.oneCell']) rfl (fun w h => ?_)
                | refine L_storeBlk h (i := 6) (vs := [.int .i64 _, .int .i64 _]) rfl sz37 rfl rfl (by simp [Value.oneCell']) rfl (fun w h => ?_)
                | refine L_storeBlk h (i := 7) (vs := [.int .i64 _, .int .i64 _]) rfl sz37 rfl rfl (by simp [Value.oneCell']) rfl (fun w h => ?_)
              refine L_nil ?_
              refine T_H 11 (by decide +kernel) rfl ?_
              --- None (Op.store 37 t12 t50)
              first
                | refine L_storeBlk h (i := 0) (vs := [.int .i64 _, .int .i64 _]) rfl sz37 rfl rfl (by simp [Value.oneCell']) rfl (fun w h => ?_)
                | refine L_storeBlk h (i := 1) (vs := [.int .i64 _, .int .i64 _]) rfl sz37 rfl rfl (by simp [Value.oneCell']) rfl (fun w h => ?_)
                | refine L_storeBlk h (i := 2) (vs := [.int .i64 _, .int .i64 _]) rfl sz37 rfl rfl (by simp [Value.oneCell']) rfl (fun w h => ?_)
                | refine L_storeBlk h (i := 3) (vs := [.int .i64 _, .int .i64 _]) rfl sz37 rfl rfl (by simp [Value.oneCell']) rfl (fun w h => ?_)
                | refine L_storeBlk h (i := 4) (vs := [.int .i64 _, .int .i64 _]) rfl sz37 rfl rfl (by simp [Value.oneCell']) rfl (fun w h => ?_)
                | refine L_storeBlk h (i := 5) (vs := [.int .i64 _, .int .i64 _]) rfl sz37 rfl rfl (by simp [Value.oneCell']) rfl (fun w h => ?_)
                | refine L_storeBlk h (i := 6) (vs := [.int .i64 _, .int .i64 _]) rfl sz37 rfl rfl (by simp [Value.oneCell']) rfl (fun w h => ?_)
                | refine L_storeBlk h (i := 7) (vs := [.int .i64 _, .int .i64 _]) rfl sz37 rfl rfl (by simp [Value.oneCell']) rfl (fun w h => ?_)
              refine L_nil ?_
              refine T_end (by decide +kernel) ?_
              exact ⟨(g11, g12), ⟨rfl, rfl, rfl, rfl, rfl, rfl, rfl, rfl, rfl, rfl, trivial⟩, by first | exact h | exact h.up1⟩
            · obtain rfl := Option.some.inj ho
              --- 11 (Op.alloc 37)
              refine L_allocB h [.int .i64 0, .int .i64 0] zi37 rfl (fun g11 w h b => ?_)
              refine L_nil ⟨b, ?_⟩
              obtain ⟨gr8, c8, A8, k8, hb8, hv8, hk8⟩ : WrR w gw size ini lst := by first | exact wr_reads h (i := 2) rfl | exact wr_reads h (i := 3) rfl | exact wr_reads h (i := 4) rfl
              refine T_H 7 (by decide +kernel) rfl ?_
              --- 50 (Op.call {(Callee.value (Operand.func 17)), [t45, t49], [25, 3]})
              refine L_callB fn17 rfl (next_calls hb8 hv8 (by omega) (by omega) (by omega) (by omega) _) ?_
              rintro _ w ⟨rfl, b⟩
              replace h := h.keep b
              refine L_nil ?_
              refine T_H 10 (by decide +kernel) rfl ?_
              --- None (Op.store 37 t11 t44)
              first
                | refine L_storeBlk h (i := 0) (vs := [.int .i64 _, .int .i64 _]) rfl sz37 rfl rfl (by simp [Value.oneCell']) rfl (fun w h => ?_)
                | refine L_storeBlk h (i := 1) (vs := [.int .i64 _, .int .i64 _]) rfl sz37 rfl rfl (by simp [Value.oneCell']) rfl (fun w h => ?_)
                | refine L_storeBlk h (i := 2) (vs := [.int .i64 _, .int .i64 _]) rfl sz37 rfl rfl (by simp [Value.oneCell']) rfl (fun w h => ?_)
                | refine L_storeBlk h (i := 3) (vs := [.int .i64 _, .int .i64 _]) rfl sz37 rfl rfl (by simp [Value.oneCell']) rfl (fun w h => ?_)
                | refine L_storeBlk h (i := 4) (vs := [.int .i64 _, .int .i64 _]) rfl sz37 rfl rfl (by simp [Value.oneCell']) rfl (fun w h => ?_)
                | refine L_storeBlk h (i := 5) (vs := [.int .i64 _, .int .i64 _]) rfl sz37 rfl rfl (by simp [Value.oneCell']) rfl (fun w h => ?_)
                | refine L_storeBlk h (i := 6) (vs := [.int .i64 _, .int .i64 _]) rfl sz37 rfl rfl (by simp [Value.oneCell']) rfl (fun w h => ?_)
                | refine L_storeBlk h (i := 7) (vs := [.int .i64 _, .int .i64 _]) rfl sz37 rfl rfl (by simp [Value.oneCell']) rfl (fun w h => ?_)
              refine L_nil ?_
              refine T_H 11 (by decide +kernel) rfl ?_
              --- None (Op.store 37 t12 t50)
              first
                | refine L_storeBlk h (i := 0) (vs := [.int .i64 _, .int .i64 _]) rfl sz37 rfl rfl (by simp [Value.oneCell']) rfl (fun w h => ?_)
                | refine L_storeBlk h (i := 1) (vs := [.int .i64 _, .int .i64 _]) rfl sz37 rfl rfl (by simp [Value.oneCell']) rfl (fun w h => ?_)
                | refine L_storeBlk h (i := 2) (vs := [.int .i64 _, .int .i64 _]) rfl sz37 rfl rfl (by simp [Value.oneCell']) rfl (fun w h => ?_)
                | refine L_storeBlk h (i := 3) (vs := [.int .i64 _, .int .i64 _]) rfl sz37 rfl rfl (by simp [Value.oneCell']) rfl (fun w h => ?_)
                | refine L_storeBlk h (i := 4) (vs := [.int .i64 _, .int .i64 _]) rfl sz37 rfl rfl (by simp [Value.oneCell']) rfl (fun w h => ?_)
                | refine L_storeBlk h (i := 5) (vs := [.int .i64 _, .int .i64 _]) rfl sz37 rfl rfl (by simp [Value.oneCell']) rfl (fun w h => ?_)
                | refine L_storeBlk h (i := 6) (vs := [.int .i64 _, .int .i64 _]) rfl sz37 rfl rfl (by simp [Value.oneCell']) rfl (fun w h => ?_)
                | refine L_storeBlk h (i := 7) (vs := [.int .i64 _, .int .i64 _]) rfl sz37 rfl rfl (by simp [Value.oneCell']) rfl (fun w h => ?_)
              refine L_nil ?_
              refine T_end (by decide +kernel) ?_
              exact ⟨(g11, g12), ⟨rfl, rfl, rfl, rfl, rfl, rfl, rfl, rfl, rfl, rfl, trivial⟩, by first | exact h | exact h.up1⟩
        · obtain rfl := Option.some.inj ho
          --- 11 (Op.alloc 37)
          refine L_allocB h [.int .i64 0, .int .i64 0] zi37 rfl (fun g11 w h b => ?_)
          refine L_nil ⟨b, ?_⟩
          obtain ⟨gr8, c8, A8, k8, hb8, hv8, hk8⟩ : WrR w gw size ini lst := by first | exact wr_reads h (i := 2) rfl | exact wr_reads h (i := 3) rfl | exact wr_reads h (i := 4) rfl
          refine T_fork [1, 9] (by decide +kernel) ⟨fun o ho => ?_, fun o ho => ?_, trivial⟩
          · obtain rfl := Option.some.inj ho
            obtain ⟨gr8, c8, A8, k8, hb8, hv8, hk8⟩ : WrR w gw size ini lst := by first | exact wr_reads h (i := 2) rfl | exact wr_reads h (i := 3) rfl | exact wr_reads h (i := 4) rfl
            --- 44 (Op.call {(Callee.value (Operand.func 17)), [t43, ((1))], [25, 3]})
            refine L_callB fn17 rfl (next_calls hb8 hv8 (by omega) (by omega) (by omega) (by omega) 1) ?_
            rintro _ w ⟨rfl, b⟩
            replace h := h.keep b
            refine L_nil ⟨b, ?_⟩
            obtain ⟨gr8, c8, A8, k8, hb8, hv8, hk8⟩ : WrR w gw size ini lst := by first | exact wr_reads h (i := 2) rfl | exact wr_reads h (i := 3) rfl | exact wr_reads h (i := 4) rfl
            refine T_fork [7, 9] (by decide +kernel) ⟨fun o ho => ?_, fun o ho => ?_, trivial⟩
            · obtain rfl := Option.some.inj ho
              obtain ⟨gr8, c8, A8, k8, hb8, hv8, hk8⟩ : WrR w gw size ini lst := by first | exact wr_reads h (i := 2) rfl | exact wr_reads h (i := 3) rfl | exact wr_reads h (i := 4) rfl
              --- 50 (Op.call {(Callee.value (Operand.func 17)), [t45, t49], [25, 3]})
              refine L_callB fn17 rfl (next_calls hb8 hv8 (by omega) (by omega) (by omega) (by omega) _) ?_
              rintro _ w ⟨rfl, b⟩
              replace h := h.keep b
              refine L_nil ?_
              refine T_G 9 (by decide +kernel) rfl ?_
              --- 12 (Op.alloc 37)
              refine L_allocB h [.int .i64 0, .int .i64 0] zi37 rfl (fun g12 w h b => ?_)
              refine L_nil ⟨b, ?_⟩
              refine T_H 10 (by decide +kernel) rfl ?_
              --- None (Op.store 37 t11 t44)
              first
                | refine L_storeBlk h (i := 0) (vs := [.int .i64 _, .int .i64 _]) rfl sz37 rfl rfl (by simp [Value.oneCell']) rfl (fun w h => ?_)
                | refine L_storeBlk h (i := 1) (vs := [.int .i64 _, .int .i64 _]) rfl sz37 rfl rfl (by simp [Value.oneCell']) rfl (fun w h => ?_)
                | refine L_storeBlk h (i := 2) (vs := [.int .i64 _, .int .i64 _]) rfl sz37 rfl rfl (by simp [Value.oneCell']) rfl (fun w h => ?_)
                | refine L_storeBlk h (i := 3) (vs := [.int .i64 _, .int .i64 _]) rfl sz37 rfl rfl (by simp [Value.oneCell']) rfl (fun w h => ?_)
                | refine L_storeBlk h (i := 4) (vs := [.int .i64 _, .int .i64 _]) rfl sz37 rfl rfl (by simp [Value.oneCell']) rfl (fun w h => ?_)
                | refine L_storeBlk h (i := 5) (vs := [.int .i64 _, .int .i64 _]) rfl sz37 rfl rfl (by simp [Value.oneCell']) rfl (fun w h => ?_)
                | refine L_storeBlk h (i := 6) (vs := [.int .i64 _, .int .i64 _]) rfl sz37 rfl rfl (by simp [Value.oneCell']) rfl (fun w h => ?_)
                | refine L_storeBlk h (i := 7) (vs := [.int .i64 _, .int .i64 _]) rfl sz37 rfl rfl (by simp [Value.oneCell']) rfl (fun w h => ?_)
              refine L_nil ?_
              refine T_H 11 (by decide +kernel) rfl ?_
              --- None (Op.store 37 t12 t50)
              first
                | refine L_storeBlk h (i := 0) (vs := [.int .i64 _, .int .i64 _]) rfl sz37 rfl rfl (by simp [Value.oneCell']) rfl (fun w h => ?_)
                | refine L_storeBlk h (i := 1) (vs := [.int .i64 _, .int .i64 _]) rfl sz37 rfl rfl (by simp [Value.oneCell']) rfl (fun w h => ?_)
                | refine L_storeBlk h (i := 2) (vs := [.int .i64 _, .int .i64 _]) rfl sz37 rfl rfl (by simp [Value.oneCell']) rfl (fun w h => ?_)
                | refine L_storeBlk h (i := 3) (vs := [.int .i64 _, .int .i64 _]) rfl sz37 rfl rfl (by simp [Value.oneCell']) rfl (fun w h => ?_)
                | refine L_storeBlk h (i := 4) (vs := [.int .i64 _, .int .i64 _]) rfl sz37 rfl rfl (by simp [Value.oneCell']) rfl (fun w h => ?_)
                | refine L_storeBlk h (i := 5) (vs := [.int .i64 _, .int .i64 _]) rfl sz37 rfl rfl (by simp [Value.oneCell']) rfl (fun w h => ?_)
                | refine L_storeBlk h (i := 6) (vs := [.int .i64 _, .int .i64 _]) rfl sz37 rfl rfl (by simp [Value.oneCell']) rfl (fun w h => ?_)
                | refine L_storeBlk h (i := 7) (vs := [.int .i64 _, .int .i64 _]) rfl sz37 rfl rfl (by simp [Value.oneCell']) rfl (fun w h => ?_)
              refine L_nil ?_
              refine T_end (by decide +kernel) ?_
              exact ⟨(g11, g12), ⟨rfl, rfl, rfl, rfl, rfl, rfl, rfl, rfl, rfl, rfl, trivial⟩, by first | exact h | exact h.up1⟩
            · obtain rfl := Option.some.inj ho
              --- 12 (Op.alloc 37)
              refine L_allocB h [.int .i64 0, .int .i64 0] zi37 rfl (fun g12 w h b => ?_)
              refine L_nil ⟨b, ?_⟩
              obtain ⟨gr8, c8, A8, k8, hb8, hv8, hk8⟩ : WrR w gw size ini lst := by first | exact wr_reads h (i := 2) rfl | exact wr_reads h (i := 3) rfl | exact wr_reads h (i := 4) rfl
              refine T_H 7 (by decide +kernel) rfl ?_
              --- 50 (Op.call {(Callee.value (Operand.func 17)), [t45, t49], [25, 3]})
              refine L_callB fn17 rfl (next_calls hb8 hv8 (by omega) (by omega) (by omega) (by omega) _) ?_
              rintro _ w ⟨rfl, b⟩
              replace h := h.keep b
              refine L_nil ?_
              refine T_H 10 (by decide +kernel) rfl ?_
              --- None (Op.store 37 t11 t44)
              first
                | refine L_storeBlk h (i := 0) (vs := [.int .i64 _, .int .i64 _]) rfl sz37 rfl rfl (by simp [Value.oneCell']) rfl (fun w h => ?_)
                | refine L_storeBlk h (i := 1) (vs := [.int .i64 _, .int .i64 _]) rfl sz37 rfl rfl (by simp [Value.oneCell']) rfl (fun w h => ?_)
                | refine L_storeBlk h (i := 2) (vs := [.int .i64 _, .int .i64 _]) rfl sz37 rfl rfl (by simp [Value.oneCell']) rfl (fun w h => ?_)
                | refine L_storeBlk h (i := 3) (vs := [.int .i64 _, .int .i64 _]) rfl sz37 rfl rfl (by simp [Value.oneCell']) rfl (fun w h => ?_)
                | refine L_storeBlk h (i := 4) (vs := [.int .i64 _, .int .i64 _]) rfl sz37 rfl rfl (by simp [Value.oneCell']) rfl (fun w h => ?_)
                | refine L_storeBlk h (i := 5) (vs := [.int .i64 _, .int .i64 _]) rfl sz37 rfl rfl (by simp [Value.oneCell']) rfl (fun w h => ?_)
                | refine L_storeBlk h (i := 6) (vs := [.int .i64 _, .int .i64 _]) rfl sz37 rfl rfl (by simp [Value.oneCell']) rfl (fun w h => ?_)
                | refine L_storeBlk h (i := 7) (vs := [.int .i64 _, .int .i64 _]) rfl sz37 rfl rfl (by simp [Value.oneCell']) rfl (fun w h => ?_)
              refine L_nil ?_
              refine T_H 11 (by decide +kernel) rfl ?_
              --- None (Op.store 37 t12 t50)
              first
                | refine L_storeBlk h (i := 0) (vs := [.int .i64 _, .int .i64 _]) rfl sz37 rfl rfl (by simp [Value.oneCell']) rfl (fun w h => ?_)
                | refine L_storeBlk h (i := 1) (vs := [.int .i64 _, .int .i64 _]) rfl sz37 rfl rfl (by simp [Value.oneCell']) rfl (fun w h => ?_)
                | refine L_storeBlk h (i := 2) (vs := [.int .i64 _, .int .i64 _]) rfl sz37 rfl rfl (by simp [Value.oneCell']) rfl (fun w h => ?_)
                | refine L_storeBlk h (i := 3) (vs := [.int .i64 _, .int .i64 _]) rfl sz37 rfl rfl (by simp [Value.oneCell']) rfl (fun w h => ?_)
                | refine L_storeBlk h (i := 4) (vs := [.int .i64 _, .int .i64 _]) rfl sz37 rfl rfl (by simp [Value.oneCell']) rfl (fun w h => ?_)
                | refine L_storeBlk h (i := 5) (vs := [.int .i64 _, .int .i64 _]) rfl sz37 rfl rfl (by simp [Value.oneCell']) rfl (fun w h => ?_)
                | refine L_storeBlk h (i := 6) (vs := [.int .i64 _, .int .i64 _]) rfl sz37 rfl rfl (by simp [Value.oneCell']) rfl (fun w h => ?_)
                | refine L_storeBlk h (i := 7) (vs := [.int .i64 _, .int .i64 _]) rfl sz37 rfl rfl (by simp [Value.oneCell']) rfl (fun w h => ?_)
              refine L_nil ?_
              refine T_end (by decide +kernel) ?_
              exact ⟨(g11, g12), ⟨rfl, rfl, rfl, rfl, rfl, rfl, rfl, rfl, rfl, rfl, trivial⟩, by first | exact h | exact h.up1⟩
          · obtain rfl := Option.some.inj ho
            --- 12 (Op.alloc 37)
            refine L_allocB h [.int .i64 0, .int .i64 0] zi37 rfl (fun g12 w h b => ?_)
            refine L_nil ⟨b, ?_⟩
            obtain ⟨gr8, c8, A8, k8, hb8, hv8, hk8⟩ : WrR w gw size ini lst := by first | exact wr_reads h (i := 2) rfl | exact wr_reads h (i := 3) rfl | exact wr_reads h (i := 4) rfl
            refine T_G 1 (by decide +kernel) rfl ?_
            --- 44 (Op.call {(Callee.value (Operand.func 17)), [t43, ((1))], [25, 3]})
            refine L_callB fn17 rfl (next_calls hb8 hv8 (by omega) (by omega) (by omega) (by omega) 1) ?_
            rintro _ w ⟨rfl, b⟩
            replace h := h.keep b
            refine L_nil ⟨b, ?_⟩
            obtain ⟨gr8, c8, A8, k8, hb8, hv8, hk8⟩ : WrR w gw size ini lst := by first | exact wr_reads h (i := 2) rfl | exact wr_reads h (i := 3) rfl | exact wr_reads h (i := 4) rfl
            refine T_H 7 (by decide +kernel) rfl ?_
            --- 50 (Op.call {(Callee.value (Operand.func 17)), [t45, t49], [25, 3]})
            refine L_callB fn17 rfl (next_calls hb8 hv8 (by omega) (by omega) (by omega) (by omega) _) ?_
            rintro _ w ⟨rfl, b⟩
            replace h := h.keep b
            refine L_nil ?_
            refine T_H 10 (by decide +kernel) rfl ?_
            --- None (Op.store 37 t11 t44)
            first
              | refine L_storeBlk h (i := 0) (vs := [.int .i64 _, .int .i64 _]) rfl sz37 rfl rfl (by simp [Value.oneCell']) rfl (fun w h => ?_)
              | refine L_storeBlk h (i := 1) (vs := [.int .i64 _, .int .i64 _]) rfl sz37 rfl rfl (by simp [Value.oneCell']) rfl (fun w h => ?_)
              | refine L_storeBlk h (i := 2) (vs := [.int .i64 _, .int .i64 _]) rfl sz37 rfl rfl (by simp [Value.oneCell']) rfl (fun w h => ?_)
              | refine L_storeBlk h (i := 3) (vs := [.int .i64 _, .int .i64 _]) rfl sz37 rfl rfl (by simp [Value.oneCell']) rfl (fun w h => ?_)
              | refine L_storeBlk h (i := 4) (vs := [.int .i64 _, .int .i64 _]) rfl sz37 rfl rfl (by simp [Value.oneCell']) rfl (fun w h => ?_)
              | refine L_storeBlk h (i := 5) (vs := [.int .i64 _, .int .i64 _]) rfl sz37 rfl rfl (by simp [Value.oneCell']) rfl (fun w h => ?_)
              | refine L_storeBlk h (i := 6) (vs := [.int .i64 _, .int .i64 _]) rfl sz37 rfl rfl (by simp [Value.oneCell']) rfl (fun w h => ?_)
              | refine L_storeBlk h (i := 7) (vs := [.int .i64 _, .int .i64 _]) rfl sz37 rfl rfl (by simp [Value.oneCell']) rfl (fun w h => ?_)
            refine L_nil ?_
            refine T_H 11 (by decide +kernel) rfl ?_
            --- None (Op.store 37 t12 t50)
            first
              | refine L_storeBlk h (i := 0) (vs := [.int .i64 _, .int .i64 _]) rfl sz37 rfl rfl (by simp [Value.oneCell']) rfl (fun w h => ?_)
              | refine L_storeBlk h (i := 1) (vs := [.int .i64 _, .int .i64 _]) rfl sz37 rfl rfl (by simp [Value.oneCell']) rfl (fun w h => ?_)
              | refine L_storeBlk h (i := 2) (vs := [.int .i64 _, .int .i64 _]) rfl sz37 rfl rfl (by simp [Value.oneCell']) rfl (fun w h => ?_)
              | refine L_storeBlk h (i := 3) (vs := [.int .i64 _, .int .i64 _]) rfl sz37 rfl rfl (by simp [Value.oneCell']) rfl (fun w h => ?_)
              | refine L_storeBlk h (i := 4) (vs := [.int .i64 _, .int .i64 _]) rfl sz37 rfl rfl (by simp [Value.oneCell']) rfl (fun w h => ?_)
              | refine L_storeBlk h (i := 5) (vs := [.int .i64 _, .int .i64 _]) rfl sz37 rfl rfl (by simp [Value.oneCell']) rfl (fun w h => ?_)
              | refine L_storeBlk h (i := 6) (vs := [.int .i64 _, .int .i64 _]) rfl sz37 rfl rfl (by simp [Value.oneCell']) rfl (fun w h => ?_)
              | refine L_storeBlk h (i := 7) (vs := [.int .i64 _, .int .i64 _]) rfl sz37 rfl rfl (by simp [Value.oneCell']) rfl (fun w h => ?_)
            refine L_nil ?_
            refine T_end (by decide +kernel) ?_
            exact ⟨(g11, g12), ⟨rfl, rfl, rfl, rfl, rfl, rfl, rfl, rfl, rfl, rfl, trivial⟩, by first | exact h | exact h.up1⟩
        · obtain rfl := Option.some.inj ho
          --- 12 (Op.alloc 37)
          refine L_allocB h [.int .i64 0, .int .i64 0] zi37 rfl (fun g12 w h b => ?_)
          refine L_nil ⟨b, ?_⟩
          obtain ⟨gr8, c8, A8, k8, hb8, hv8, hk8⟩ : WrR w gw size ini lst := by first | exact wr_reads h (i := 2) rfl | exact wr_reads h (i := 3) rfl | exact wr_reads h (i := 4) rfl
          refine T_fork [1, 8] (by decide +kernel) ⟨fun o ho => ?_, fun o ho => ?_, trivial⟩
          · obtain rfl := Option.some.inj ho
            obtain ⟨gr8, c8, A8, k8, hb8, hv8, hk8⟩ : WrR w gw size ini lst := by first | exact wr_reads h (i := 2) rfl | exact wr_reads h (i := 3) rfl | exact wr_reads h (i := 4) rfl
            --- 44 (Op.call {(Callee.value (Operand.func 17)), [t43, ((1))], [25, 3]})
            refine L_callB fn17 rfl (next_calls hb8 hv8 (by omega) (by omega) (by omega) (by omega) 1) ?_
            rintro _ w ⟨rfl, b⟩
            replace h := h.keep b
            refine L_nil ⟨b, ?_⟩
            obtain ⟨gr8, c8, A8, k8, hb8, hv8, hk8⟩ : WrR w gw size ini lst := by first | exact wr_reads h (i := 2) rfl | exact wr_reads h (i := 3) rfl | exact wr_reads h (i := 4) rfl
            refine T_fork [7, 8] (by decide +kernel) ⟨fun o ho => ?_, fun o ho => ?_, trivial⟩
            · obtain rfl := Option.some.inj ho
              obtain ⟨gr8, c8, A8, k8, hb8, hv8, hk8⟩ : WrR w gw size ini lst := by first | exact wr_reads h (i := 2) rfl | exact wr_reads h (i := 3) rfl | exact wr_reads h (i := 4) rfl
              --- 50 (Op.call {(Callee.value (Operand.func 17)), [t45, t49], [25, 3]})
              refine L_callB fn17 rfl (next_calls hb8 hv8 (by omega) (by omega) (by omega) (by omega) _) ?_
              rintro _ w ⟨rfl, b⟩
              replace h := h.keep b
              refine L_nil ?_
              refine T_G 8 (by decide +kernel) rfl ?_
              --- 11 (Op.alloc 37)
              refine L_allocB h [.int .i64 0, .int .i64 0] zi37 rfl (fun g11 w h b => ?_)
              refine L_nil ⟨b, ?_⟩
              refine T_H 10 (by decide +kernel) rfl ?_
              --- None (Op.store 37 t11 t44)
              first
                | refine L_storeBlk h (i := 0) (vs := [.int .i64 _, .int .i64 _]) rfl sz37 rfl rfl (by simp [Value.oneCell']) rfl (fun w h => ?_)
                | refine L_storeBlk h (i := 1) (vs := [.int .i64 _, .int .i64 _]) rfl sz37 rfl rfl (by simp [Value.oneCell']) rfl (fun w h => ?_)
                | refine L_storeBlk h (i := 2) (vs := [.int .i64 _, .int .i64 _]) rfl sz37 rfl rfl (by simp [Value.oneCell']) rfl (fun w h => ?_)
                | refine L_storeBlk h (i := 3) (vs := [.int .i64 _, .int .i64 _]) rfl sz37 rfl rfl (by simp [Value.oneCell']) rfl (fun w h => ?_)
                | refine L_storeBlk h (i := 4) (vs := [.int .i64 _, .int .i64 _]) rfl sz37 rfl rfl (by simp [Value.oneCell']) rfl (fun w h => ?_)
                | refine L_storeBlk h (i := 5) (vs := [.int .i64 _, .int .i64 _]) rfl sz37 rfl rfl (by simp [Value.oneCell']) rfl (fun w h => ?_)
                | refine L_storeBlk h (i := 6) (vs := [.int .i64 _, .int .i64 _]) rfl sz37 rfl rfl (by simp [Value.oneCell']) rfl (fun w h => ?_)
                | refine L_storeBlk h (i := 7) (vs := [.int .i64 _, .int .i64 _]) rfl sz37 rfl rfl (by simp [Value.oneCell']) rfl (fun w h => ?_)
              refine L_nil ?_
              refine T_H 11 (by decide +kernel) rfl ?_
              --- None (Op.store 37 t12 t50)
              first
                | refine L_storeBlk h (i := 0) (vs := [.int .i64 _, .int .i64 _]) rfl sz37 rfl rfl (by simp [Value.oneCell']) rfl (fun w h => ?_)
                | refine L_storeBlk h (i := 1) (vs := [.int .i64 _, .int .i64 _]) rfl sz37 rfl rfl (by simp [Value.oneCell']) rfl (fun w h => ?_)
                | refine L_storeBlk h (i := 2) (vs := [.int .i64 _, .int .i64 _]) rfl sz37 rfl rfl (by simp [Value.oneCell']) rfl (fun w h => ?_)
                | refine L_storeBlk h (i := 3) (vs := [.int .i64 _, .int .i64 _]) rfl sz37 rfl rfl (by simp [Value.oneCell']) rfl (fun w h => ?_)
                | refine L_storeBlk h (i := 4) (vs := [.int .i64 _, .int .i64 _]) rfl sz37 rfl rfl (by simp [Value.oneCell']) rfl (fun w h => ?_)
                | refine L_storeBlk h (i := 5) (vs := [.int .i64 _, .int .i64 _]) rfl sz37 rfl rfl (by simp [Value.oneCell']) rfl (fun w h => ?_)
                | refine L_storeBlk h (i := 6) (vs := [.int .i64 _, .int .i64 _]) rfl sz37 rfl rfl (by simp [Value.oneCell']) rfl (fun w h => ?_)
                | refine L_storeBlk h (i := 7) (vs := [.int .i64 _, .int .i64 _]) rfl sz37 rfl rfl (by simp [Value.oneCell']) rfl (fun w h => ?_)
              refine L_nil ?_
              refine T_end (by decide +kernel) ?_
              exact ⟨(g11, g12), ⟨rfl, rfl, rfl, rfl, rfl, rfl, rfl, rfl, rfl, rfl, trivial⟩, by first | exact h | exact h.up1⟩
            · obtain rfl := Option.some.inj ho
              --- 11 (Op.alloc 37)
              refine L_allocB h [.int .i64 0, .int .i64 0] zi37 rfl (fun g11 w h b => ?_)
              refine L_nil ⟨b, ?_⟩
              obtain ⟨gr8, c8, A8, k8, hb8, hv8, hk8⟩ : WrR w gw size ini lst := by first | exact wr_reads h (i := 2) rfl | exact wr_reads h (i := 3) rfl | exact wr_reads h (i := 4) rfl
              refine T_H 7 (by decide +kernel) rfl ?_
              --- 50 (Op.call {(Callee.value (Operand.func 17)), [t45, t49], [25, 3]})
              refine L_callB fn17 rfl (next_calls hb8 hv8 (by omega) (by omega) (by omega) (by omega) _) ?_
              rintro _ w ⟨rfl, b⟩
              replace h := h.keep b
              refine L_nil ?_
              refine T_H 10 (by decide +kernel) rfl ?_
              --- None (Op.store 37 t11 t44)
              first
                | refine L_storeBlk h (i := 0) (vs := [.int .i64 _, .int .i64 _]) rfl sz37 rfl rfl (by simp [Value.oneCell']) rfl (fun w h => ?_)
                | refine L_storeBlk h (i := 1) (vs := [.int .i64 _, .int .i64 _]) rfl sz37 rfl rfl (by simp [Value.oneCell']) rfl (fun w h => ?_)
                | refine L_storeBlk h (i := 2) (vs := [.int .i64 _, .int .i64 _]) rfl sz37 rfl rfl (by simp [Value.oneCell']) rfl (fun w h => ?_)
                | refine L_storeBlk h (i := 3) (vs := [.int .i64 _, .int .i64 _]) rfl sz37 rfl rfl (by simp [Value.oneCell']) rfl (fun w h => ?_)
                | refine L_storeBlk h (i := 4) (vs := [.int .i64 _, .int .i64 _]) rfl sz37 rfl rfl (by simp [Value.oneCell']) rfl (fun w h => ?_)
                | refine L_storeBlk h (i := 5) (vs := [.int .i64 _, .int .i64 _]) rfl sz37 rfl rfl (by simp [Value.oneCell']) rfl (fun w h => ?_)
                | refine L_storeBlk h (i := 6) (vs := [.int .i64 _, .int .i64 _]) rfl sz37 rfl rfl (by simp [Value.oneCell']) rfl (fun w h => ?_)
                | refine L_storeBlk h (i := 7) (vs := [.int .i64 _, .int .i64 _]) rfl sz37 rfl rfl (by simp [Value.oneCell']) rfl (fun w h => ?_)
              refine L_nil ?_
              refine T_H 11 (by decide +kernel) rfl ?_
              --- None (Op.store 37 t12 t50)
              first
                | refine L_storeBlk h (i := 0) (vs := [.int .i64 _, .int .i64 _]) rfl sz37 rfl rfl (by simp [Value.oneCell']) rfl (fun w h => ?_)
                | refine L_storeBlk h (i := 1) (vs := [.int .i64 _, .int .i64 _]) rfl sz37 rfl rfl (by simp [Value.oneCell']) rfl (fun w h => ?_)
                | refine L_storeBlk h (i := 2) (vs := [.int .i64 _, .int .i64 _]) rfl sz37 rfl rfl (by simp [Value.oneCell']) rfl (fun w h => ?_)
                | refine L_storeBlk h (i := 3) (vs := [.int .i64 _, .int .i64 _]) rfl sz37 rfl rfl (by simp [Value.oneCell']) rfl (fun w h => ?_)
                | refine L_storeBlk h (i := 4) (vs := [.int .i64 _, .int .i64 _]) rfl sz37 rfl rfl (by simp [Value.oneCell']) rfl (fun w h => ?_)
                | refine L_storeBlk h (i := 5) (vs := [.int .i64 _, .int .i64 _]) rfl sz37 rfl rfl (by simp [Value.oneCell']) rfl (fun w h => ?_)
                | refine L_storeBlk h (i := 6) (vs := [.int .i64 _, .int .i64 _]) rfl sz37 rfl rfl (by simp [Value.oneCell']) rfl (fun w h => ?_)
                | refine L_storeBlk h (i := 7) (vs := [.int .i64 _, .int .i64 _]) rfl sz37 rfl rfl (by simp [Value.oneCell']) rfl (fun w h => ?_)
              refine L_nil ?_
              refine T_end (by decide +kernel) ?_
              exact ⟨(g11, g12), ⟨rfl, rfl, rfl, rfl, rfl, rfl, rfl, rfl, rfl, rfl, trivial⟩, by first | exact h | exact h.up1⟩
          · obtain rfl := Option.some.inj ho
            --- 11 (Op.alloc 37)
            refine L_allocB h [.int .i64 0, .int .i64 0] zi37 rfl (fun g11 w h b => ?_)
            refine L_nil ⟨b, ?_⟩
            obtain ⟨gr8, c8, A8, k8, hb8, hv8, hk8⟩ : WrR w gw size ini lst := by first | exact wr_reads h (i := 2) rfl | exact wr_reads h (i := 3) rfl | exact wr_reads h (i := 4) rfl
            refine T_G 1 (by decide +kernel) rfl ?_
            --- 44 (Op.call {(Callee.value (Operand.func 17)), [t43, ((1))], [25, 3]})
            refine L_callB fn17 rfl (next_calls hb8 hv8 (by omega) (by omega) (by omega) (by omega) 1) ?_
            rintro _ w ⟨rfl, b⟩
            replace h := h.keep b
            refine L_nil ⟨b, ?_⟩
            obtain ⟨gr8, c8, A8, k8, hb8, hv8, hk8⟩ : WrR w gw size ini lst := by first | exact wr_reads h (i := 2) rfl | exact wr_reads h (i := 3) rfl | exact wr_reads h (i := 4) rfl
            refine T_H 7 (by decide +kernel) rfl ?_
            --- 50 (Op.call {(Callee.value (Operand.func 17)), [t45, t49], [25, 3]})
            refine L_callB fn17 rfl (next_calls hb8 hv8 (by omega) (by omega) (by omega) (by omega) _) ?_
            rintro _ w ⟨rfl, b⟩
            replace h := h.keep b
            refine L_nil ?_
            refine T_H 10 (by decide +kernel) rfl ?_
            --- None (Op.store 37 t11 t44)
            first
              | refine L_storeBlk h (i := 0) (vs := [.int .i64 _, .int .i64 _]) rfl sz37 rfl rfl (by simp [Value.oneCell']) rfl (fun w h => ?_)
              | refine L_storeBlk h (i := 1) (vs := [.int .i64 _, .int .i64 _]) rfl sz37 rfl rfl (by simp [Value.oneCell']) rfl (fun w h => ?_)
              | refine L_storeBlk h (i := 2) (vs := [.int .i64 _, .int .i64 _]) rfl sz37 rfl rfl (by simp [Value.oneCell']) rfl (fun w h => ?_)
              | refine L_storeBlk h (i := 3) (vs := [.int .i64 _, .int .i64 _]) rfl sz37 rfl rfl (by simp [Value.oneCell']) rfl (fun w h => ?_)
              | refine L_storeBlk h (i := 4) (vs := [.int .i64 _, .int .i64 _]) rfl sz37 rfl rfl (by simp [Value.oneCell']) rfl (fun w h => ?_)
              | refine L_storeBlk h (i := 5) (vs := [.int .i64 _, .int .i64 _]) rfl sz37 rfl rfl (by simp [Value.oneCell']) rfl (fun w h => ?_)
              | refine L_storeBlk h (i := 6) (vs := [.int .i64 _, .int .i64 _]) rfl sz37 rfl rfl (by simp [Value.oneCell']) rfl (fun w h => ?_)
              | refine L_storeBlk h (i := 7) (vs := [.int .i64 _, .int .i64 _]) rfl sz37 rfl rfl (by simp [Value.oneCell']) rfl (fun w h => ?_)
            refine L_nil ?_
            refine T_H 11 (by decide +kernel) rfl ?_
            --- None (Op.store 37 t12 t50)
            first
              | refine L_storeBlk h (i := 0) (vs := [.int .i64 _, .int .i64 _]) rfl sz37 rfl rfl (by simp [Value.oneCell']) rfl (fun w h => ?_)
              | refine L_storeBlk h (i := 1) (vs := [.int .i64 _, .int .i64 _]) rfl sz37 rfl rfl (by simp [Value.oneCell']) rfl (fun w h => ?_)
              | refine L_storeBlk h (i := 2) (vs := [.int .i64 _, .int .i64 _]) rfl sz37 rfl rfl (by simp [Value.oneCell']) rfl (fun w h => ?_)
              | refine L_storeBlk h (i := 3) (vs := [.int .i64 _, .int .i64 _]) rfl sz37 rfl rfl (by simp [Value.oneCell']) rfl (fun w h => ?_)
              | refine L_storeBlk h (i := 4) (vs := [.int .i64 _, .int .i64 _]) rfl sz37 rfl rfl (by simp [Value.oneCell']) rfl (fun w h => ?_)
              | refine L_storeBlk h (i := 5) (vs := [.int .i64 _, .int .i64 _]) rfl sz37 rfl rfl (by simp [Value.oneCell']) rfl (fun w h => ?_)
              | refine L_storeBlk h (i := 6) (vs := [.int .i64 _, .int .i64 _]) rfl sz37 rfl rfl (by simp [Value.oneCell']) rfl (fun w h => ?_)
              | refine L_storeBlk h (i := 7) (vs := [.int .i64 _, .int .i64 _]) rfl sz37 rfl rfl (by simp [Value.oneCell']) rfl (fun w h => ?_)
            refine L_nil ?_
            refine T_end (by decide +kernel) ?_
            exact ⟨(g11, g12), ⟨rfl, rfl, rfl, rfl, rfl, rfl, rfl, rfl, rfl, rfl, trivial⟩, by first | exact h | exact h.up1⟩
      · -- behind
        rintro ⟨g11, g12⟩ w b_ h
        dsimp only at h ⊢
        refine W_join (σ := Unit) (fun _ => [(0, .int .i64 size), (5, .pointer (some ⟨gw, 0, none⟩)), (8, .pointer (some ⟨g8, 0, none⟩)), (9, .slice A39 (ini ++ [lst]).length c39), (10, .int .i64 (((ini ++ [lst]).length : Nat) - 1)), (11, .pointer (some ⟨g11, 0, none⟩)), (32, .slice (some a) ops.length c), (33, .int .i64 ops.length), (34, .int .i64 i)]) (fun _ w => St W (fun k => k < W.heap.size) [blk g11 37 [.int .i64 (nxD size ini lst 1), .int .i64 (nxA size lst 1)], blk g12 37 [.int .i64 (nxD size ini lst (o.2.length + 1)), .int .i64 (nxA size lst (o.2.length + 1))], rowsA 33 5 (.slice A39 (ini ++ [lst]).length c39) (ini ++ [lst]), blk g8 35 [.int .i64 o.1, .slice B o.2.length cb], wrA gw size ini lst] w) ?_ ?_
        · -- ahead
          refine W_seq ?_
          refine W_region ?_   -- region 12
          refine L_op (d_fieldAddrB fa37_0 rfl) ?_   -- 51 (Op.fieldAddr 37 t11 0)
          refine L_op (d_loadB sc3 (v := .int .i64 _) rfl (by first | exact (h).cell (i := 0) rfl rfl | exact (h).cell (i := 1) rfl rfl | exact (h).cell (i := 2) rfl rfl | exact (h).cell (i := 3) rfl rfl | exact (h).cell (i := 4) rfl rfl | exact (h).cell (i := 5) rfl rfl | exact (h).cell (i := 6) rfl rfl | exact (h).cell (i := 7) rfl rfl | exact (h).cell (i := 8) rfl rfl)) ?_   -- 52 (Op.load 3 t51)
          refine L_op (d_fieldAddrB fa37_0 rfl) ?_   -- 53 (Op.fieldAddr 37 t12 0)
          refine L_op (d_loadB sc3 (v := .int .i64 _) rfl (by first | exact (h).cell (i := 0) rfl rfl | exact (h).cell (i := 1) rfl rfl | exact (h).cell (i := 2) rfl rfl | exact (h).cell (i := 3) rfl rfl | exact (h).cell (i := 4) rfl rfl | exact (h).cell (i := 5) rfl rfl | exact (h).cell (i := 6) rfl rfl | exact (h).cell (i := 7) rfl rfl | exact (h).cell (i := 8) rfl rfl)) ?_   -- 54 (Op.load 3 t53)
          refine L_op (d_gtr rfl rfl) ?_   -- 55 (Op.binOp BinOp.gtr 3 t52 t54 3)
          refine L_op (d_move (v := .bool _) rfl) ?_   -- 56 (Op.move t55)
          refine L_know (dj := 56) (b := false) rfl (nx_mono hs1 (by omega)) ?_
          refine L_on rfl rfl rfl ?_
          refine L_op (d_fieldAddrB fa37_0 rfl) ?_   -- 57 (Op.fieldAddr 37 t11 0)
          refine L_on rfl rfl rfl ?_
          refine L_op (d_loadB sc3 (v := .int .i64 _) rfl (by first | exact (h).cell (i := 0) rfl rfl | exact (h).cell (i := 1) rfl rfl | exact (h).cell (i := 2) rfl rfl | exact (h).cell (i := 3) rfl rfl | exact (h).cell (i := 4) rfl rfl | exact (h).cell (i := 5) rfl rfl | exact (h).cell (i := 6) rfl rfl | exact (h).cell (i := 7) rfl rfl | exact (h).cell (i := 8) rfl rfl)) ?_   -- 58 (Op.load 3 t57)
          refine L_on rfl rfl rfl ?_
          refine L_op (d_fieldAddrB fa37_0 rfl) ?_   -- 59 (Op.fieldAddr 37 t12 0)
          refine L_on rfl rfl rfl ?_
          refine L_op (d_loadB sc3 (v := .int .i64 _) rfl (by first | exact (h).cell (i := 0) rfl rfl | exact (h).cell (i := 1) rfl rfl | exact (h).cell (i := 2) rfl rfl | exact (h).cell (i := 3) rfl rfl | exact (h).cell (i := 4) rfl rfl | exact (h).cell (i := 5) rfl rfl | exact (h).cell (i := 6) rfl rfl | exact (h).cell (i := 7) rfl rfl | exact (h).cell (i := 8) rfl rfl)) ?_   -- 60 (Op.load 3 t59)
          refine L_on rfl rfl rfl ?_
          refine L_op (d_eql rfl rfl) ?_   -- 61 (Op.binOp BinOp.eql 3 t58 t60 3)
          refine L_on rfl rfl rfl ?_
          refine L_op (d_move (v := .bool _) rfl) ?_   -- 62 (Op.move t61)
          refine L_case (dj := 62) rfl (fun q62 => ?_) (fun q62 => ?_)
          · -- guard 62 true
            refine L_on rfl rfl rfl ?_
            refine L_op (d_fieldAddrB fa37_1 rfl) ?_   -- 63 (Op.fieldAddr 37 t11 1)
            refine L_on rfl rfl rfl ?_
            refine L_op (d_loadB sc3 (v := .int .i64 _) rfl (by first | exact (h).cell (i := 0) rfl rfl | exact (h).cell (i := 1) rfl rfl | exact (h).cell (i := 2) rfl rfl | exact (h).cell (i := 3) rfl rfl | exact (h).cell (i := 4) rfl rfl | exact (h).cell (i := 5) rfl rfl | exact (h).cell (i := 6) rfl rfl | exact (h).cell (i := 7) rfl rfl | exact (h).cell (i := 8) rfl rfl)) ?_   -- 64 (Op.load 3 t63)
            refine L_on rfl rfl rfl ?_
            refine L_op (d_fieldAddrB fa37_1 rfl) ?_   -- 65 (Op.fieldAddr 37 t12 1)
            refine L_on rfl rfl rfl ?_
            refine L_op (d_loadB sc3 (v := .int .i64 _) rfl (by first | exact (h).cell (i := 0) rfl rfl | exact (h).cell (i := 1) rfl rfl | exact (h).cell (i := 2) rfl rfl | exact (h).cell (i := 3) rfl rfl | exact (h).cell (i := 4) rfl rfl | exact (h).cell (i := 5) rfl rfl | exact (h).cell (i := 6) rfl rfl | exact (h).cell (i := 7) rfl rfl | exact (h).cell (i := 8) rfl rfl)) ?_   -- 66 (Op.load 3 t65)
            refine L_on rfl rfl rfl ?_
            refine L_op (d_neq rfl rfl) ?_   -- 67 (Op.binOp BinOp.neq 3 t64 t66 3)
            refine L_on rfl rfl rfl ?_
            refine L_op (d_pick (r := .bool _) rfl rfl) ?_   -- 68 (Op.pick t62 t67 ((false)))
            refine L_op (d_pick (r := .bool _) rfl rfl) ?_   -- 69 (Op.pick t56 ((true)) t68)
            refine L_nil ?_
            refine W_false (congrArg Value.bool (nx_at hs1 (by omega) q62)) ?_
            refine W_skip ?_
            exact ⟨(), ⟨rfl, rfl, rfl, rfl, rfl, rfl, rfl, rfl, rfl, trivial⟩, h⟩
          · -- guard 62 false
            refine L_off rfl rfl rfl ?_   -- 63 (Op.fieldAddr 37 t11 1)
            refine L_off rfl rfl rfl ?_   -- 64 (Op.load 3 t63)
            refine L_off rfl rfl rfl ?_   -- 65 (Op.fieldAddr 37 t12 1)
            refine L_off rfl rfl rfl ?_   -- 66 (Op.load 3 t65)
            refine L_off rfl rfl rfl ?_   -- 67 (Op.binOp BinOp.neq 3 t64 t66 3)
            refine L_on rfl rfl rfl ?_
            refine L_op (d_pick (r := .bool _) rfl rfl) ?_   -- 68 (Op.pick t62 t67 ((false)))
            refine L_op (d_pick (r := .bool _) rfl rfl) ?_   -- 69 (Op.pick t56 ((true)) t68)
            refine L_nil ?_
            refine W_false (rfl) ?_
            refine W_skip ?_
            exact ⟨(), ⟨rfl, rfl, rfl, rfl, rfl, rfl, rfl, rfl, rfl, trivial⟩, h⟩
        · -- behind
          rintro _ w b_ h
          refine W_seq ?_   -- join7: live (0, .append), (5, _), (8, _), (9, _), (10, _), (32, _), (33, _), (34, _)
          refine W_seq ?_
          refine W_region ?_   -- region 14
          refine L_op (d_fieldAddrB fa35_0 rfl) ?_   -- 70 (Op.fieldAddr 35 t8 0)
          refine L_op (d_loadB sc3 (v := .int .i64 _) rfl (by first | exact (h).cell (i := 0) rfl rfl | exact (h).cell (i := 1) rfl rfl | exact (h).cell (i := 2) rfl rfl | exact (h).cell (i := 3) rfl rfl | exact (h).cell (i := 4) rfl rfl | exact (h).cell (i := 5) rfl rfl | exact (h).cell (i := 6) rfl rfl | exact (h).cell (i := 7) rfl rfl | exact (h).cell (i := 8) rfl rfl)) ?_   -- 71 (Op.load 3 t70)
          refine L_op (d_neq rfl rfl) ?_   -- 72 (Op.binOp BinOp.neq 3 t71 ((0)) 3)
          refine L_op (d_move (v := .bool _) rfl) ?_   -- 73 (Op.move t72)
          refine L_case (dj := 73) rfl (fun q73 => ?_) (fun q73 => ?_)
          · -- guard 73 true
            refine L_on rfl rfl rfl ?_
            refine L_op (d_fieldAddrB fa35_0 rfl) ?_   -- 74 (Op.fieldAddr 35 t8 0)
            refine L_on rfl rfl rfl ?_
            refine L_op (d_loadB sc3 (v := .int .i64 _) rfl (by first | exact (h).cell (i := 0) rfl rfl | exact (h).cell (i := 1) rfl rfl | exact (h).cell (i := 2) rfl rfl | exact (h).cell (i := 3) rfl rfl | exact (h).cell (i := 4) rfl rfl | exact (h).cell (i := 5) rfl rfl | exact (h).cell (i := 6) rfl rfl | exact (h).cell (i := 7) rfl rfl | exact (h).cell (i := 8) rfl rfl)) ?_   -- 75 (Op.load 3 t74)
            refine L_on rfl rfl rfl ?_
            refine L_op (d_neq rfl rfl) ?_   -- 76 (Op.binOp BinOp.neq 3 t75 ((1)) 3)
            refine L_op (d_pick (r := .bool _) rfl rfl) ?_   -- 77 (Op.pick t73 t76 ((false)))
            refine L_nil ?_
            refine W_if rfl (fun c77 => ?_) (fun c77 => ?_)
            · -- c77 yes
              refine W_seq ?_   -- join8: live (0, .append), (5, _), (32, _), (33, _), (34, _)
              refine W_seq ?_
              refine W_region ?_   -- region 15
              refine L_op (d_move (v := .pointer _) rfl) ?_   -- 78 (Op.move t5)
              refine L_op (d_fieldAddrB fa35_1 rfl) ?_   -- 79 (Op.fieldAddr 35 t8 1)
              refine L_op (d_loadB sc33 (v := .slice _ _ _) rfl (by first | exact (h).cell (i := 0) rfl rfl | exact (h).cell (i := 1) rfl rfl | exact (h).cell (i := 2) rfl rfl | exact (h).cell (i := 3) rfl rfl | exact (h).cell (i := 4) rfl rfl | exact (h).cell (i := 5) rfl rfl | exact (h).cell (i := 6) rfl rfl | exact (h).cell (i := 7) rfl rfl | exact (h).cell (i := 8) rfl rfl)) ?_   -- 80 (Op.load 33 t79)
              replace h := h.front (i := 4) rfl
              --- 81 (Op.call {(Callee.value (Operand.func 13)), [t78, t80], [25, 33]})
              refine L_callB fn13 rfl (data_calls h hrb hcb (by omega) (by omega) (by omega) (by omega)) ?_
              rintro _ w ⟨rfl, h⟩
              --- 13 (Op.alloc 37)
              refine L_allocB h [.int .i64 0, .int .i64 0] zi37 rfl (fun g13 w h b => ?_)
              --- None (Op.store 37 t13 t81)
              first
                | refine L_storeBlk h (i := 0) (vs := [.int .i64 _, .int .i64 _]) rfl sz37 rfl rfl (by simp [Value.oneCell']) rfl (fun w h => ?_)
                | refine L_storeBlk h (i := 1) (vs := [.int .i64 _, .int .i64 _]) rfl sz37 rfl rfl (by simp [Value.oneCell']) rfl (fun w h => ?_)
                | refine L_storeBlk h (i := 2) (vs := [.int .i64 _, .int .i64 _]) rfl sz37 rfl rfl (by simp [Value.oneCell']) rfl (fun w h => ?_)
                | refine L_storeBlk h (i := 3) (vs := [.int .i64 _, .int .i64 _]) rfl sz37 rfl rfl (by simp [Value.oneCell']) rfl (fun w h => ?_)
                | refine L_storeBlk h (i := 4) (vs := [.int .i64 _, .int .i64 _]) rfl sz37 rfl rfl (by simp [Value.oneCell']) rfl (fun w h => ?_)
                | refine L_storeBlk h (i := 5) (vs := [.int .i64 _, .int .i64 _]) rfl sz37 rfl rfl (by simp [Value.oneCell']) rfl (fun w h => ?_)
                | refine L_storeBlk h (i := 6) (vs := [.int .i64 _, .int .i64 _]) rfl sz37 rfl rfl (by simp [Value.oneCell']) rfl (fun w h => ?_)
                | refine L_storeBlk h (i := 7) (vs := [.int .i64 _, .int .i64 _]) rfl sz37 rfl rfl (by simp [Value.oneCell']) rfl (fun w h => ?_)
              refine L_nil ?_
              refine W_seq ?_
              refine W_region ?_   -- region 16
              refine L_op (by first | exact d_loadBlk ag37 (h) (i := 0) rfl rfl rfl | exact d_loadBlk ag37 (h) (i := 1) rfl rfl rfl | exact d_loadBlk ag37 (h) (i := 2) rfl rfl rfl | exact d_loadBlk ag37 (h) (i := 3) rfl rfl rfl | exact d_loadBlk ag37 (h) (i := 4) rfl rfl rfl | exact d_loadBlk ag37 (h) (i := 5) rfl rfl rfl | exact d_loadBlk ag37 (h) (i := 6) rfl rfl rfl | exact d_loadBlk ag37 (h) (i := 7) rfl rfl rfl | exact d_loadBlk ag37 (h) (i := 8) rfl rfl rfl) ?_   -- 82 (Op.load 37 t13)
              refine L_op (by first | exact d_loadBlk ag37 (h) (i := 0) rfl rfl rfl | exact d_loadBlk ag37 (h) (i := 1) rfl rfl rfl | exact d_loadBlk ag37 (h) (i := 2) rfl rfl rfl | exact d_loadBlk ag37 (h) (i := 3) rfl rfl rfl | exact d_loadBlk ag37 (h) (i := 4) rfl rfl rfl | exact d_loadBlk ag37 (h) (i := 5) rfl rfl rfl | exact d_loadBlk ag37 (h) (i := 6) rfl rfl rfl | exact d_loadBlk ag37 (h) (i := 7) rfl rfl rfl | exact d_loadBlk ag37 (h) (i := 8) rfl rfl rfl) ?_   -- 83 (Op.load 37 t11)
              refine L_op (d_neq2 pair37 rfl rfl) ?_   -- 84 (Op.binOp BinOp.neq 37 t82 t83 37)
              refine L_nil ?_
              refine W_false (congrArg Value.bool (nx_one hs1)) ?_
              refine W_skip ?_
              refine W_exit (X_here ?_)
              refine W_region ?_   -- region 26
              refine L_op (d_add' (has_i64 (by omega) (by omega)) rfl rfl) ?_   -- 148 (Op.binOp BinOp.add 3 t34 ((1)) 3)
              refine L_op (d_move (v := .int .i64 _) rfl) ?_   -- 34 (Op.move t148)
              refine L_nil ?_
              first
                | exact ⟨(i + 1, _, _), ⟨rfl, rfl, rfl, rfl, rfl, trivial⟩, ⟨((((h.front (i := 1) rfl).dropAt (i := 1) rfl).dropAt (i := 1) rfl).dropAt (i := 1) rfl).dropAt (i := 1) rfl |>.dropAt (i := 1) rfl, by dsimp only; omega, hv2⟩, by dsimp only; omega⟩
                | exact ⟨(i + 1, _, _), ⟨rfl, rfl, rfl, rfl, rfl, trivial⟩, ⟨((((h.front (i := 1) rfl).dropAt (i := 1) rfl).dropAt (i := 1) rfl).dropAt (i := 1) rfl).dropAt (i := 1) rfl |>.dropAt (i := 1) rfl |>.dropAt (i := 1) rfl, by dsimp only; omega, hv1⟩, by dsimp only; omega⟩
                | exact ⟨(i + 1, _, _), ⟨rfl, rfl, rfl, rfl, rfl, trivial⟩, ⟨((((h.front (i := 2) rfl).dropAt (i := 1) rfl).dropAt (i := 1) rfl).dropAt (i := 1) rfl).dropAt (i := 1) rfl |>.dropAt (i := 1) rfl |>.dropAt (i := 1) rfl |>.dropAt (i := 1) rfl, by dsimp only; omega, hv1⟩, by dsimp only; omega⟩
            · -- c77 no
              refine W_skip ?_
              refine W_seq ?_
              refine W_region ?_   -- region 18
              refine L_op (d_move (v := .pointer _) rfl) ?_   -- 85 (Op.move t5)
              refine L_op (d_fieldAddrB fa35_1 rfl) ?_   -- 86 (Op.fieldAddr 35 t8 1)
              refine L_op (d_loadB sc33 (v := .slice _ _ _) rfl (by first | exact (h).cell (i := 0) rfl rfl | exact (h).cell (i := 1) rfl rfl | exact (h).cell (i := 2) rfl rfl | exact (h).cell (i := 3) rfl rfl | exact (h).cell (i := 4) rfl rfl | exact (h).cell (i := 5) rfl rfl | exact (h).cell (i := 6) rfl rfl | exact (h).cell (i := 7) rfl rfl | exact (h).cell (i := 8) rfl rfl)) ?_   -- 87 (Op.load 33 t86)
              refine L_op (d_lenB sl33 rfl) ?_   -- 88 (Op.call {(Callee.builtin Builtin.len), [t87], [33]})
              obtain ⟨gr8, c8, A8, k8, hb8, hv8, hk8⟩ : WrR w gw size ini lst := by first | exact wr_reads h (i := 2) rfl | exact wr_reads h (i := 3) rfl | exact wr_reads h (i := 4) rfl
              --- 89 (Op.call {(Callee.value (Operand.func 17)), [t85, t88], [25, 3]})
              refine L_callB fn17 rfl (next_calls hb8 hv8 (by omega) (by omega) (by omega) (by omega) _) ?_
              rintro _ w ⟨rfl, b⟩
              replace h := h.keep b
              --- 14 (Op.alloc 37)
              refine L_allocB h [.int .i64 0, .int .i64 0] zi37 rfl (fun g14 w h b => ?_)
              --- None (Op.store 37 t14 t89)
              first
                | refine L_storeBlk h (i := 0) (vs := [.int .i64 _, .int .i64 _]) rfl sz37 rfl rfl (by simp [Value.oneCell']) rfl (fun w h => ?_)
                | refine L_storeBlk h (i := 1) (vs := [.int .i64 _, .int .i64 _]) rfl sz37 rfl rfl (by simp [Value.oneCell']) rfl (fun w h => ?_)
                | refine L_storeBlk h (i := 2) (vs := [.int .i64 _, .int .i64 _]) rfl sz37 rfl rfl (by simp [Value.oneCell']) rfl (fun w h => ?_)
                | refine L_storeBlk h (i := 3) (vs := [.int .i64 _, .int .i64 _]) rfl sz37 rfl rfl (by simp [Value.oneCell']) rfl (fun w h => ?_)
                | refine L_storeBlk h (i := 4) (vs := [.int .i64 _, .int .i64 _]) rfl sz37 rfl rfl (by simp [Value.oneCell']) rfl (fun w h => ?_)
                | refine L_storeBlk h (i := 5) (vs := [.int .i64 _, .int .i64 _]) rfl sz37 rfl rfl (by simp [Value.oneCell']) rfl (fun w h => ?_)
                | refine L_storeBlk h (i := 6) (vs := [.int .i64 _, .int .i64 _]) rfl sz37 rfl rfl (by simp [Value.oneCell']) rfl (fun w h => ?_)
                | refine L_storeBlk h (i := 7) (vs := [.int .i64 _, .int .i64 _]) rfl sz37 rfl rfl (by simp [Value.oneCell']) rfl (fun w h => ?_)
              refine L_nil ?_
              refine W_seq ?_
              refine W_region ?_   -- region 19
              refine L_op (d_move (v := .pointer _) rfl) ?_   -- 91 (Op.move t5)
              refine L_op (d_fieldAddrB fa35_1 rfl) ?_   -- 92 (Op.fieldAddr 35 t8 1)
              refine L_op (d_loadB sc33 (v := .slice _ _ _) rfl (by first | exact (h).cell (i := 0) rfl rfl | exact (h).cell (i := 1) rfl rfl | exact (h).cell (i := 2) rfl rfl | exact (h).cell (i := 3) rfl rfl | exact (h).cell (i := 4) rfl rfl | exact (h).cell (i := 5) rfl rfl | exact (h).cell (i := 6) rfl rfl | exact (h).cell (i := 7) rfl rfl | exact (h).cell (i := 8) rfl rfl)) ?_   -- 93 (Op.load 33 t92)
              replace h := h.front (i := 5) rfl
              --- 94 (Op.call {(Callee.value (Operand.func 11)), [t91, t93], [25, 33]})
              refine L_callB fn11 rfl (record_calls h hrb (by omega) (by omega) (by omega) (by omega)) ?_
              rintro _ w ⟨rfl, h⟩
              refine L_op (d_move (v := .tuple _) rfl) ?_   -- 90 (Op.move t94)
              refine L_op (d_extract (v := .agg _) rfl rfl) ?_   -- 95 (Op.extract t90 0)
              refine L_op (d_extract (v := .int .i64 _) rfl rfl) ?_   -- 96 (Op.extract t90 1)
              --- 15 (Op.alloc 37)
              refine L_allocB h [.int .i64 0, .int .i64 0] zi37 rfl (fun g15 w h b => ?_)
              --- None (Op.store 37 t15 t95)
              first
                | refine L_storeBlk h (i := 0) (vs := [.int .i64 _, .int .i64 _]) rfl sz37 rfl rfl (by simp [Value.oneCell']) rfl (fun w h => ?_)
                | refine L_storeBlk h (i := 1) (vs := [.int .i64 _, .int .i64 _]) rfl sz37 rfl rfl (by simp [Value.oneCell']) rfl (fun w h => ?_)
                | refine L_storeBlk h (i := 2) (vs := [.int .i64 _, .int .i64 _]) rfl sz37 rfl rfl (by simp [Value.oneCell']) rfl (fun w h => ?_)
                | refine L_storeBlk h (i := 3) (vs := [.int .i64 _, .int .i64 _]) rfl sz37 rfl rfl (by simp [Value.oneCell']) rfl (fun w h => ?_)
                | refine L_storeBlk h (i := 4) (vs := [.int .i64 _, .int .i64 _]) rfl sz37 rfl rfl (by simp [Value.oneCell']) rfl (fun w h => ?_)
                | refine L_storeBlk h (i := 5) (vs := [.int .i64 _, .int .i64 _]) rfl sz37 rfl rfl (by simp [Value.oneCell']) rfl (fun w h => ?_)
                | refine L_storeBlk h (i := 6) (vs := [.int .i64 _, .int .i64 _]) rfl sz37 rfl rfl (by simp [Value.oneCell']) rfl (fun w h => ?_)
                | refine L_storeBlk h (i := 7) (vs := [.int .i64 _, .int .i64 _]) rfl sz37 rfl rfl (by simp [Value.oneCell']) rfl (fun w h => ?_)
              refine L_op (d_assign (v := .int .i64 _) rfl) ?_   -- 16 (Op.assign t96)
              refine L_nil ?_
              refine W_seq ?_   -- join9: live (0, .append), (5, _), (8, _), (9, _), (10, _), (14, _), (15, _), (32, _), (33, _), (34, _)
              refine W_seq ?_
              refine W_region ?_   -- region 20
              refine L_op (d_move (v := .int .i64 _) rfl) ?_   -- 97 (Op.move t16)
              refine L_op (d_neq rfl rfl) ?_   -- 98 (Op.binOp BinOp.neq 26 t97 ((0)) 26)
              refine L_nil ?_
              refine W_if rfl (fun c98 => ?_) (fun c98 => ?_)
              · -- c98 yes
                have hbad2 : o.2.length = 0 ∨ (o.2.length : Int) > size := Decidable.byContradiction fun hc => c98 (by rw [recE, if_neg hc])
                have er1 : recI size ini lst o.2 = ini := by rw [recI, if_pos hbad2]
                have er2 : recL size lst o.2 = lst := by rw [recL, if_pos hbad2]
                rw [er1, er2] at h hv1
                refine W_seq ?_   -- join10: live (0, .append), (5, _), (32, _), (33, _), (34, _)
                refine W_seq ?_
                refine W_region ?_   -- region 21
                refine L_op (d_fieldAddrB fa35_1 rfl) ?_   -- 99 (Op.fieldAddr 35 t8 1)
                refine L_op (d_loadB sc33 (v := .slice _ _ _) rfl (by first | exact (h).cell (i := 0) rfl rfl | exact (h).cell (i := 1) rfl rfl | exact (h).cell (i := 2) rfl rfl | exact (h).cell (i := 3) rfl rfl | exact (h).cell (i := 4) rfl rfl | exact (h).cell (i := 5) rfl rfl | exact (h).cell (i := 6) rfl rfl | exact (h).cell (i := 7) rfl rfl | exact (h).cell (i := 8) rfl rfl)) ?_   -- 100 (Op.load 33 t99)
                refine L_op (d_lenB sl33 rfl) ?_   -- 101 (Op.call {(Callee.builtin Builtin.len), [t100], [33]})
                refine L_op (d_gtr rfl rfl) ?_   -- 102 (Op.binOp BinOp.gtr 3 t101 ((0)) 3)
                refine L_op (d_move (v := .bool _) rfl) ?_   -- 103 (Op.move t102)
                refine L_case (dj := 103) rfl (fun q103 => ?_) (fun q103 => ?_)
                · -- guard 103 true
                  refine L_on rfl rfl rfl ?_
                  refine L_op (d_fieldAddrB fa35_1 rfl) ?_   -- 104 (Op.fieldAddr 35 t8 1)
                  refine L_on rfl rfl rfl ?_
                  refine L_op (d_loadB sc33 (v := .slice _ _ _) rfl (by first | exact (h).cell (i := 0) rfl rfl | exact (h).cell (i := 1) rfl rfl | exact (h).cell (i := 2) rfl rfl | exact (h).cell (i := 3) rfl rfl | exact (h).cell (i := 4) rfl rfl | exact (h).cell (i := 5) rfl rfl | exact (h).cell (i := 6) rfl rfl | exact (h).cell (i := 7) rfl rfl | exact (h).cell (i := 8) rfl rfl)) ?_   -- 105 (Op.load 33 t104)
                  refine L_on rfl rfl rfl ?_
                  refine L_op (d_lenB sl33 rfl) ?_   -- 106 (Op.call {(Callee.builtin Builtin.len), [t105], [33]})
                  refine L_on rfl rfl rfl ?_
                  refine L_op (d_move (v := .int .i64 _) rfl) ?_   -- 107 (Op.move t0)
                  refine L_on rfl rfl rfl ?_
                  refine L_op (d_leq rfl rfl) ?_   -- 108 (Op.binOp BinOp.leq 3 t106 t107 3)
                  refine L_op (d_pick (r := .bool _) rfl rfl) ?_   -- 109 (Op.pick t103 t108 ((false)))
                  refine L_op (d_move (v := .bool _) rfl) ?_   -- 110 (Op.move t109)
                  refine L_know (dj := 110) (b := false) rfl (by have := of_decide_eq_true q103; exact decide_eq_false (by omega)) ?_
                  refine L_on rfl rfl rfl ?_
                  refine L_op (d_move (v := .pointer _) rfl) ?_   -- 111 (Op.move t5)
                  obtain ⟨Aw2, cw2, hbw2, hrw2⟩ := wr_rd h (i := 1) rfl
                  refine L_on rfl rfl rfl ?_
                  --- 112 (Op.call {(Callee.value (Operand.func 16)), [t111], [25]})
                  refine L_callB fn16 rfl (row_calls hbw2 hrw2 (by omega) (fun xs hx => by have := hal xs hx; omega)) ?_
                  rintro v112 w1 hm
                  have b := hm.below
                  replace h := h.take hm
                  obtain ⟨vs112, hvs112, ho112⟩ := rows_open h
                  obtain ⟨A112, c112, rfl, _⟩ := (ho112.rowAt (i := 0) rfl).slice
                  have hr112 := rows_rd hvs112 ho112
                  clear ho112
                  rw [hvs112] at h ⊢
                  refine L_on rfl rfl rfl ?_
                  refine L_op (d_move (v := .slice _ _ _) rfl) ?_   -- 113 (Op.move t9)
                  refine L_on rfl rfl rfl ?_
                  --- 114 (Op.call {(Callee.value (Operand.func 15)), [t112, t113], [29, 29]})
                  refine L_callB fn15 rfl (rows_calls hr112 (rowsA_rd (i := 6) h rfl) (by omega) (fun xs hx => by have := hal xs hx; omega)) ?_
                  rintro _ w ⟨rfl, b⟩
                  replace h := h.keep b
                  refine L_on rfl rfl rfl ?_
                  refine L_op (d_not rfl) ?_   -- 115 (Op.unOp UnOp.not 4 t114)
                  refine L_op (d_pick (r := .bool _) rfl rfl) ?_   -- 116 (Op.pick t110 ((true)) t115)
                  refine L_nil ?_
                  refine W_false (congrArg Value.bool (by simp)) ?_
                  refine W_skip ?_
                  refine W_exit (X_here ?_)
                  refine W_region ?_   -- region 26
                  refine L_op (d_add' (has_i64 (by omega) (by omega)) rfl rfl) ?_   -- 148 (Op.binOp BinOp.add 3 t34 ((1)) 3)
                  refine L_op (d_move (v := .int .i64 _) rfl) ?_   -- 34 (Op.move t148)
                  refine L_nil ?_
                  first
                    | exact ⟨(i + 1, _, _), ⟨rfl, rfl, rfl, rfl, rfl, trivial⟩, ⟨((((h.front (i := 1) rfl).dropAt (i := 1) rfl).dropAt (i := 1) rfl).dropAt (i := 1) rfl).dropAt (i := 1) rfl |>.dropAt (i := 1) rfl, by dsimp only; omega, hv2⟩, by dsimp only; omega⟩
                    | exact ⟨(i + 1, _, _), ⟨rfl, rfl, rfl, rfl, rfl, trivial⟩, ⟨((((h.front (i := 1) rfl).dropAt (i := 1) rfl).dropAt (i := 1) rfl).dropAt (i := 1) rfl).dropAt (i := 1) rfl |>.dropAt (i := 1) rfl |>.dropAt (i := 1) rfl, by dsimp only; omega, hv1⟩, by dsimp only; omega⟩
                    | exact ⟨(i + 1, _, _), ⟨rfl, rfl, rfl, rfl, rfl, trivial⟩, ⟨((((h.front (i := 2) rfl).dropAt (i := 1) rfl).dropAt (i := 1) rfl).dropAt (i := 1) rfl).dropAt (i := 1) rfl |>.dropAt (i := 1) rfl |>.dropAt (i := 1) rfl |>.dropAt (i := 1) rfl, by dsimp only; omega, hv1⟩, by dsimp only; omega⟩
                · -- guard 103 false
                  refine L_off rfl rfl rfl ?_   -- 104 (Op.fieldAddr 35 t8 1)
                  refine L_off rfl rfl rfl ?_   -- 105 (Op.load 33 t104)
                  refine L_off rfl rfl rfl ?_   -- 106 (Op.call {(Callee.builtin Builtin.len), [t105], [33]})
                  refine L_off rfl rfl rfl ?_   -- 107 (Op.move t0)
                  refine L_off rfl rfl rfl ?_   -- 108 (Op.binOp BinOp.leq 3 t106 t107 3)
                  refine L_op (d_pick (r := .bool _) rfl rfl) ?_   -- 109 (Op.pick t103 t108 ((false)))
                  refine L_op (d_move (v := .bool _) rfl) ?_   -- 110 (Op.move t109)
                  refine L_on rfl rfl rfl ?_
                  refine L_op (d_move (v := .pointer _) rfl) ?_   -- 111 (Op.move t5)
                  obtain ⟨Aw2, cw2, hbw2, hrw2⟩ := wr_rd h (i := 1) rfl
                  refine L_on rfl rfl rfl ?_
                  --- 112 (Op.call {(Callee.value (Operand.func 16)), [t111], [25]})
                  refine L_callB fn16 rfl (row_calls hbw2 hrw2 (by omega) (fun xs hx => by have := hal xs hx; omega)) ?_
                  rintro v112 w1 hm
                  have b := hm.below
                  replace h := h.take hm
                  obtain ⟨vs112, hvs112, ho112⟩ := rows_open h
                  obtain ⟨A112, c112, rfl, _⟩ := (ho112.rowAt (i := 0) rfl).slice
                  have hr112 := rows_rd hvs112 ho112
                  clear ho112
                  rw [hvs112] at h ⊢
                  refine L_on rfl rfl rfl ?_
                  refine L_op (d_move (v := .slice _ _ _) rfl) ?_   -- 113 (Op.move t9)
                  refine L_on rfl rfl rfl ?_
                  --- 114 (Op.call {(Callee.value (Operand.func 15)), [t112, t113], [29, 29]})
                  refine L_callB fn15 rfl (rows_calls hr112 (rowsA_rd (i := 6) h rfl) (by omega) (fun xs hx => by have := hal xs hx; omega)) ?_
                  rintro _ w ⟨rfl, b⟩
                  replace h := h.keep b
                  refine L_on rfl rfl rfl ?_
                  refine L_op (d_not rfl) ?_   -- 115 (Op.unOp UnOp.not 4 t114)
                  refine L_op (d_pick (r := .bool _) rfl rfl) ?_   -- 116 (Op.pick t110 ((true)) t115)
                  refine L_nil ?_
                  refine W_false (congrArg Value.bool (by simp)) ?_
                  refine W_skip ?_
                  refine W_exit (X_here ?_)
                  refine W_region ?_   -- region 26
                  refine L_op (d_add' (has_i64 (by omega) (by omega)) rfl rfl) ?_   -- 148 (Op.binOp BinOp.add 3 t34 ((1)) 3)
                  refine L_op (d_move (v := .int .i64 _) rfl) ?_   -- 34 (Op.move t148)
                  refine L_nil ?_
                  first
                    | exact ⟨(i + 1, _, _), ⟨rfl, rfl, rfl, rfl, rfl, trivial⟩, ⟨((((h.front (i := 1) rfl).dropAt (i := 1) rfl).dropAt (i := 1) rfl).dropAt (i := 1) rfl).dropAt (i := 1) rfl |>.dropAt (i := 1) rfl, by dsimp only; omega, hv2⟩, by dsimp only; omega⟩
                    | exact ⟨(i + 1, _, _), ⟨rfl, rfl, rfl, rfl, rfl, trivial⟩, ⟨((((h.front (i := 1) rfl).dropAt (i := 1) rfl).dropAt (i := 1) rfl).dropAt (i := 1) rfl).dropAt (i := 1) rfl |>.dropAt (i := 1) rfl |>.dropAt (i := 1) rfl, by dsimp only; omega, hv1⟩, by dsimp only; omega⟩
                    | exact ⟨(i + 1, _, _), ⟨rfl, rfl, rfl, rfl, rfl, trivial⟩, ⟨((((h.front (i := 2) rfl).dropAt (i := 1) rfl).dropAt (i := 1) rfl).dropAt (i := 1) rfl).dropAt (i := 1) rfl |>.dropAt (i := 1) rfl |>.dropAt (i := 1) rfl |>.dropAt (i := 1) rfl, by dsimp only; omega, hv1⟩, by dsimp only; omega⟩
              · -- c98 no
                obtain ⟨a39, A9, c9, rfl, hl39, _, hr9⟩ := rowsA_rd (i := 5) h rfl ini.length lst (by simp)
                have hg2 : ¬ (o.2.length = 0 ∨ (o.2.length : Int) > size) := fun hc => c98 (by rw [recE, if_pos hc]; decide)
                refine W_skip ?_
                refine W_seq ?_
                refine W_draw [.P, .P, .P, .S, .P, .P, .S, .P, .P, .P, .P, .P] [[], [], [0, 1], [0, 1, 2], [0, 1, 2, 3], [], [5], [5, 6], [0, 1, 2, 3, 4, 5, 6, 7], [], [0, 1, 2, 3, 4, 5, 6, 7, 8, 9], [0, 1, 2, 3, 4, 5, 6, 7, 8, 9, 10]] mixed (by decide +kernel) (fun w b => ?_)   -- region 23
                replace h := h.keep b
                refine T_P 0 rfl (by decide +kernel) (fun w2 => d_move (v := .slice _ _ _) rfl) ?_   -- 117 (Op.move t9)
                refine T_P 1 rfl (by decide +kernel) (fun w2 => d_move (v := .int .i64 _) rfl) ?_   -- 118 (Op.move t10)
                refine T_P 2 rfl (by decide +kernel) (fun w2 => d_ix1 (m := ini.length) sl29 rfl rfl (by omega) (by omega)) ?_   -- 119 (Op.indexAddr 29 t117 t118)
                refine T_S 3 rfl (by decide +kernel) (fun w2 b2 => d_loadB sc33 (v := .slice _ _ _) rfl (cell_keep (cell_keep hl39 b) b2)) ?_   -- 120 (Op.load 33 t119)
                refine T_P 4 rfl (by decide +kernel) (fun w2 => d_lenB sl33 rfl) ?_   -- 121 (Op.call {(Callee.builtin Builtin.len), [t120], [33]})
                refine T_P 5 rfl (by decide +kernel) (fun w2 => d_fieldAddrB fa35_1 rfl) ?_   -- 122 (Op.fieldAddr 35 t8 1)
                refine T_S 6 rfl (by decide +kernel) (fun w2 b2 => d_loadB sc33 (v := .slice _ _ _) rfl (by first | exact (h.keep b2).cell (i := 0) rfl rfl | exact (h.keep b2).cell (i := 1) rfl rfl | exact (h.keep b2).cell (i := 2) rfl rfl | exact (h.keep b2).cell (i := 3) rfl rfl | exact (h.keep b2).cell (i := 4) rfl rfl | exact (h.keep b2).cell (i := 5) rfl rfl | exact (h.keep b2).cell (i := 6) rfl rfl | exact (h.keep b2).cell (i := 7) rfl rfl | exact (h.keep b2).cell (i := 8) rfl rfl)) ?_   -- 123 (Op.load 33 t122)
                refine T_P 7 rfl (by decide +kernel) (fun w2 => d_lenB sl33 rfl) ?_   -- 124 (Op.call {(Callee.builtin Builtin.len), [t123], [33]})
                refine T_P 8 rfl (by decide +kernel) (fun w2 => d_add' (has_i64 (by omega) (by omega)) rfl rfl) ?_   -- 125 (Op.binOp BinOp.add 3 t121 t124 3)
                refine T_P 9 rfl (by decide +kernel) (fun w2 => d_move (v := .int .i64 _) rfl) ?_   -- 126 (Op.move t0)
                refine T_P 10 rfl (by decide +kernel) (fun w2 => d_leq rfl rfl) ?_   -- 127 (Op.binOp BinOp.leq 3 t125 t126 3)
                refine T_P 11 rfl (by decide +kernel) (fun w2 => d_assign (v := .bool _) rfl) ?_   -- 17 (Op.assign t127)
                refine T_end (by decide +kernel) ?_
                refine W_seq ?_
                refine W_region ?_   -- region 24
                refine L_op (by first | exact d_loadBlk ag37 (h) (i := 0) rfl rfl rfl | exact d_loadBlk ag37 (h) (i := 1) rfl rfl rfl | exact d_loadBlk ag37 (h) (i := 2) rfl rfl rfl | exact d_loadBlk ag37 (h) (i := 3) rfl rfl rfl | exact d_loadBlk ag37 (h) (i := 4) rfl rfl rfl | exact d_loadBlk ag37 (h) (i := 5) rfl rfl rfl | exact d_loadBlk ag37 (h) (i := 6) rfl rfl rfl | exact d_loadBlk ag37 (h) (i := 7) rfl rfl rfl | exact d_loadBlk ag37 (h) (i := 8) rfl rfl rfl) ?_   -- 128 (Op.load 37 t15)
                refine L_op (by first | exact d_loadBlk ag37 (h) (i := 0) rfl rfl rfl | exact d_loadBlk ag37 (h) (i := 1) rfl rfl rfl | exact d_loadBlk ag37 (h) (i := 2) rfl rfl rfl | exact d_loadBlk ag37 (h) (i := 3) rfl rfl rfl | exact d_loadBlk ag37 (h) (i := 4) rfl rfl rfl | exact d_loadBlk ag37 (h) (i := 5) rfl rfl rfl | exact d_loadBlk ag37 (h) (i := 6) rfl rfl rfl | exact d_loadBlk ag37 (h) (i := 7) rfl rfl rfl | exact d_loadBlk ag37 (h) (i := 8) rfl rfl rfl) ?_   -- 129 (Op.load 37 t14)
                refine L_op (d_neq2 pair37 rfl rfl) ?_   -- 130 (Op.binOp BinOp.neq 37 t128 t129 37)
                refine L_op (d_move (v := .bool _) rfl) ?_   -- 131 (Op.move t130)
                refine L_know (dj := 131) (b := false) rfl (nx_rec hs1 hg2) ?_
                refine L_on rfl rfl rfl ?_
                refine L_op (d_move (v := .bool _) rfl) ?_   -- 132 (Op.move t17)
                refine L_on rfl rfl rfl ?_
                refine L_op (d_fieldAddrB fa37_0 rfl) ?_   -- 133 (Op.fieldAddr 37 t15 0)
                refine L_on rfl rfl rfl ?_
                refine L_op (d_loadB sc3 (v := .int .i64 _) rfl (by first | exact (h).cell (i := 0) rfl rfl | exact (h).cell (i := 1) rfl rfl | exact (h).cell (i := 2) rfl rfl | exact (h).cell (i := 3) rfl rfl | exact (h).cell (i := 4) rfl rfl | exact (h).cell (i := 5) rfl rfl | exact (h).cell (i := 6) rfl rfl | exact (h).cell (i := 7) rfl rfl | exact (h).cell (i := 8) rfl rfl)) ?_   -- 134 (Op.load 3 t133)
                refine L_on rfl rfl rfl ?_
                refine L_op (d_move (v := .int .i64 _) rfl) ?_   -- 135 (Op.move t10)
                refine L_on rfl rfl rfl ?_
                refine L_op (d_eql rfl rfl) ?_   -- 136 (Op.binOp BinOp.eql 3 t134 t135 3)
                refine L_on rfl rfl rfl ?_
                refine L_op (d_neqBool bool4 rfl rfl) ?_   -- 137 (Op.binOp BinOp.neq 4 t132 t136 4)
                refine L_op (d_pick (r := .bool _) rfl rfl) ?_   -- 138 (Op.pick t131 ((true)) t137)
                refine L_op (d_move (v := .bool _) rfl) ?_   -- 139 (Op.move t138)
                refine L_know (dj := 139) (b := false) rfl (nx_fits hs1 hg2) ?_
                refine L_on rfl rfl rfl ?_
                refine L_op (d_move (v := .bool _) rfl) ?_   -- 140 (Op.move t17)
                refine L_on rfl rfl rfl ?_
                refine L_op (d_not rfl) ?_   -- 141 (Op.unOp UnOp.not 4 t140)
                refine L_on rfl rfl rfl ?_
                refine L_op (d_move (v := .bool _) rfl) ?_   -- 142 (Op.move t141)
                refine L_case (dj := 142) rfl (fun q142 => ?_) (fun q142 => ?_)
                · -- guard 142 true
                  refine L_on rfl rfl rfl ?_
                  refine L_op (d_fieldAddrB fa37_1 rfl) ?_   -- 143 (Op.fieldAddr 37 t15 1)
                  refine L_on rfl rfl rfl ?_
                  refine L_op (d_loadB sc3 (v := .int .i64 _) rfl (by first | exact (h).cell (i := 0) rfl rfl | exact (h).cell (i := 1) rfl rfl | exact (h).cell (i := 2) rfl rfl | exact (h).cell (i := 3) rfl rfl | exact (h).cell (i := 4) rfl rfl | exact (h).cell (i := 5) rfl rfl | exact (h).cell (i := 6) rfl rfl | exact (h).cell (i := 7) rfl rfl | exact (h).cell (i := 8) rfl rfl)) ?_   -- 144 (Op.load 3 t143)
                  refine L_on rfl rfl rfl ?_
                  refine L_op (d_neq rfl rfl) ?_   -- 145 (Op.binOp BinOp.neq 3 t144 ((0)) 3)
                  refine L_on rfl rfl rfl ?_
                  refine L_op (d_pick (r := .bool _) rfl rfl) ?_   -- 146 (Op.pick t142 t145 ((false)))
                  refine L_op (d_pick (r := .bool _) rfl rfl) ?_   -- 147 (Op.pick t139 ((true)) t146)
                  refine L_nil ?_
                  refine W_false (congrArg Value.bool (nx_new hg2 q142)) ?_
                  refine W_skip ?_
                  refine W_region ?_   -- region 26
                  refine L_op (d_add' (has_i64 (by omega) (by omega)) rfl rfl) ?_   -- 148 (Op.binOp BinOp.add 3 t34 ((1)) 3)
                  refine L_op (d_move (v := .int .i64 _) rfl) ?_   -- 34 (Op.move t148)
                  refine L_nil ?_
                  first
                    | exact ⟨(i + 1, _, _), ⟨rfl, rfl, rfl, rfl, rfl, trivial⟩, ⟨((((h.front (i := 1) rfl).dropAt (i := 1) rfl).dropAt (i := 1) rfl).dropAt (i := 1) rfl).dropAt (i := 1) rfl |>.dropAt (i := 1) rfl, by dsimp only; omega, hv2⟩, by dsimp only; omega⟩
                    | exact ⟨(i + 1, _, _), ⟨rfl, rfl, rfl, rfl, rfl, trivial⟩, ⟨((((h.front (i := 1) rfl).dropAt (i := 1) rfl).dropAt (i := 1) rfl).dropAt (i := 1) rfl).dropAt (i := 1) rfl |>.dropAt (i := 1) rfl |>.dropAt (i := 1) rfl, by dsimp only; omega, hv1⟩, by dsimp only; omega⟩
                    | exact ⟨(i + 1, _, _), ⟨rfl, rfl, rfl, rfl, rfl, trivial⟩, ⟨((((h.front (i := 2) rfl).dropAt (i := 1) rfl).dropAt (i := 1) rfl).dropAt (i := 1) rfl).dropAt (i := 1) rfl |>.dropAt (i := 1) rfl |>.dropAt (i := 1) rfl |>.dropAt (i := 1) rfl, by dsimp only; omega, hv1⟩, by dsimp only; omega⟩
                · -- guard 142 false
                  refine L_off rfl rfl rfl ?_   -- 143 (Op.fieldAddr 37 t15 1)
                  refine L_off rfl rfl rfl ?_   -- 144 (Op.load 3 t143)
                  refine L_off rfl rfl rfl ?_   -- 145 (Op.binOp BinOp.neq 3 t144 ((0)) 3)
                  refine L_on rfl rfl rfl ?_
                  refine L_op (d_pick (r := .bool _) rfl rfl) ?_   -- 146 (Op.pick t142 t145 ((false)))
                  refine L_op (d_pick (r := .bool _) rfl rfl) ?_   -- 147 (Op.pick t139 ((true)) t146)
                  refine L_nil ?_
                  refine W_false (rfl) ?_
                  refine W_skip ?_
                  refine W_region ?_   -- region 26
                  refine L_op (d_add' (has_i64 (by omega) (by omega)) rfl rfl) ?_   -- 148 (Op.binOp BinOp.add 3 t34 ((1)) 3)
                  refine L_op (d_move (v := .int .i64 _) rfl) ?_   -- 34 (Op.move t148)
                  refine L_nil ?_
                  first
                    | exact ⟨(i + 1, _, _), ⟨rfl, rfl, rfl, rfl, rfl, trivial⟩, ⟨((((h.front (i := 1) rfl).dropAt (i := 1) rfl).dropAt (i := 1) rfl).dropAt (i := 1) rfl).dropAt (i := 1) rfl |>.dropAt (i := 1) rfl, by dsimp only; omega, hv2⟩, by dsimp only; omega⟩
                    | exact ⟨(i + 1, _, _), ⟨rfl, rfl, rfl, rfl, rfl, trivial⟩, ⟨((((h.front (i := 1) rfl).dropAt (i := 1) rfl).dropAt (i := 1) rfl).dropAt (i := 1) rfl).dropAt (i := 1) rfl |>.dropAt (i := 1) rfl |>.dropAt (i := 1) rfl, by dsimp only; omega, hv1⟩, by dsimp only; omega⟩
                    | exact ⟨(i + 1, _, _), ⟨rfl, rfl, rfl, rfl, rfl, trivial⟩, ⟨((((h.front (i := 2) rfl).dropAt (i := 1) rfl).dropAt (i := 1) rfl).dropAt (i := 1) rfl).dropAt (i := 1) rfl |>.dropAt (i := 1) rfl |>.dropAt (i := 1) rfl |>.dropAt (i := 1) rfl, by dsimp only; omega, hv1⟩, by dsimp only; omega⟩
          · -- guard 73 false
            refine L_off rfl rfl rfl ?_   -- 74 (Op.fieldAddr 35 t8 0)
            refine L_off rfl rfl rfl ?_   -- 75 (Op.load 3 t74)
            refine L_off rfl rfl rfl ?_   -- 76 (Op.binOp BinOp.neq 3 t75 ((1)) 3)
            refine L_op (d_pick (r := .bool _) rfl rfl) ?_   -- 77 (Op.pick t73 t76 ((false)))
            refine L_nil ?_
            refine W_false (rfl) ?_
            refine W_skip ?_
            refine W_seq ?_
            refine W_region ?_   -- region 18
            refine L_op (d_move (v := .pointer _) rfl) ?_   -- 85 (Op.move t5)
            refine L_op (d_fieldAddrB fa35_1 rfl) ?_   -- 86 (Op.fieldAddr 35 t8 1)
            refine L_op (d_loadB sc33 (v := .slice _ _ _) rfl (by first | exact (h).cell (i := 0) rfl rfl | exact (h).cell (i := 1) rfl rfl | exact (h).cell (i := 2) rfl rfl | exact (h).cell (i := 3) rfl rfl | exact (h).cell (i := 4) rfl rfl | exact (h).cell (i := 5) rfl rfl | exact (h).cell (i := 6) rfl rfl | exact (h).cell (i := 7) rfl rfl | exact (h).cell (i := 8) rfl rfl)) ?_   -- 87 (Op.load 33 t86)
            refine L_op (d_lenB sl33 rfl) ?_   -- 88 (Op.call {(Callee.builtin Builtin.len), [t87], [33]})
            obtain ⟨gr8, c8, A8, k8, hb8, hv8, hk8⟩ : WrR w gw size ini lst := by first | exact wr_reads h (i := 2) rfl | exact wr_reads h (i := 3) rfl | exact wr_reads h (i := 4) rfl
            --- 89 (Op.call {(Callee.value (Operand.func 17)), [t85, t88], [25, 3]})
            refine L_callB fn17 rfl (next_calls hb8 hv8 (by omega) (by omega) (by omega) (by omega) _) ?_
            rintro _ w ⟨rfl, b⟩
            replace h := h.keep b
            --- 14 (Op.alloc 37)
            refine L_allocB h [.int .i64 0, .int .i64 0] zi37 rfl (fun g14 w h b => ?_)
            --- None (Op.store 37 t14 t89)
            first
              | refine L_storeBlk h (i := 0) (vs := [.int .i64 _, .int .i64 _]) rfl sz37 rfl rfl (by simp [Value.oneCell']) rfl (fun w h => ?_)
              | refine L_storeBlk h (i := 1) (vs := [.int .i64 _, .int .i64 _]) rfl sz37 rfl rfl (by simp [Value.oneCell']) rfl (fun w h => ?_)
              | refine L_storeBlk h (i := 2) (vs := [.int .i64 _, .int .i64 _]) rfl sz37 rfl rfl (by simp [Value.oneCell']) rfl (fun w h => ?_)
              | refine L_storeBlk h (i := 3) (vs := [.int .i64 _, .int .i64 _]) rfl sz37 rfl rfl (by simp [Value.oneCell']) rfl (fun w h => ?_)
              | refine L_storeBlk h (i := 4) (vs := [.int .i64 _, .int .i64 _]) rfl sz37 rfl rfl (by simp [Value.oneCell']) rfl (fun w h => ?_)
              | refine L_storeBlk h (i := 5) (vs := [.int .i64 _, .int .i64 _]) rfl sz37 rfl rfl (by simp [Value.oneCell']) rfl (fun w h => ?_)
              | refine L_storeBlk h (i := 6) (vs := [.int .i64 _, .int .i64 _]) rfl sz37 rfl rfl (by simp [Value.oneCell']) rfl (fun w h => ?_)
              | refine L_storeBlk h (i := 7) (vs := [.int .i64 _, .int .i64 _]) rfl sz37 rfl rfl (by simp [Value.oneCell']) rfl (fun w h => ?_)
            refine L_nil ?_
            refine W_seq ?_
            refine W_region ?_   -- region 19
            refine L_op (d_move (v := .pointer _) rfl) ?_   -- 91 (Op.move t5)
            refine L_op (d_fieldAddrB fa35_1 rfl) ?_   -- 92 (Op.fieldAddr 35 t8 1)
            refine L_op (d_loadB sc33 (v := .slice _ _ _) rfl (by first | exact (h).cell (i := 0) rfl rfl | exact (h).cell (i := 1) rfl rfl | exact (h).cell (i := 2) rfl rfl | exact (h).cell (i := 3) rfl rfl | exact (h).cell (i := 4) rfl rfl | exact (h).cell (i := 5) rfl rfl | exact (h).cell (i := 6) rfl rfl | exact (h).cell (i := 7) rfl rfl | exact (h).cell (i := 8) rfl rfl)) ?_   -- 93 (Op.load 33 t92)
            replace h := h.front (i := 5) rfl
            --- 94 (Op.call {(Callee.value (Operand.func 11)), [t91, t93], [25, 33]})
            refine L_callB fn11 rfl (record_calls h hrb (by omega) (by omega) (by omega) (by omega)) ?_
            rintro _ w ⟨rfl, h⟩
            refine L_op (d_move (v := .tuple _) rfl) ?_   -- 90 (Op.move t94)
            refine L_op (d_extract (v := .agg _) rfl rfl) ?_   -- 95 (Op.extract t90 0)
            refine L_op (d_extract (v := .int .i64 _) rfl rfl) ?_   -- 96 (Op.extract t90 1)
            --- 15 (Op.alloc 37)
            refine L_allocB h [.int .i64 0, .int .i64 0] zi37 rfl (fun g15 w h b => ?_)
            --- None (Op.store 37 t15 t95)
            first
              | refine L_storeBlk h (i := 0) (vs := [.int .i64 _, .int .i64 _]) rfl sz37 rfl rfl (by simp [Value.oneCell']) rfl (fun w h => ?_)
              | refine L_storeBlk h (i := 1) (vs := [.int .i64 _, .int .i64 _]) rfl sz37 rfl rfl (by simp [Value.oneCell']) rfl (fun w h => ?_)
              | refine L_storeBlk h (i := 2) (vs := [.int .i64 _, .int .i64 _]) rfl sz37 rfl rfl (by simp [Value.oneCell']) rfl (fun w h => ?_)
              | refine L_storeBlk h (i := 3) (vs := [.int .i64 _, .int .i64 _]) rfl sz37 rfl rfl (by simp [Value.oneCell']) rfl (fun w h => ?_)
              | refine L_storeBlk h (i := 4) (vs := [.int .i64 _, .int .i64 _]) rfl sz37 rfl rfl (by simp [Value.oneCell']) rfl (fun w h => ?_)
              | refine L_storeBlk h (i := 5) (vs := [.int .i64 _, .int .i64 _]) rfl sz37 rfl rfl (by simp [Value.oneCell']) rfl (fun w h => ?_)
              | refine L_storeBlk h (i := 6) (vs := [.int .i64 _, .int .i64 _]) rfl sz37 rfl rfl (by simp [Value.oneCell']) rfl (fun w h => ?_)
              | refine L_storeBlk h (i := 7) (vs := [.int .i64 _, .int .i64 _]) rfl sz37 rfl rfl (by simp [Value.oneCell']) rfl (fun w h => ?_)
            refine L_op (d_assign (v := .int .i64 _) rfl) ?_   -- 16 (Op.assign t96)
            refine L_nil ?_
            refine W_seq ?_   -- join11: live (0, .append), (5, _), (8, _), (9, _), (10, _), (14, _), (15, _), (32, _), (33, _), (34, _)
            refine W_seq ?_
            refine W_region ?_   -- region 20
            refine L_op (d_move (v := .int .i64 _) rfl) ?_   -- 97 (Op.move t16)
            refine L_op (d_neq rfl rfl) ?_   -- 98 (Op.binOp BinOp.neq 26 t97 ((0)) 26)
            refine L_nil ?_
            refine W_if rfl (fun c98 => ?_) (fun c98 => ?_)
            · -- c98 yes
              have hbad2 : o.2.length = 0 ∨ (o.2.length : Int) > size := Decidable.byContradiction fun hc => c98 (by rw [recE, if_neg hc])
              have er1 : recI size ini lst o.2 = ini := by rw [recI, if_pos hbad2]
              have er2 : recL size lst o.2 = lst := by rw [recL, if_pos hbad2]
              rw [er1, er2] at h hv1
              refine W_seq ?_   -- join12: live (0, .append), (5, _), (32, _), (33, _), (34, _)
              refine W_seq ?_
              refine W_region ?_   -- region 21
              refine L_op (d_fieldAddrB fa35_1 rfl) ?_   -- 99 (Op.fieldAddr 35 t8 1)
              refine L_op (d_loadB sc33 (v := .slice _ _ _) rfl (by first | exact (h).cell (i := 0) rfl rfl | exact (h).cell (i := 1) rfl rfl | exact (h).cell (i := 2) rfl rfl | exact (h).cell (i := 3) rfl rfl | exact (h).cell (i := 4) rfl rfl | exact (h).cell (i := 5) rfl rfl | exact (h).cell (i := 6) rfl rfl | exact (h).cell (i := 7) rfl rfl | exact (h).cell (i := 8) rfl rfl)) ?_   -- 100 (Op.load 33 t99)
              refine L_op (d_lenB sl33 rfl) ?_   -- 101 (Op.call {(Callee.builtin Builtin.len), [t100], [33]})
              refine L_op (d_gtr rfl rfl) ?_   -- 102 (Op.binOp BinOp.gtr 3 t101 ((0)) 3)
              refine L_op (d_move (v := .bool _) rfl) ?_   -- 103 (Op.move t102)
              refine L_case (dj := 103) rfl (fun q103 => ?_) (fun q103 => ?_)
              · -- guard 103 true
                refine L_on rfl rfl rfl ?_
                refine L_op (d_fieldAddrB fa35_1 rfl) ?_   -- 104 (Op.fieldAddr 35 t8 1)
                refine L_on rfl rfl rfl ?_
                refine L_op (d_loadB sc33 (v := .slice _ _ _) rfl (by first | exact (h).cell (i := 0) rfl rfl | exact (h).cell (i := 1) rfl rfl | exact (h).cell (i := 2) rfl rfl | exact (h).cell (i := 3) rfl rfl | exact (h).cell (i := 4) rfl rfl | exact (h).cell (i := 5) rfl rfl | exact (h).cell (i := 6) rfl rfl | exact (h).cell (i := 7) rfl rfl | exact (h).cell (i := 8) rfl rfl)) ?_   -- 105 (Op.load 33 t104)
                refine L_on rfl rfl rfl ?_
                refine L_op (d_lenB sl33 rfl) ?_   -- 106 (Op.call {(Callee.builtin Builtin.len), [t105], [33]})
                refine L_on rfl rfl rfl ?_
                refine L_op (d_move (v := .int .i64 _) rfl) ?_   -- 107 (Op.move t0)
                refine L_on rfl rfl rfl ?_
                refine L_op (d_leq rfl rfl) ?_   -- 108 (Op.binOp BinOp.leq 3 t106 t107 3)
                refine L_op (d_pick (r := .bool _) rfl rfl) ?_   -- 109 (Op.pick t103 t108 ((false)))
                refine L_op (d_move (v := .bool _) rfl) ?_   -- 110 (Op.move t109)
                refine L_know (dj := 110) (b := false) rfl (by have := of_decide_eq_true q103; exact decide_eq_false (by omega)) ?_
                refine L_on rfl rfl rfl ?_
                refine L_op (d_move (v := .pointer _) rfl) ?_   -- 111 (Op.move t5)
                obtain ⟨Aw2, cw2, hbw2, hrw2⟩ := wr_rd h (i := 1) rfl
                refine L_on rfl rfl rfl ?_
                --- 112 (Op.call {(Callee.value (Operand.func 16)), [t111], [25]})
                refine L_callB fn16 rfl (row_calls hbw2 hrw2 (by omega) (fun xs hx => by have := hal xs hx; omega)) ?_
                rintro v112 w1 hm
                have b := hm.below
                replace h := h.take hm
                obtain ⟨vs112, hvs112, ho112⟩ := rows_open h
                obtain ⟨A112, c112, rfl, _⟩ := (ho112.rowAt (i := 0) rfl).slice
                have hr112 := rows_rd hvs112 ho112
                clear ho112
                rw [hvs112] at h ⊢
                refine L_on rfl rfl rfl ?_
                refine L_op (d_move (v := .slice _ _ _) rfl) ?_   -- 113 (Op.move t9)
                refine L_on rfl rfl rfl ?_
                --- 114 (Op.call {(Callee.value (Operand.func 15)), [t112, t113], [29, 29]})
                refine L_callB fn15 rfl (rows_calls hr112 (rowsA_rd (i := 6) h rfl) (by omega) (fun xs hx => by have := hal xs hx; omega)) ?_
                rintro _ w ⟨rfl, b⟩
                replace h := h.keep b
                refine L_on rfl rfl rfl ?_
                refine L_op (d_not rfl) ?_   -- 115 (Op.unOp UnOp.not 4 t114)
                refine L_op (d_pick (r := .bool _) rfl rfl) ?_   -- 116 (Op.pick t110 ((true)) t115)
                refine L_nil ?_
                refine W_false (congrArg Value.bool (by simp)) ?_
                refine W_skip ?_
                refine W_exit (X_here ?_)
                refine W_region ?_   -- region 26
                refine L_op (d_add' (has_i64 (by omega) (by omega)) rfl rfl) ?_   -- 148 (Op.binOp BinOp.add 3 t34 ((1)) 3)
                refine L_op (d_move (v := .int .i64 _) rfl) ?_   -- 34 (Op.move t148)
                refine L_nil ?_
                first
                  | exact ⟨(i + 1, _, _), ⟨rfl, rfl, rfl, rfl, rfl, trivial⟩, ⟨((((h.front (i := 1) rfl).dropAt (i := 1) rfl).dropAt (i := 1) rfl).dropAt (i := 1) rfl).dropAt (i := 1) rfl |>.dropAt (i := 1) rfl, by dsimp only; omega, hv2⟩, by dsimp only; omega⟩
                  | exact ⟨(i + 1, _, _), ⟨rfl, rfl, rfl, rfl, rfl, trivial⟩, ⟨((((h.front (i := 1) rfl).dropAt (i := 1) rfl).dropAt (i := 1) rfl).dropAt (i := 1) rfl).dropAt (i := 1) rfl |>.dropAt (i := 1) rfl |>.dropAt (i := 1) rfl, by dsimp only; omega, hv1⟩, by dsimp only; omega⟩
                  | exact ⟨(i + 1, _, _), ⟨rfl, rfl, rfl, rfl, rfl, trivial⟩, ⟨((((h.front (i := 2) rfl).dropAt (i := 1) rfl).dropAt (i := 1) rfl).dropAt (i := 1) rfl).dropAt (i := 1) rfl |>.dropAt (i := 1) rfl |>.dropAt (i := 1) rfl |>.dropAt (i := 1) rfl, by dsimp only; omega, hv1⟩, by dsimp only; omega⟩
              · -- guard 103 false
                refine L_off rfl rfl rfl ?_   -- 104 (Op.fieldAddr 35 t8 1)
                refine L_off rfl rfl rfl ?_   -- 105 (Op.load 33 t104)
                refine L_off rfl rfl rfl ?_   -- 106 (Op.call {(Callee.builtin Builtin.len), [t105], [33]})
                refine L_off rfl rfl rfl ?_   -- 107 (Op.move t0)
                refine L_off rfl rfl rfl ?_   -- 108 (Op.binOp BinOp.leq 3 t106 t107 3)
                refine L_op (d_pick (r := .bool _) rfl rfl) ?_   -- 109 (Op.pick t103 t108 ((false)))
                refine L_op (d_move (v := .bool _) rfl) ?_   -- 110 (Op.move t109)
                refine L_on rfl rfl rfl ?_
                refine L_op (d_move (v := .pointer _) rfl) ?_   -- 111 (Op.move t5)
                obtain ⟨Aw2, cw2, hbw2, hrw2⟩ := wr_rd h (i := 1) rfl
                refine L_on rfl rfl rfl ?_
                --- 112 (Op.call {(Callee.value (Operand.func 16)), [t111], [25]})
                refine L_callB fn16 rfl (row_calls hbw2 hrw2 (by omega) (fun xs hx => by have := hal xs hx; omega)) ?_
                rintro v112 w1 hm
                have b := hm.below
                replace h := h.take hm
                obtain ⟨vs112, hvs112, ho112⟩ := rows_open h
                obtain ⟨A112, c112, rfl, _⟩ := (ho112.rowAt (i := 0) rfl).slice
                have hr112 := rows_rd hvs112 ho112
                clear ho112
                rw [hvs112] at h ⊢
                refine L_on rfl rfl rfl ?_
                refine L_op (d_move (v := .slice _ _ _) rfl) ?_   -- 113 (Op.move t9)
                refine L_on rfl rfl rfl ?_
                --- 114 (Op.call {(Callee.value (Operand.func 15)), [t112, t113], [29, 29]})
                refine L_callB fn15 rfl (rows_calls hr112 (rowsA_rd (i := 6) h rfl) (by omega) (fun xs hx => by have := hal xs hx; omega)) ?_
                rintro _ w ⟨rfl, b⟩
                replace h := h.keep b
                refine L_on rfl rfl rfl ?_
                refine L_op (d_not rfl) ?_   -- 115 (Op.unOp UnOp.not 4 t114)
                refine L_op (d_pick (r := .bool _) rfl rfl) ?_   -- 116 (Op.pick t110 ((true)) t115)
                refine L_nil ?_
                refine W_false (congrArg Value.bool (by simp)) ?_
                refine W_skip ?_
                refine W_exit (X_here ?_)
                refine W_region ?_   -- region 26
                refine L_op (d_add' (has_i64 (by omega) (by omega)) rfl rfl) ?_   -- 148 (Op.binOp BinOp.add 3 t34 ((1)) 3)
                refine L_op (d_move (v := .int .i64 _) rfl) ?_   -- 34 (Op.move t148)
                refine L_nil ?_
                first
                  | exact ⟨(i + 1, _, _), ⟨rfl, rfl, rfl, rfl, rfl, trivial⟩, ⟨((((h.front (i := 1) rfl).dropAt (i := 1) rfl).dropAt (i := 1) rfl).dropAt (i := 1) rfl).dropAt (i := 1) rfl |>.dropAt (i := 1) rfl, by dsimp only; omega, hv2⟩, by dsimp only; omega⟩
                  | exact ⟨(i + 1, _, _), ⟨rfl, rfl, rfl, rfl, rfl, trivial⟩, ⟨((((h.front (i := 1) rfl).dropAt (i := 1) rfl).dropAt (i := 1) rfl).dropAt (i := 1) rfl).dropAt (i := 1) rfl |>.dropAt (i := 1) rfl |>.dropAt (i := 1) rfl, by dsimp only; omega, hv1⟩, by dsimp only; omega⟩
                  | exact ⟨(i + 1, _, _), ⟨rfl, rfl, rfl, rfl, rfl, trivial⟩, ⟨((((h.front (i := 2) rfl).dropAt (i := 1) rfl).dropAt (i := 1) rfl).dropAt (i := 1) rfl).dropAt (i := 1) rfl |>.dropAt (i := 1) rfl |>.dropAt (i := 1) rfl |>.dropAt (i := 1) rfl, by dsimp only; omega, hv1⟩, by dsimp only; omega⟩
            · -- c98 no
              obtain ⟨a39, A9, c9, rfl, hl39, _, hr9⟩ := rowsA_rd (i := 5) h rfl ini.length lst (by simp)
              have hg2 : ¬ (o.2.length = 0 ∨ (o.2.length : Int) > size) := fun hc => c98 (by rw [recE, if_pos hc]; decide)
              refine W_skip ?_
              refine W_seq ?_
              refine W_draw [.P, .P, .P, .S, .P, .P, .S, .P, .P, .P, .P, .P] [[], [], [0, 1], [0, 1, 2], [0, 1, 2, 3], [], [5], [5, 6], [0, 1, 2, 3, 4, 5, 6, 7], [], [0, 1, 2, 3, 4, 5, 6, 7, 8, 9], [0, 1, 2, 3, 4, 5, 6, 7, 8, 9, 10]] mixed (by decide +kernel) (fun w b => ?_)   -- region 23
              replace h := h.keep b
              refine T_P 0 rfl (by decide +kernel) (fun w2 => d_move (v := .slice _ _ _) rfl) ?_   -- 117 (Op.move t9)
              refine T_P 1 rfl (by decide +kernel) (fun w2 => d_move (v := .int .i64 _) rfl) ?_   -- 118 (Op.move t10)
              refine T_P 2 rfl (by decide +kernel) (fun w2 => d_ix1 (m := ini.length) sl29 rfl rfl (by omega) (by omega)) ?_   -- 119 (Op.indexAddr 29 t117 t118)
              refine T_S 3 rfl (by decide +kernel) (fun w2 b2 => d_loadB sc33 (v := .slice _ _ _) rfl (cell_keep (cell_keep hl39 b) b2)) ?_   -- 120 (Op.load 33 t119)
              refine T_P 4 rfl (by decide +kernel) (fun w2 => d_lenB sl33 rfl) ?_   -- 121 (Op.call {(Callee.builtin Builtin.len), [t120], [33]})
              refine T_P 5 rfl (by decide +kernel) (fun w2 => d_fieldAddrB fa35_1 rfl) ?_   -- 122 (Op.fieldAddr 35 t8 1)
              refine T_S 6 rfl (by decide +kernel) (fun w2 b2 => d_loadB sc33 (v := .slice _ _ _) rfl (by first | exact (h.keep b2).cell (i := 0) rfl rfl | exact (h.keep b2).cell (i := 1) rfl rfl | exact (h.keep b2).cell (i := 2) rfl rfl | exact (h.keep b2).cell (i := 3) rfl rfl | exact (h.keep b2).cell (i := 4) rfl rfl | exact (h.keep b2).cell (i := 5) rfl rfl | exact (h.keep b2).cell (i := 6) rfl rfl | exact (h.keep b2).cell (i := 7) rfl rfl | exact (h.keep b2).cell (i := 8) rfl rfl)) ?_   -- 123 (Op.load 33 t122)
              refine T_P 7 rfl (by decide +kernel) (fun w2 => d_lenB sl33 rfl) ?_   -- 124 (Op.call {(Callee.builtin Builtin.len), [t123], [33]})
              refine T_P 8 rfl (by decide +kernel) (fun w2 => d_add' (has_i64 (by omega) (by omega)) rfl rfl) ?_   -- 125 (Op.binOp BinOp.add 3 t121 t124 3)
              refine T_P 9 rfl (by decide +kernel) (fun w2 => d_move (v := .int .i64 _) rfl) ?_   -- 126 (Op.move t0)
              refine T_P 10 rfl (by decide +kernel) (fun w2 => d_leq rfl rfl) ?_   -- 127 (Op.binOp BinOp.leq 3 t125 t126 3)
              refine T_P 11 rfl (by decide +kernel) (fun w2 => d_assign (v := .bool _) rfl) ?_   -- 17 (Op.assign t127)
              refine T_end (by decide +kernel) ?_
              refine W_seq ?_
              refine W_region ?_   -- region 24
              refine L_op (by first | exact d_loadBlk ag37 (h) (i := 0) rfl rfl rfl | exact d_loadBlk ag37 (h) (i := 1) rfl rfl rfl | exact d_loadBlk ag37 (h) (i := 2) rfl rfl rfl | exact d_loadBlk ag37 (h) (i := 3) rfl rfl rfl | exact d_loadBlk ag37 (h) (i := 4) rfl rfl rfl | exact d_loadBlk ag37 (h) (i := 5) rfl rfl rfl | exact d_loadBlk ag37 (h) (i := 6) rfl rfl rfl | exact d_loadBlk ag37 (h) (i := 7) rfl rfl rfl | exact d_loadBlk ag37 (h) (i := 8) rfl rfl rfl) ?_   -- 128 (Op.load 37 t15)
              refine L_op (by first | exact d_loadBlk ag37 (h) (i := 0) rfl rfl rfl | exact d_loadBlk ag37 (h) (i := 1) rfl rfl rfl | exact d_loadBlk ag37 (h) (i := 2) rfl rfl rfl | exact d_loadBlk ag37 (h) (i := 3) rfl rfl rfl | exact d_loadBlk ag37 (h) (i := 4) rfl rfl rfl | exact d_loadBlk ag37 (h) (i := 5) rfl rfl rfl | exact d_loadBlk ag37 (h) (i := 6) rfl rfl rfl | exact d_loadBlk ag37 (h) (i := 7) rfl rfl rfl | exact d_loadBlk ag37 (h) (i := 8) rfl rfl rfl) ?_   -- 129 (Op.load 37 t14)
              refine L_op (d_neq2 pair37 rfl rfl) ?_   -- 130 (Op.binOp BinOp.neq 37 t128 t129 37)
              refine L_op (d_move (v := .bool _) rfl) ?_   -- 131 (Op.move t130)
              refine L_know (dj := 131) (b := false) rfl (nx_rec hs1 hg2) ?_
              refine L_on rfl rfl rfl ?_
              refine L_op (d_move (v := .bool _) rfl) ?_   -- 132 (Op.move t17)
              refine L_on rfl rfl rfl ?_
              refine L_op (d_fieldAddrB fa37_0 rfl) ?_   -- 133 (Op.fieldAddr 37 t15 0)
              refine L_on rfl rfl rfl ?_
              refine L_op (d_loadB sc3 (v := .int .i64 _) rfl (by first | exact (h).cell (i := 0) rfl rfl | exact (h).cell (i := 1) rfl rfl | exact (h).cell (i := 2) rfl rfl | exact (h).cell (i := 3) rfl rfl | exact (h).cell (i := 4) rfl rfl | exact (h).cell (i := 5) rfl rfl | exact (h).cell (i := 6) rfl rfl | exact (h).cell (i := 7) rfl rfl | exact (h).cell (i := 8) rfl rfl)) ?_   -- 134 (Op.load 3 t133)
              refine L_on rfl rfl rfl ?_
              refine L_op (d_move (v := .int .i64 _) rfl) ?_   -- 135 (Op.move t10)
              refine L_on rfl rfl rfl ?_
              refine L_op (d_eql rfl rfl) ?_   -- 136 (Op.binOp BinOp.eql 3 t134 t135 3)
              refine L_on rfl rfl rfl ?_
              refine L_op (d_neqBool bool4 rfl rfl) ?_   -- 137 (Op.binOp BinOp.neq 4 t132 t136 4)
              refine L_op (d_pick (r := .bool _) rfl rfl) ?_   -- 138 (Op.pick t131 ((true)) t137)
              refine L_op (d_move (v := .bool _) rfl) ?_   -- 139 (Op.move t138)
              refine L_know (dj := 139) (b := false) rfl (nx_fits hs1 hg2) ?_
              refine L_on rfl rfl rfl ?_
              refine L_op (d_move (v := .bool _) rfl) ?_   -- 140 (Op.move t17)
              refine L_on rfl rfl rfl ?_
              refine L_op (d_not rfl) ?_   -- 141 (Op.unOp UnOp.not 4 t140)
              refine L_on rfl rfl rfl ?_
              refine L_op (d_move (v := .bool _) rfl) ?_   -- 142 (Op.move t141)
              refine L_case (dj := 142) rfl (fun q142 => ?_) (fun q142 => ?_)
              · -- guard 142 true
                refine L_on rfl rfl rfl ?_
                refine L_op (d_fieldAddrB fa37_1 rfl) ?_   -- 143 (Op.fieldAddr 37 t15 1)
                refine L_on rfl rfl rfl ?_
                refine L_op (d_loadB sc3 (v := .int .i64 _) rfl (by first | exact (h).cell (i := 0) rfl rfl | exact (h).cell (i := 1) rfl rfl | exact (h).cell (i := 2) rfl rfl | exact (h).cell (i := 3) rfl rfl | exact (h).cell (i := 4) rfl rfl | exact (h).cell (i := 5) rfl rfl | exact (h).cell (i := 6) rfl rfl | exact (h).cell (i := 7) rfl rfl | exact (h).cell (i := 8) rfl rfl)) ?_   -- 144 (Op.load 3 t143)
                refine L_on rfl rfl rfl ?_
                refine L_op (d_neq rfl rfl) ?_   -- 145 (Op.binOp BinOp.neq 3 t144 ((0)) 3)
                refine L_on rfl rfl rfl ?_
                refine L_op (d_pick (r := .bool _) rfl rfl) ?_   -- 146 (Op.pick t142 t145 ((false)))
                refine L_op (d_pick (r := .bool _) rfl rfl) ?_   -- 147 (Op.pick t139 ((true)) t146)
                refine L_nil ?_
                refine W_false (congrArg Value.bool (nx_new hg2 q142)) ?_
                refine W_skip ?_
                refine W_region ?_   -- region 26
                refine L_op (d_add' (has_i64 (by omega) (by omega)) rfl rfl) ?_   -- 148 (Op.binOp BinOp.add 3 t34 ((1)) 3)
                refine L_op (d_move (v := .int .i64 _) rfl) ?_   -- 34 (Op.move t148)
                refine L_nil ?_
                first
                  | exact ⟨(i + 1, _, _), ⟨rfl, rfl, rfl, rfl, rfl, trivial⟩, ⟨((((h.front (i := 1) rfl).dropAt (i := 1) rfl).dropAt (i := 1) rfl).dropAt (i := 1) rfl).dropAt (i := 1) rfl |>.dropAt (i := 1) rfl, by dsimp only; omega, hv2⟩, by dsimp only; omega⟩
                  | exact ⟨(i + 1, _, _), ⟨rfl, rfl, rfl, rfl, rfl, trivial⟩, ⟨((((h.front (i := 1) rfl).dropAt (i := 1) rfl).dropAt (i := 1) rfl).dropAt (i := 1) rfl).dropAt (i := 1) rfl |>.dropAt (i := 1) rfl |>.dropAt (i := 1) rfl, by dsimp only; omega, hv1⟩, by dsimp only; omega⟩
                  | exact ⟨(i + 1, _, _), ⟨rfl, rfl, rfl, rfl, rfl, trivial⟩, ⟨((((h.front (i := 2) rfl).dropAt (i := 1) rfl).dropAt (i := 1) rfl).dropAt (i := 1) rfl).dropAt (i := 1) rfl |>.dropAt (i := 1) rfl |>.dropAt (i := 1) rfl |>.dropAt (i := 1) rfl, by dsimp only; omega, hv1⟩, by dsimp only; omega⟩
              · -- guard 142 false
                refine L_off rfl rfl rfl ?_   -- 143 (Op.fieldAddr 37 t15 1)
                refine L_off rfl rfl rfl ?_   -- 144 (Op.load 3 t143)
                refine L_off rfl rfl rfl ?_   -- 145 (Op.binOp BinOp.neq 3 t144 ((0)) 3)
                refine L_on rfl rfl rfl ?_
                refine L_op (d_pick (r := .bool _) rfl rfl) ?_   -- 146 (Op.pick t142 t145 ((false)))
                refine L_op (d_pick (r := .bool _) rfl rfl) ?_   -- 147 (Op.pick t139 ((true)) t146)
                refine L_nil ?_
                refine W_false (rfl) ?_
                refine W_skip ?_
                refine W_region ?_   -- region 26
                refine L_op (d_add' (has_i64 (by omega) (by omega)) rfl rfl) ?_   -- 148 (Op.binOp BinOp.add 3 t34 ((1)) 3)
                refine L_op (d_move (v := .int .i64 _) rfl) ?_   -- 34 (Op.move t148)
                refine L_nil ?_
                first
                  | exact ⟨(i + 1, _, _), ⟨rfl, rfl, rfl, rfl, rfl, trivial⟩, ⟨((((h.front (i := 1) rfl).dropAt (i := 1) rfl).dropAt (i := 1) rfl).dropAt (i := 1) rfl).dropAt (i := 1) rfl |>.dropAt (i := 1) rfl, by dsimp only; omega, hv2⟩, by dsimp only; omega⟩
                  | exact ⟨(i + 1, _, _), ⟨rfl, rfl, rfl, rfl, rfl, trivial⟩, ⟨((((h.front (i := 1) rfl).dropAt (i := 1) rfl).dropAt (i := 1) rfl).dropAt (i := 1) rfl).dropAt (i := 1) rfl |>.dropAt (i := 1) rfl |>.dropAt (i := 1) rfl, by dsimp only; omega, hv1⟩, by dsimp only; omega⟩
                  | exact ⟨(i + 1, _, _), ⟨rfl, rfl, rfl, rfl, rfl, trivial⟩, ⟨((((h.front (i := 2) rfl).dropAt (i := 1) rfl).dropAt (i := 1) rfl).dropAt (i := 1) rfl).dropAt (i := 1) rfl |>.dropAt (i := 1) rfl |>.dropAt (i := 1) rfl |>.dropAt (i := 1) rfl, by dsimp only; omega, hv1⟩, by dsimp only; omega⟩
    · -- c35 no
      refine W_exit (X_here ?_)
      refine W_seq ?_
      refine W_region ?_   -- region 27
      refine L_op (d_assign (v := .bool _) rfl) ?_   -- 4 (Op.assign ((true)))
      refine L_nil ?_
      refine W_ret (Ret1 (v1 := .bool _) rfl rfl ?_)
      exact ⟨rfl, h.below⟩
end Go.Proofs.Ytbhjdbkdnandfaa.Sp
