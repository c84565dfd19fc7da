/- Walks of the functions 32,29,16,23,17,24,9, printed by wip/fw/walk.py out of sp2.py. -/
import Derived.Test.YtbhjdbkdnandfaaSp3
namespace Go.Proofs.Ytbhjdbkdnandfaa.Sp
open Go Go.RowKit Go.Fw Go.Fw.Asn Go.Proofs
set_option linter.unusedVariables false
set_option maxRecDepth 100000 in
theorem held_calls (w : World) (n : Int) : Runs Try.prog 32 [.int .i64 n] w (fun v w' => v = .int .i64 (min (max n 0) 8) ∧ Below w.heap.size w w') := by
  have h := St.start w
  refine Runs_of (N := 6) Try.func32 rfl rfl (by simp) ?_
  refine W_seq ?_
  refine W_region ?_   -- region 0
  refine L_op (d_assign (v := .int .i64 _) rfl) ?_   -- 2 (Op.assign ((0)))
  refine L_nil ?_
  refine W_seq ?_
  refine W_region ?_   -- region 1
  refine L_op (d_move (v := .int .i64 _) rfl) ?_   -- 3 (Op.move t0)
  refine L_op (d_max rfl rfl) ?_   -- 4 (Op.call {(Callee.builtin Builtin.max), [t3, ((0))], [3, 3]})
  refine L_op (d_min rfl rfl) ?_   -- 5 (Op.call {(Callee.builtin Builtin.min), [t4, ((8))], [3, 3]})
  refine L_op (d_assign (v := .int .i64 _) rfl) ?_   -- 2 (Op.assign t5)
  refine L_nil ?_
  refine W_ret (Ret1 (v1 := .int .i64 _) rfl rfl ?_)
  exact ⟨rfl, h.below⟩

set_option maxRecDepth 100000 in
theorem clone_calls {w : World} {A : Option Addr} {c : Nat} {xs : List Int} (hr : Rd w A (bys xs)) (hl : xs.length ≤ 140737488355328) :
    Runs Try.prog 29 [.slice A xs.length c] w (fun v w' => Made (row 5 1 v xs.length (bys xs)) w w') := by
  have h := St.start w
  refine Runs_of (N := 8) Try.func29 rfl rfl (by simp) ?_
  refine W_seq ?_
  refine W_region ?_   -- region 0
  refine L_op (d_assign (v := .slice _ _ _) rfl) ?_   -- 2 (Op.assign ((Value.slice none 0 0)))
  refine L_nil ?_
  refine W_seq ?_   -- join1: live (0, s)
  refine W_seq ?_
  refine W_region ?_   -- region 1
  refine L_op (d_move (v := .slice _ _ _) rfl) ?_   -- 3 (Op.move t0)
  refine L_op (d_eqlNil sl33 rfl rfl) ?_   -- 4 (Op.binOp BinOp.eql 33 t3 ((Value.slice none 0 0)) 33)
  refine L_nil ?_
  refine W_cond rfl (fun c4 => ?_) (fun c4 => ?_)
  · -- c4 yes
    refine W_seq ?_
    refine W_region ?_   -- region 2
    refine L_op (d_assign (v := .slice _ _ _) rfl) ?_   -- 2 (Op.assign ((Value.slice none 0 0)))
    refine L_nil ?_
    refine W_ret (Ret1 (v1 := .slice _ _ _) rfl rfl ?_)
    obtain rfl : A = none := by simpa using c4
    obtain rfl : xs = [] := by
      rcases hr with e | ⟨a, e, _⟩
      · simpa [ints] using e
      · cases e
    exact (h.push_nil 5 1).made
  · -- c4 no
    refine W_skip ?_
    refine W_seq ?_
    refine W_region ?_   -- region 3
    --- 5 (Op.buildSlice 33 0 [])
    refine L_buildSlice h [] [] Try.underlying33 zs5 rfl rfl rfl rfl (by decide) (by decide) (fun g5 w h b => ?_)
    refine L_op (d_move (v := .slice _ _ _) rfl) ?_   -- 6 (Op.move t0)
    --- 7 (Op.call {(Callee.builtin Builtin.append), [t5, t6], [33, 33]})
    refine L_appendRd h (i := 0) rfl Try.underlying33 info5 rfl (by decide) (by decide) rfl rfl (by simp [ints]) (hr.keep h.below) (bys_one xs) (by omega) (fun v7 w h => ?_)
    obtain ⟨A7, c7, rfl, _⟩ := (h.rowAt (i := 0) rfl).slice
    refine L_op (d_assign (v := .slice _ _ _) rfl) ?_   -- 2 (Op.assign t7)
    refine L_nil ?_
    refine W_ret (Ret1 (v1 := .slice _ _ _) rfl rfl ?_)
    have h2 : St _ _ [row 5 1 _ (0 + xs.length) ([] ++ bys xs)] w := h
    rw [List.nil_append] at h2
    simp only [Nat.zero_add] at h2 ⊢
    exact h2.made

set_option maxRecDepth 100000 in
theorem row_calls {w : World} {gp c : Nat} {size : Int} {A : Option Addr} {rows : List (List Int)} (hb : w.heap[gp]? = some (.cells [.int .i64 size, .slice A rows.length c].toArray 61 (0, 0))) (hr : RowsRd w A rows) (hl : rows.length ≤ 1000000000001) (hx : ∀ xs ∈ rows, xs.length ≤ 140737488355328) :
    Runs Try.prog 16 [.pointer (some ⟨gp, 0, none⟩)] w (fun v w' => Made (rowsA 33 5 v rows) w w') := by
  have h := rows_nil 33 5 (St.start w)
  refine Runs_of (N := 22) Try.func16 rfl rfl (by simp) ?_
  refine W_seq ?_
  refine W_region ?_   -- region 0
  refine L_op (d_assign (v := .slice _ _ _) rfl) ?_   -- 2 (Op.assign ((Value.slice none 0 0)))
  refine L_nil ?_
  refine W_seq ?_
  refine W_region ?_   -- region 1
  refine L_op (d_assign (v := .slice _ _ _) rfl) ?_   -- 3 (Op.assign ((Value.slice none 0 0)))
  refine L_nil ?_
  refine W_seq ?_   -- join1: live (3, out)
  refine W_seq ?_
  refine W_region ?_   -- region 2
  refine L_op (d_move (v := .pointer _) rfl) ?_   -- 6 (Op.move t0)
  refine L_op (d_nilCheck rfl) ?_   -- 7 (Op.nilCheck t6)
  refine L_op (d_fieldAddrB fa61_1 rfl) ?_   -- 8 (Op.fieldAddr 61 t7 1)
  refine L_op (d_loadB sc29 (v := .slice _ _ _) rfl (blk_cell hb rfl)) ?_   -- 9 (Op.load 29 t8)
  refine L_op (d_lenB sl29 rfl) ?_   -- 10 (Op.call {(Callee.builtin Builtin.len), [t9], [29]})
  refine L_op (d_move (v := .int .i64 _) rfl) ?_   -- 11 (Op.move ((0)))
  refine L_nil ?_
  refine W_block ?_   -- block 0
  refine W_while (σ := Nat × Option Addr × Nat) (0, none, 0) (fun s => [(3, .slice s.2.1 s.1 s.2.2), (9, .slice A rows.length c), (10, .int .i64 rows.length), (11, .int .i64 s.1)])
    (fun s w1 => St w (fun k => k < w.heap.size) [rowsA 33 5 (.slice s.2.1 s.1 s.2.2) (rows.take s.1)] w1 ∧ s.1 ≤ rows.length) (fun s => rows.length - s.1) ⟨rfl, rfl, rfl, rfl, trivial⟩ ⟨h, Nat.zero_le _⟩ ?_
  rintro ⟨i, A3, c3⟩ w1 b_ ⟨h, hi⟩
  dsimp only at h hi ⊢
  refine W_seq ?_
  refine W_region ?_   -- region 3
  refine L_op (d_lss rfl rfl) ?_   -- 12 (Op.binOp BinOp.lss 3 t11 t10 3)
  refine L_nil ?_
  refine W_seq ?_   -- join2: live (3, out), (9, _), (10, _), (11, _)
  refine W_if rfl (fun c12 => ?_) (fun c12 => ?_)
  · -- c12 yes
    have hi2 : i < rows.length := by omega
    obtain ⟨a, A2, c2, rfl, hcell, hle, hrd⟩ := hr.keep h.below i rows[i] (List.getElem?_eq_getElem hi2)
    obtain ⟨vs, hvs, h⟩ := rows_open h
    obtain rfl : i = vs.length := by simp at hvs; omega
    refine W_skip ?_
    refine W_seq ?_   -- join3: live (3, out), (9, _), (10, _), (11, _)
    refine W_block ?_   -- block 1
    refine W_seq ?_
    refine W_region ?_   -- region 4
    refine L_op (d_ix1 (m := vs.length) sl29 rfl rfl rfl hi2) ?_   -- 13 (Op.indexAddr 29 t9 t11)
    refine L_op (d_loadB sc33 (v := .slice _ _ _) rfl (hcell)) ?_   -- 14 (Op.load 33 t13)
    refine L_op (d_assign (v := .slice _ _ _) rfl) ?_   -- 5 (Op.assign t14)
    refine L_nil ?_
    refine W_region ?_   -- region 5
    refine L_op (d_move (v := .slice _ _ _) rfl) ?_   -- 15 (Op.move t3)
    refine L_op (d_move (v := .slice _ _ _) rfl) ?_   -- 16 (Op.move t5)
    --- 17 (Op.call {(Callee.value (Operand.func 29)), [t16], [33]})
    refine L_callB fn29 rfl (clone_calls hrd (hx _ (List.getElem_mem hi2))) ?_
    rintro v17 w2 hm
    replace h := h.take hm
    obtain ⟨A17, c17, rfl, _⟩ := (h.rowAt (i := 0) rfl).slice
    --- 18 (Op.buildSlice 29 1 [(0, t17)])
    refine L_buildSlice h [.slice _ _ _] [.slice _ _ _] Try.underlying29 zs33 rfl rfl rfl rfl (by decide) (by decide) (fun g18 w h b => ?_)
    --- 19 (Op.call {(Callee.builtin Builtin.append), [t15, t18], [29, 29]})
    refine L_appendRd h (i := 2) rfl Try.underlying29 info33 rfl (by decide) (by decide) rfl rfl (by simp) (h.rowAt (i := 0) rfl).rd (by simp [Value.oneCell']) (by omega) (fun v19 w h => ?_)
    obtain ⟨A19, c19, rfl, _⟩ := (h.rowAt (i := 2) rfl).slice
    refine L_op (d_assign (v := .slice _ _ _) rfl) ?_   -- 3 (Op.assign t19)
    refine L_nil ?_
    refine W_region ?_   -- region 6
    refine L_op (d_add' (has_i64 (by omega) (by omega)) rfl rfl) ?_   -- 20 (Op.binOp BinOp.add 3 t11 ((1)) 3)
    refine L_op (d_move (v := .int .i64 _) rfl) ?_   -- 11 (Op.move t20)
    refine L_nil ?_
    refine ⟨(vs.length + 1, A19, c19), ⟨rfl, rfl, rfl, rfl, trivial⟩, ⟨?_, by omega⟩, by dsimp only; omega⟩
    have h3 := rows_snoc hvs ((h.dropAt (i := 0) rfl).up1)
    rwa [List.take_append_getElem hi2] at h3
  · -- c12 no
    refine W_exit (X_here ?_)
    refine W_seq ?_
    refine W_region ?_   -- region 7
    refine L_op (d_move (v := .slice _ _ _) rfl) ?_   -- 21 (Op.move t3)
    refine L_op (d_assign (v := .slice _ _ _) rfl) ?_   -- 2 (Op.assign t21)
    refine L_nil ?_
    refine W_ret (Ret1 (v1 := .slice _ _ _) rfl rfl ?_)
    obtain rfl : i = rows.length := by omega
    rw [List.take_length] at h
    exact h.made

set_option maxRecDepth 100000 in
theorem wclone_calls {w : World} {gp c : Nat} {size : Int} {A : Option Addr} {ini : List (List Int)} {lst : List Int} (hb : w.heap[gp]? = some (.cells [.int .i64 size, .slice A (ini ++ [lst]).length c].toArray 61 (0, 0))) (hr : RowsRd w A (ini ++ [lst])) (hl : (ini ++ [lst]).length ≤ 1000000000001) (hx : ∀ xs ∈ ini ++ [lst], xs.length ≤ 140737488355328) :
    Runs Try.prog 23 [.pointer (some ⟨gp, 0, none⟩)] w (fun v w' => ∃ g, v = .pointer (some ⟨g, 0, none⟩) ∧ Made (wrA g size ini lst) w w') := by
  have h := St.start w
  refine Runs_of (N := 11) Try.func23 rfl rfl (by simp) ?_
  refine W_seq ?_
  refine W_region ?_   -- region 0
  refine L_op (d_assign (v := .pointer _) rfl) ?_   -- 2 (Op.assign ((Value.pointer none)))
  refine L_nil ?_
  refine W_seq ?_
  refine W_draw [.P, .P, .P, .S, .P, .G, .P, .H, .P] [[], [0], [0, 1], [0, 1, 2], [], [4], [0, 1, 2, 3, 4, 5], [0, 1, 2, 3, 4, 5, 6], [0, 1, 2, 3, 4, 5, 6, 7]] mixed (by decide +kernel) (fun w b => ?_)   -- region 1
  replace h := h.keep b
  refine T_P 0 rfl (by decide +kernel) (fun w2 => d_move (v := .pointer _) rfl) ?_   -- 3 (Op.move t0)
  refine T_P 1 rfl (by decide +kernel) (fun w2 => d_nilCheck rfl) ?_   -- 4 (Op.nilCheck t3)
  refine T_P 2 rfl (by decide +kernel) (fun w2 => d_fieldAddrB fa61_0 rfl) ?_   -- 5 (Op.fieldAddr 61 t4 0)
  refine T_S 3 rfl (by decide +kernel) (fun w2 b2 => d_loadB sc3 (v := .int .i64 _) rfl (blk_cell (blk_keep hb (h.keep b2).below) rfl)) ?_   -- 6 (Op.load 3 t5)
  refine T_P 4 rfl (by decide +kernel) (fun w2 => d_move (v := .pointer _) rfl) ?_   -- 7 (Op.move t0)
  refine T_G 5 (by decide +kernel) rfl ?_
  --- 8 (Op.call {(Callee.value (Operand.func 16)), [t7], [25]})
  refine L_callB fn16 rfl (row_calls (blk_keep hb h.below) (hr.keep h.below) hl hx) ?_
  rintro v8 w hm
  have b := hm.below
  replace h := h.take hm
  obtain ⟨vs8, hvs8, h8⟩ := rows_open h
  obtain ⟨A8, c8, rfl, _⟩ := (h8.rowAt (i := 0) rfl).slice
  refine L_nil ⟨b, ?_⟩
  refine T_P 6 rfl (by decide +kernel) (fun w2 => d_build (cs := #[.int .i64 _, .slice _ _ _]) rfl rfl) ?_   -- 9 (Op.build 61 [(0, t6), (1, t8)])
  refine T_H 7 (by decide +kernel) rfl ?_
  --- 10 (Op.box 61 t9)
  refine L_box h [.int .i64 _, .slice _ _ _] rfl rfl (fun g10 w h b => ?_)
  refine L_nil ?_
  refine T_P 8 rfl (by decide +kernel) (fun w2 => d_assign (v := .pointer _) rfl) ?_   -- 2 (Op.assign t10)
  refine T_end (by decide +kernel) ?_
  refine W_ret (Ret1 (v1 := .pointer _) rfl rfl ?_)
  exact ⟨g10, rfl, (wr_of h).made⟩

set_option maxRecDepth 100000 in
theorem next_calls {w : World} {gp gr m c k k' : Nat} {size : Int} {A : Option Addr} (hb : w.heap[gp]? = some (.cells [.int .i64 size, .slice (some ⟨gr, 0, none⟩) (m + 1) c].toArray 61 (0, 0))) (hv : w.cell? ⟨gr, m, none⟩ = some (.slice A k k')) (hm : m ≤ 140737488355327) (hs0 : 0 ≤ size) (hs1 : size ≤ 140737488355328) (hk : k ≤ 140737488355328) (n : Int) :
    Runs Try.prog 17 [.pointer (some ⟨gp, 0, none⟩), .int .i64 n] w (fun v w' => v = .agg #[.int .i64 (if size - k < min (max n 1) size then (m : Int) + 1 else m), .int .i64 (if size - k < min (max n 1) size then 0 else k)] ∧ Below w.heap.size w w') := by
  have h := St.start w
  refine Runs_of (N := 14) Try.func17 rfl rfl (by simp) ?_
  refine W_seq ?_
  refine W_region ?_   -- region 0
  --- 4 (Op.alloc 37)
  refine L_allocB h [.int .i64 0, .int .i64 0] zi37 rfl (fun g4 w h b => ?_)
  refine L_nil ?_
  refine W_seq ?_
  refine W_region ?_   -- region 1
  refine L_op (d_move (v := .pointer _) rfl) ?_   -- 5 (Op.move t0)
  refine L_op (d_move (v := .int .i64 _) rfl) ?_   -- 6 (Op.move t1)
  refine L_op (d_max rfl rfl) ?_   -- 7 (Op.call {(Callee.builtin Builtin.max), [t6, ((1))], [3, 3]})
  refine L_op (d_move (v := .pointer _) rfl) ?_   -- 8 (Op.move t0)
  refine L_op (d_nilCheck rfl) ?_   -- 9 (Op.nilCheck t8)
  refine L_op (d_fieldAddrB fa61_0 rfl) ?_   -- 10 (Op.fieldAddr 61 t9 0)
  refine L_op (d_loadB sc3 (v := .int .i64 _) rfl (blk_cell (blk_keep hb h.below) rfl)) ?_   -- 11 (Op.load 3 t10)
  refine L_op (d_min rfl rfl) ?_   -- 12 (Op.call {(Callee.builtin Builtin.min), [t7, t11], [3, 3]})
  --- 13 (Op.call {(Callee.value (Operand.func 25)), [t5, t12], [25, 3]})
  refine L_callB fn25 rfl (place_calls (blk_keep hb h.below) (cell_keep hv h.below) hm hs0 hs1 hk _) ?_
  rintro _ w ⟨rfl, b⟩
  replace h := h.keep b
  --- None (Op.store 37 t4 t13)
  first
    | refine L_storeBlk h (i := 0) (vs := [.int .i64 _, .int .i64 _]) rfl sz37 rfl rfl (by simp [Value.oneCell']) rfl (fun w h => ?_)
    | refine L_storeBlk h (i := 1) (vs := [.int .i64 _, .int .i64 _]) rfl sz37 rfl rfl (by simp [Value.oneCell']) rfl (fun w h => ?_)
    | refine L_storeBlk h (i := 2) (vs := [.int .i64 _, .int .i64 _]) rfl sz37 rfl rfl (by simp [Value.oneCell']) rfl (fun w h => ?_)
    | refine L_storeBlk h (i := 3) (vs := [.int .i64 _, .int .i64 _]) rfl sz37 rfl rfl (by simp [Value.oneCell']) rfl (fun w h => ?_)
    | refine L_storeBlk h (i := 4) (vs := [.int .i64 _, .int .i64 _]) rfl sz37 rfl rfl (by simp [Value.oneCell']) rfl (fun w h => ?_)
    | refine L_storeBlk h (i := 5) (vs := [.int .i64 _, .int .i64 _]) rfl sz37 rfl rfl (by simp [Value.oneCell']) rfl (fun w h => ?_)
    | refine L_storeBlk h (i := 6) (vs := [.int .i64 _, .int .i64 _]) rfl sz37 rfl rfl (by simp [Value.oneCell']) rfl (fun w h => ?_)
    | refine L_storeBlk h (i := 7) (vs := [.int .i64 _, .int .i64 _]) rfl sz37 rfl rfl (by simp [Value.oneCell']) rfl (fun w h => ?_)
  refine L_nil ?_
  refine W_ret (RetV (resC Try.f17 rfl ag37 h (i := 0) rfl rfl rfl) ⟨rfl, h.below⟩)

set_option maxRecDepth 100000 in
theorem put_calls (w : World) (n size : Int) (hn : 0 ≤ n) :
    Runs Try.prog 24 [.int .u64 n, .int .i64 size] w (fun v w' => Made (row 5 1 v (min (max size 0) 8).toNat (bys (leB (min (max size 0) 8).toNat n))) w w') := by
  have h := (St.start w).push_nil 5 1
  refine Runs_of (N := 19) Try.func24 rfl rfl (by simp) ?_
  refine W_seq ?_
  refine W_region ?_   -- region 0
  refine L_op (d_assign (v := .slice _ _ _) rfl) ?_   -- 4 (Op.assign ((Value.slice none 0 0)))
  refine L_nil ?_
  refine W_seq ?_
  refine W_region ?_   -- region 1
  refine L_op (d_assign (v := .slice _ _ _) rfl) ?_   -- 5 (Op.assign ((Value.slice none 0 0)))
  refine L_nil ?_
  refine W_seq ?_   -- join1: live (5, out)
  refine W_seq ?_
  refine W_region ?_   -- region 2
  refine L_op (d_move (v := .int .i64 _) rfl) ?_   -- 6 (Op.move t1)
  --- 7 (Op.call {(Callee.value (Operand.func 32)), [t6], [3]})
  refine L_callB fn32 rfl (held_calls _ _) ?_
  rintro _ w1 ⟨rfl, b⟩
  replace h := h.keep b
  obtain ⟨k, hk⟩ : ∃ k : Nat, (k : Int) = min (max size 0) 8 := ⟨(min (max size 0) 8).toNat, by omega⟩
  rw [← hk]
  have hk8 : k ≤ 8 := by omega
  have hk1 : (min (max size 0) 8).toNat = k := by omega
  refine L_op (d_move (v := .int .i64 _) rfl) ?_   -- 8 (Op.move ((0)))
  refine L_nil ?_
  refine W_block ?_   -- block 0
  refine W_while (σ := List Int × Int × Option Addr × Nat) ([], n, none, 0) (fun s => [(0, .int .u64 s.2.1), (5, .slice s.2.2.1 s.1.length s.2.2.2), (7, .int .i64 k), (8, .int .i64 s.1.length)])
    (fun s w1 => St w (fun k => k < w.heap.size) [row 5 1 (.slice s.2.2.1 s.1.length s.2.2.2) s.1.length (bys s.1)] w1 ∧ s.1.length ≤ k ∧ 0 ≤ s.2.1 ∧ s.1 ++ leB (k - s.1.length) s.2.1 = leB k n) (fun s => k - s.1.length) ⟨rfl, rfl, rfl, rfl, trivial⟩ ⟨h, Nat.zero_le _, hn, rfl⟩ ?_
  rintro ⟨xs, m, A3, c3⟩ w1 b_ ⟨h, hi, hm, hf⟩
  dsimp only at h hi hm hf ⊢
  refine W_seq ?_
  refine W_region ?_   -- region 3
  refine L_op (d_lss rfl rfl) ?_   -- 9 (Op.binOp BinOp.lss 3 t8 t7 3)
  refine L_nil ?_
  refine W_seq ?_   -- join2: live (0, n), (5, out), (7, _), (8, _)
  refine W_if rfl (fun c9 => ?_) (fun c9 => ?_)
  · -- c9 yes
    refine W_skip ?_
    refine W_seq ?_   -- join3: live (0, n), (5, out), (7, _), (8, _)
    refine W_block ?_   -- block 1
    refine W_seq ?_
    refine W_region ?_   -- region 4
    refine L_op (d_move (v := .slice _ _ _) rfl) ?_   -- 10 (Op.move t5)
    refine L_op (d_move (v := .int .u64 _) rfl) ?_   -- 11 (Op.move t0)
    refine L_op (d_convB cv59_5 rfl) ?_   -- 12 (Op.convert 59 5 t11)
    --- 13 (Op.buildSlice 33 1 [(0, t12)])
    refine L_buildSlice h [.int .u8 _] [.int .u8 _] Try.underlying33 zs5 rfl rfl rfl rfl (by decide) (by decide) (fun g13 w h b => ?_)
    --- 14 (Op.call {(Callee.builtin Builtin.append), [t10, t13], [33, 33]})
    refine L_appendRd h (i := 1) rfl Try.underlying33 info5 rfl (by decide) (by decide) rfl rfl (by simp) (h.rowAt (i := 0) rfl).rd (by simp [Value.oneCell']) (by omega) (fun v14 w h => ?_)
    obtain ⟨A14, c14, rfl, _⟩ := (h.rowAt (i := 1) rfl).slice
    refine L_op (d_assign (v := .slice _ _ _) rfl) ?_   -- 5 (Op.assign t14)
    refine L_nil ?_
    refine W_region ?_   -- region 5
    refine L_op (d_move (v := .int .u64 _) rfl) ?_   -- 15 (Op.move t0)
    refine L_op (d_shr (by omega) rfl rfl) ?_   -- 16 (Op.binOp BinOp.shr 59 t15 ((IntKind.u64 8)) 69)
    refine L_op (d_assign (v := .int .u64 _) rfl) ?_   -- 0 (Op.assign t16)
    refine L_nil ?_
    refine W_region ?_   -- region 6
    refine L_op (d_add' (has_i64 (by omega) (by omega)) rfl rfl) ?_   -- 17 (Op.binOp BinOp.add 3 t8 ((1)) 3)
    refine L_op (d_move (v := .int .i64 _) rfl) ?_   -- 8 (Op.move t17)
    refine L_nil ?_
    have e8 : IntKind.u8.wrap m = m % 256 := IntKind.wrap_u8 m
    have e9 : m.fdiv (2 ^ min (8 : Int).toNat IntKind.u64.bits) = m / 256 := by rw [Int.fdiv_eq_ediv_of_nonneg _ (by decide)]; rfl
    refine ⟨(xs ++ [m % 256], m / 256, A14, c14), ⟨by dsimp only; rw [← e9]; rfl, by dsimp only; rw [List.length_append]; rfl, rfl, by dsimp only; rw [List.length_append]; rfl, trivial⟩, ⟨?_, ?_, ?_, ?_⟩, ?_⟩
    · have h3 := h.dropAt (i := 0) rfl
      dsimp only
      rw [List.length_append, bys_append, ← e8]
      exact h3
    · dsimp only; rw [List.length_append]; simp; omega
    · dsimp only; omega
    · dsimp only
      rw [← hf, List.length_append, List.append_assoc]
      congr 1
      have e : k - xs.length = (k - (xs.length + 1)) + 1 := by omega
      rw [e, leB]
      rfl
    · dsimp only; rw [List.length_append]; simp; omega
  · -- c9 no
    refine W_exit (X_here ?_)
    refine W_seq ?_
    refine W_region ?_   -- region 7
    refine L_op (d_move (v := .slice _ _ _) rfl) ?_   -- 18 (Op.move t5)
    refine L_op (d_assign (v := .slice _ _ _) rfl) ?_   -- 4 (Op.assign t18)
    refine L_nil ?_
    refine W_ret (Ret1 (v1 := .slice _ _ _) rfl rfl ?_)
    have e : k - xs.length = 0 := by omega
    rw [e, leB, List.append_nil] at hf
    subst hf
    have e2 : (leB k n).length = k := by omega
    rw [Int.toNat_natCast]
    rw [e2] at h ⊢
    exact h.made

set_option maxRecDepth 100000 in
theorem new_calls (w : World) (size : Int) (hs : -9223372036854775808 ≤ size ∧ size ≤ 9223372036854775807) :
    Runs Try.prog 9 [.int .i64 size] w (fun v w' => if size < 5 ∨ size > 16777216 then v = .tuple #[.pointer none, .int .i64 1] ∧ Below w.heap.size w w' else ∃ g, v = .tuple #[.pointer (some ⟨g, 0, none⟩), .int .i64 0] ∧ Made (wrA g size [] [80, 75, 7, 8]) w w') := by
  have h := St.start w
  refine Runs_of (N := 15) Try.func9 rfl rfl (by simp) ?_
  refine W_seq ?_
  refine W_region ?_   -- region 0
  refine L_op (d_assign (v := .pointer _) rfl) ?_   -- 2 (Op.assign ((Value.pointer none)))
  refine L_op (d_assign (v := .int .i64 _) rfl) ?_   -- 3 (Op.assign ((0)))
  refine L_nil ?_
  refine W_seq ?_   -- join1: live (0, size)
  refine W_seq ?_
  refine W_region ?_   -- region 1
  refine L_op (d_move (v := .int .i64 _) rfl) ?_   -- 4 (Op.move t0)
  refine L_op (d_lss rfl rfl) ?_   -- 5 (Op.binOp BinOp.lss 3 t4 ((5)) 3)
  refine L_op (d_move (v := .bool _) rfl) ?_   -- 6 (Op.move t5)
  refine L_case (dj := 6) rfl (fun q6 => ?_) (fun q6 => ?_)
  · -- guard 6 true
    refine L_off rfl rfl rfl ?_   -- 7 (Op.move t0)
    refine L_off rfl rfl rfl ?_   -- 8 (Op.binOp BinOp.gtr 3 t7 ((16777216)) 3)
    refine L_op (d_pick (r := .bool _) rfl rfl) ?_   -- 9 (Op.pick t6 ((true)) t8)
    refine L_nil ?_
    refine W_true (rfl) ?_
    refine W_seq ?_
    refine W_region ?_   -- region 2
    refine L_op (d_assign (v := .pointer _) rfl) ?_   -- 2 (Op.assign ((Value.pointer none)))
    refine L_op (d_assign (v := .int .i64 _) rfl) ?_   -- 3 (Op.assign ((1)))
    refine L_nil ?_
    refine W_ret (Ret2 (v1 := .pointer _) (v2 := .int .i64 _) rfl rfl rfl ?_)
    rw [if_pos (.inl (of_decide_eq_true q6))]
    exact ⟨rfl, h.below⟩
  · -- guard 6 false
    refine L_on rfl rfl rfl ?_
    refine L_op (d_move (v := .int .i64 _) rfl) ?_   -- 7 (Op.move t0)
    refine L_on rfl rfl rfl ?_
    refine L_op (d_gtr rfl rfl) ?_   -- 8 (Op.binOp BinOp.gtr 3 t7 ((16777216)) 3)
    refine L_op (d_pick (r := .bool _) rfl rfl) ?_   -- 9 (Op.pick t6 ((true)) t8)
    refine L_nil ?_
    refine W_if rfl (fun c9 => ?_) (fun c9 => ?_)
    · -- c9 yes
      refine W_seq ?_
      refine W_region ?_   -- region 2
      refine L_op (d_assign (v := .pointer _) rfl) ?_   -- 2 (Op.assign ((Value.pointer none)))
      refine L_op (d_assign (v := .int .i64 _) rfl) ?_   -- 3 (Op.assign ((1)))
      refine L_nil ?_
      refine W_ret (Ret2 (v1 := .pointer _) (v2 := .int .i64 _) rfl rfl rfl ?_)
      rw [if_pos (.inr c9)]
      exact ⟨rfl, h.below⟩
    · -- c9 no
      refine W_skip ?_
      refine W_seq ?_
      refine W_region ?_   -- region 3
      refine L_op (d_move (v := .int .i64 _) rfl) ?_   -- 10 (Op.move t0)
      --- 11 (Op.call {(Callee.value (Operand.func 24)), [((IntKind.u64 134695760)), ((4))], [59, 3]})
      refine L_callB fn24 rfl (put_calls _ _ _ (by decide)) ?_
      rintro v11 w1 hm
      replace h := h.take hm
      obtain ⟨A11, c11, rfl, _⟩ := (h.rowAt (i := 0) rfl).slice
      --- 12 (Op.buildSlice 29 1 [(0, t11)])
      refine L_buildSlice h [.slice _ _ _] [.slice _ _ _] Try.underlying29 zs33 rfl rfl rfl rfl (by decide) (by decide) (fun g12 w h b => ?_)
      refine L_op (d_build (cs := #[.int .i64 _, .slice _ _ _]) rfl rfl) ?_   -- 13 (Op.build 61 [(0, t10), (1, t12)])
      --- 14 (Op.box 61 t13)
      refine L_box h [.int .i64 _, .slice _ _ _] rfl rfl (fun g14 w h b => ?_)
      refine L_op (d_assign (v := .pointer _) rfl) ?_   -- 2 (Op.assign t14)
      refine L_op (d_assign (v := .int .i64 _) rfl) ?_   -- 3 (Op.assign ((0)))
      refine L_nil ?_
      refine W_ret (Ret2 (v1 := .pointer _) (v2 := .int .i64 _) rfl rfl rfl ?_)
      have hgood : ¬ (size < 5 ∨ size > 16777216) := by
        have := of_decide_eq_false q6
        omega
      rw [if_neg hgood]
      have h2 := h.perm ((List.Perm.swap _ _ _).trans (List.Perm.cons _ (List.Perm.swap _ _ _)))
      have h3 := rows_snoc (E := 33) (e := 5) (rows := []) (vs := []) (ys := [80, 75, 7, 8]) (u := .slice A11 4 c11) (v1 := .slice (some ⟨g12, 0, none⟩) 1 1) (L := [blk g14 61 [.int .i64 size, .slice (some ⟨g12, 0, none⟩) 1 1]]) rfl h2
      exact ⟨g14, rfl, (wr_of (L := []) h3.up1).made⟩
end Go.Proofs.Ytbhjdbkdnandfaa.Sp
