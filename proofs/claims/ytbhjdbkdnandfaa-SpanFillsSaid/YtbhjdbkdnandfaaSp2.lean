/- Walks of the functions 26, printed by wip/fw/walk.py out of sp.py. -/
import Derived.Test.YtbhjdbkdnandfaaSp1
namespace Go.Proofs.Ytbhjdbkdnandfaa.Sp
open Go Go.RowKit Go.Fw Go.Fw.Asn Go.Proofs
set_option linter.unusedVariables false
set_option maxRecDepth 100000 in
theorem lay_calls {w0 w : World} {F : Nat → Prop} {L : List Asn} {gp cb : Nat} {size : Int} {ini : List (List Int)} {lst xs : List Int} {A : Option Addr} (h : St w0 F (wrA gp size ini lst :: L) w) (hb : FRd F w0 A (bys xs)) (hs0 : 0 ≤ size) (hs1 : size ≤ 140737488355328) (hi : ini.length ≤ 1000000000000) (hl : lst.length + xs.length ≤ 140737488355328) :
    Runs Try.prog 26 [.pointer (some ⟨gp, 0, none⟩), .slice A xs.length cb] w (fun _ w' => St w0 F (wrA gp size (layI size ini lst xs) (layL size lst xs) :: L) w') := by
  obtain ⟨gr, c, vi, vl, hvi, h⟩ := wr_open h
  obtain ⟨hb1, hv1, A1, k1, rfl, hk1⟩ := wr_facts h
  refine Runs_of (N := 27) Try.func26 rfl rfl (by simp) ?_
  refine W_join (σ := Unit) (fun _ => [(0, .pointer (some ⟨gp, 0, none⟩)), (1, .slice A xs.length cb)]) (fun _ w => St w0 F (wrA gp size (if size - lst.length < xs.length then ini ++ [lst] else ini) (if size - lst.length < xs.length then [] else lst) :: L) w) ?_ ?_
  · -- ahead
    refine W_seq ?_
    refine W_region ?_   -- region 0
    refine L_op (d_move (v := .pointer _) rfl) ?_   -- 4 (Op.move t0)
    --- 5 (Op.call {(Callee.value (Operand.func 28)), [t4], [25]})
    refine L_callB fn28 rfl (room_calls hb1 hv1 (by omega) hs0 hs1 (by omega)) ?_
    rintro _ w ⟨rfl, b⟩
    replace h := h.keep b
    refine L_op (d_move (v := .slice _ _ _) rfl) ?_   -- 6 (Op.move t1)
    refine L_op (d_lenB sl33 rfl) ?_   -- 7 (Op.call {(Callee.builtin Builtin.len), [t6], [33]})
    refine L_op (d_lss rfl rfl) ?_   -- 8 (Op.binOp BinOp.lss 3 t5 t7 3)
    refine L_nil ?_
    refine W_if rfl (fun c8 => ?_) (fun c8 => ?_)
    · -- c8 yes
      refine W_region ?_   -- region 1
      refine L_op (d_move (v := .pointer _) rfl) ?_   -- 9 (Op.move t0)
      refine L_op (d_move (v := .pointer _) rfl) ?_   -- 10 (Op.move t0)
      refine L_op (d_nilCheck rfl) ?_   -- 11 (Op.nilCheck t10)
      refine L_op (d_fieldAddrB fa61_1 rfl) ?_   -- 12 (Op.fieldAddr 61 t11 1)
      refine L_op (d_loadB sc29 (v := .slice _ _ _) rfl (by first | exact (h).cell (i := 0) rfl rfl | exact (h).cell (i := 1) rfl rfl | exact (h).cell (i := 2) rfl rfl | exact (h).cell (i := 3) rfl rfl | exact (h).cell (i := 4) rfl rfl | exact (h).cell (i := 5) rfl rfl | exact (h).cell (i := 6) rfl rfl | exact (h).cell (i := 7) rfl rfl | exact (h).cell (i := 8) rfl rfl)) ?_   -- 13 (Op.load 29 t12)
      --- 14 (Op.buildSlice 29 1 [(0, ((Value.slice none 0 0)))])
      refine L_buildSlice h [.slice _ _ _] [.slice _ _ _] Try.underlying29 zs33 rfl rfl rfl rfl (by decide) (by decide) (fun g14 w h b => ?_)
      --- 15 (Op.call {(Callee.builtin Builtin.append), [t13, t14], [29, 29]})
      refine L_appendRd h (i := 2) rfl Try.underlying29 info33 rfl (by decide) (by decide) rfl rfl (by simp) (h.rowAt (i := 0) rfl).rd (by simp [Value.oneCell']) (by omega) (fun v15 w h => ?_)
      obtain ⟨A15, c15, rfl, _⟩ := (h.rowAt (i := 2) rfl).slice
      refine L_op (d_nilCheck rfl) ?_   -- 16 (Op.nilCheck t9)
      refine L_op (d_fieldAddrB fa61_1 rfl) ?_   -- 17 (Op.fieldAddr 61 t16 1)
      --- None (Op.store 29 t17 t15)
      first
        | refine L_store1 h (i := 0) (v := .slice _ _ _) rfl sz29 rfl rfl rfl (by simp) (fun w h => ?_)
        | refine L_store1 h (i := 1) (v := .slice _ _ _) rfl sz29 rfl rfl rfl (by simp) (fun w h => ?_)
        | refine L_store1 h (i := 2) (v := .slice _ _ _) rfl sz29 rfl rfl rfl (by simp) (fun w h => ?_)
        | refine L_store1 h (i := 3) (v := .slice _ _ _) rfl sz29 rfl rfl rfl (by simp) (fun w h => ?_)
        | refine L_store1 h (i := 4) (v := .slice _ _ _) rfl sz29 rfl rfl rfl (by simp) (fun w h => ?_)
      refine L_nil ?_
      refine ⟨(), ⟨rfl, rfl, trivial⟩, ?_⟩
      first
        | (rw [if_neg c8, if_neg c8]; exact wr_close hvi h)
        | (rw [if_pos c8, if_pos c8]; exact wr_grow hvi (h.dropAt (i := 0) rfl))
    · -- c8 no
      refine W_skip ?_
      refine ⟨(), ⟨rfl, rfl, trivial⟩, ?_⟩
      first
        | (rw [if_neg c8, if_neg c8]; exact wr_close hvi h)
        | (rw [if_pos c8, if_pos c8]; exact wr_grow hvi (h.dropAt (i := 0) rfl))
  · -- behind
    rintro _ w b_ h
    clear hb1 hv1
    have hi2 : (if size - (lst.length : Int) < xs.length then ini ++ [lst] else ini).length ≤ 1000000000001 := by split <;> (try simp) <;> omega
    have hl2 : (if size - (lst.length : Int) < xs.length then ([] : List Int) else lst).length + xs.length ≤ 140737488355328 := by split <;> (try simp) <;> omega
    have e1 : layI size ini lst xs = if size - (lst.length : Int) < xs.length then ini ++ [lst] else ini := rfl
    have e2 : layL size lst xs = (if size - (lst.length : Int) < xs.length then ([] : List Int) else lst) ++ xs := by unfold layL; split <;> simp
    rw [e1, e2]
    clear e1 e2
    generalize (if size - (lst.length : Int) < xs.length then ini ++ [lst] else ini) = ini1 at h hi2 ⊢
    generalize (if size - (lst.length : Int) < xs.length then ([] : List Int) else lst) = lst1 at h hl2 ⊢
    obtain ⟨gr, c, vi, vl, hvi, h⟩ := wr_open h
    obtain ⟨hb1, hv1, A1, k1, rfl, hk1⟩ := wr_facts h
    refine W_region ?_   -- region 2
    refine L_op (d_move (v := .pointer _) rfl) ?_   -- 18 (Op.move t0)
    --- 19 (Op.call {(Callee.value (Operand.func 33)), [t18], [25]})
    refine L_callB fn33 rfl (last_calls hb1 (by omega) (by omega)) ?_
    rintro _ w ⟨rfl, b⟩
    replace h := h.keep b
    replace hb1 := blk_keep hb1 b
    refine L_op (d_move (v := .pointer _) rfl) ?_   -- 20 (Op.move t0)
    --- 21 (Op.call {(Callee.value (Operand.func 33)), [t20], [25]})
    refine L_callB fn33 rfl (last_calls hb1 (by omega) (by omega)) ?_
    rintro _ w ⟨rfl, b⟩
    replace h := h.keep b
    replace hb1 := blk_keep hb1 b
    refine L_op (d_nilCheck rfl) ?_   -- 22 (Op.nilCheck t21)
    refine L_op (d_loadB sc33 (v := .slice _ _ _) rfl ((h.rowAt (i := 1) rfl).cell (j := vi.length) (u := .slice A1 lst1.length k1) (by simp))) ?_   -- 23 (Op.load 33 t22)
    refine L_op (d_move (v := .slice _ _ _) rfl) ?_   -- 24 (Op.move t1)
    --- 25 (Op.call {(Callee.builtin Builtin.append), [t23, t24], [33, 33]})
    refine L_appendRd h (i := 2) rfl Try.underlying33 info5 rfl (by decide) (by decide) rfl rfl (by simp [ints]) (hb.at h) (bys_one xs) (by omega) (fun v25 w h => ?_)
    obtain ⟨A25, c25, rfl, _⟩ := (h.rowAt (i := 2) rfl).slice
    refine L_op (d_nilCheck rfl) ?_   -- 26 (Op.nilCheck t19)
    --- None (Op.store 33 t26 t25)
    refine L_storeRow1 h (i := 1) (v := .slice _ _ _) rfl sz33 rfl rfl rfl (by simp) (fun w h => ?_)
    refine L_nil ?_
    refine Ret0 rfl (wr_last (gr := gr) (c := c) (v := .slice A25 (lst1.length + xs.length) c25) hvi ?_)
    have e : (vi ++ [Value.slice A1 lst1.length k1]).set (vi.length + 1 - 1) (.slice A25 (lst1.length + xs.length) c25) = vi ++ [.slice A25 (lst1.length + xs.length) c25] := by simp
    rw [bys_append, List.length_append, ← e]
    exact h
end Go.Proofs.Ytbhjdbkdnandfaa.Sp
