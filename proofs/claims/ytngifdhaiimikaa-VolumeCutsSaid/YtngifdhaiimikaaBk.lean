/- A row of bytes that stands in the program's text, '[]byte("..")': made, and marked by the conversion behind it: what is known of it while it is only read, or appended to once. -/
import Derived.Test.YtngifdhaiimikaaQx0
import Derived.Lib.SlBytesConst
namespace Go.Proofs.Ytngifdhaiimikaa.Q
open Go.RowKit Go.Proofs.YtngifdhaiimikaaW.PrintWords Go.Proofs.YtngifdhaiimikaaW.PrintLast Go.Proofs.YtngifdhaiimikaaW.PrintMore
set_option linter.unusedVariables false
theorem below_of_none {w w1 : World} (h : w.grownBy w1 none) : Below w.heap.size w w1 := (Below.refl _ w).grown h (Nat.le_refl _) (fun k e => by cases e)
namespace Kd
/-- The row lies in a block from base on, whole and full, which nobody writes; the block's mark is whatever the conversion laid. -/
def B (d : Kd Int) (e : Nat) (w : World) (base : Nat) (ok : Nat → Prop) (v : Value) (xs : List Int) : Prop :=
  ∃ g m, v = .slice (some ⟨g, 0, none⟩) xs.length xs.length ∧ base ≤ g ∧ ok g ∧ xs.length ≤ 9223372036854775807 ∧ w.heap[g]? = some (.cells (xs.map (Value.int .u8)).toArray e m)
section
variable {d : Kd Int} {e g : Nat} {m : Nat × Nat} {w w1 W : World} {base base' : Nat} {ok ok' : Nat → Prop} {v u : Value} {xs : List Int}
theorem B_lt' (h : B d e w base ok v xs) : ∃ g, v = .slice (some ⟨g, 0, none⟩) xs.length xs.length ∧ g < w.heap.size := by
  obtain ⟨g, m, e1, _, _, _, hg⟩ := h
  exact ⟨g, e1, (Array.getElem?_eq_some_iff.1 hg).1⟩
theorem B_below (h : B d e w base ok v xs) (hb : Below w.heap.size w w1) : B d e w1 base ok v xs := by
  obtain ⟨g, m, e1, e2, e3, e4, hg⟩ := h
  exact ⟨g, m, e1, e2, e3, e4, (hb.block g (Array.getElem?_eq_some_iff.1 hg).1).trans hg⟩
theorem B_alloc (h : B d e w base ok v xs) (o : Obj) : B d e (w.alloc o) base ok v xs := B_below h (below_alloc (Below.refl _ _) o)
theorem B_drew (h : B d e w base ok v xs) : B d e w.drew base ok v xs := B_below h (below_drew (Below.refl _ _))
theorem B_drewN (h : B d e w base ok v xs) (m : Nat) : B d e (w.drewN m) base ok v xs := B_below h (pw_below_drewN (Below.refl _ _) m)
theorem B_lower {base' : Nat} (h : B d e w base ok v xs) (hb : base' ≤ base) : B d e w base' ok v xs := by
  obtain ⟨g, m, e1, e2, e3⟩ := h
  exact ⟨g, m, e1, Nat.le_trans hb e2, e3⟩
theorem B_mono (h : B d e w base ok v xs) (hok : ∀ k, ok k → ok' k) : B d e w base ok' v xs := by
  obtain ⟨g, m, e1, e2, e3, e4⟩ := h
  exact ⟨g, m, e1, e2, hok _ e3, e4⟩
theorem B_slice (h : B d e w base ok v xs) : ∃ A c, v = .slice A xs.length c := by
  obtain ⟨g, m, e1, _⟩ := h
  exact ⟨_, _, e1⟩
theorem B_at (h : B d e w base ok v xs) : ∃ g c, v = .slice (some ⟨g, 0, none⟩) xs.length c := by
  obtain ⟨g, m, e1, _⟩ := h
  exact ⟨_, _, e1⟩
theorem B_own (h : B d e w base ok v xs) {k : Nat} (hk : v.ownBlock = some k) : ∃ m, v = .slice (some ⟨k, 0, none⟩) xs.length xs.length ∧ base ≤ k ∧ ok k ∧ w.heap[k]? = some (.cells (xs.map (Value.int .u8)).toArray e m) := by
  obtain ⟨g, m, rfl, e2, e3, e4, hg⟩ := h
  obtain rfl : g = k := by simpa [Value.ownBlock] using hk
  exact ⟨m, rfl, e2, e3, hg⟩
theorem B_lt (h : B d e w base ok v xs) : ∀ k, v.ownBlock = some k → k < w.heap.size := fun k hk => by
  obtain ⟨m, _, _, _, hg⟩ := B_own h hk
  exact (Array.getElem?_eq_some_iff.1 hg).1
theorem B_base (h : B d e w base ok v xs) : ∀ k, v.ownBlock = some k → base ≤ k := fun k hk => (B_own h hk).choose_spec.2.1
theorem B_elder' (hu : B d e W base ok u xs) (hbase : ∀ k, v.ownBlock = some k → W.heap.size ≤ k) (hb : Below W.heap.size W w1) : B d e w1 base (fun k => ok k ∧ some k ≠ v.ownBlock) u xs := by
  obtain ⟨g, m, e1, e2, e3, e4, hg⟩ := hu
  have hlt := (Array.getElem?_eq_some_iff.1 hg).1
  exact ⟨g, m, e1, e2, ⟨e3, fun he => by have := hbase g he.symm; omega⟩, e4, (hb.block g hlt).trans hg⟩
theorem R_overB {α : Type} {d' : Kd α} {e' : Nat} {ys : List α} (hu : Kd.R d' e' W base ok' u ys) (hv : B d e W base' ok v xs) (ht : ∀ q, q ∈ e' :: d'.E → q ≠ e) (hg : W.grownBy w1 v.ownBlock) : Kd.R d' e' w1 base ok' u ys := by
  refine Kd.R_mono (Kd.R_move (Kd.R_bound hu) (fun k hk => hg.block k hk.2.2.1 (fun he => ?_))) (fun _ hk => hk.1)
  obtain ⟨_, _, _, q, hq, cells, hc⟩ := hk
  obtain ⟨mm, _, _, _, hc'⟩ := B_own hv he.symm
  rw [hc] at hc'
  injection hc' with hc'
  injection hc' with _ hc'
  exact ht q hq hc'
theorem B_cells (h : w.heap[g]? = some (.cells (xs.map (Value.int .u8)).toArray e m)) (j : Nat) (hj : j < xs.length) : w.cell? ((⟨g, 0, none⟩ : Addr).add j) = some (.int .u8 (xs.getD j 0)) := by
  rw [add_plain]
  simp [World.cell?, h, hj, List.getD_eq_getElem?_getD]
theorem B_C (h : B d e w base ok v xs) : ∃ g, v = .slice (some ⟨g, 0, none⟩) xs.length xs.length ∧ Kd.C (Kd.int .u8) w (some ⟨g, 0, none⟩) xs.length xs := by
  obtain ⟨g, m, e1, e2, e3, e4, hg⟩ := h
  refine ⟨g, e1, Kd.C_of_reads (enc := Value.int .u8) (d := (0 : Int)) (h1 := fun _ => rfl) ⟨rfl, e4, fun _ => ⟨_, rfl, fun j hj => B_cells hg j hj⟩⟩⟩
theorem B_reads' {A : Option Addr} {n c : Nat} (h : B d e w base ok (.slice A n c) xs) : n = xs.length ∧ n ≤ c ∧ Kd.C (Kd.int .u8) w A xs.length xs := by
  obtain ⟨g, e1, hc⟩ := B_C h
  injection e1 with h1 h2 h3
  subst h1 h2 h3
  exact ⟨rfl, Nat.le_refl _, hc⟩
theorem B_new' {W : World} (h : B d e w W.heap.size ok v xs) (hlt : ∀ k, u.ownBlock = some k → k < W.heap.size) : B d e w W.heap.size (fun k => ok k ∧ some k ≠ u.ownBlock) v xs := by
  obtain ⟨g, m, e1, e2, e3, e4⟩ := h
  exact ⟨g, m, e1, e2, ⟨e3, fun he => by have := hlt g he.symm; omega⟩, e4⟩
theorem B_F {A : Option Addr} {n c : Nat} (h : B d e w base ok (.slice A n c) xs) : Kd.F (Kd.int .u8) w ok A n xs := fun W' hW => by
  obtain ⟨g, m, e1, e2, e3, e4, hg⟩ := h
  have hg' := (hW g e3 (Array.getElem?_eq_some_iff.1 hg).1).trans hg
  have h2 := B_reads' (d := d) (base := base) (ok := ok) (w := W') ⟨g, m, e1, e2, e3, e4, hg'⟩
  rw [h2.1]
  exact h2.2.2
end
section
variable {P : Program} {ops : Array Oper} {rest : List Oper} {o : Oper} {a : Act} {Q : Exit → Act → World → Prop} {Kc : Act → World → Prop}
/-- The literal lies there, new; the conversion marks it. -/
theorem B_made {W : World} (base e : Nat) {xs : List Int} (d : Kd Int) (hbase : base ≤ W.heap.size) (hm : xs.length ≤ 9223372036854775807) (mk : Nat × Nat) :
    B d e (W.alloc (.cells (xs.map (Value.int .u8)).toArray e mk)) base (fun _ => True) (.slice (some ⟨W.heap.size, 0, none⟩) xs.length xs.length) xs :=
  ⟨W.heap.size, mk, rfl, hbase, trivial, hm, blk_new W _⟩
theorem conv_run {W : World} (t e : TypeId) (x : Operand) (xs : List Int) (hop : o.op = .convert t t x) (hx : a.eval x = .slice (some ⟨W.heap.size, 0, none⟩) xs.length xs.length) (ht : P.underlying t = some (.slice e)) (he : P.underlying e = some (.int .u8)) :
    (execOp a.eval o).run P (W.alloc (.cells (xs.map (Value.int .u8)).toArray e)) = .ok (.value (.slice (some ⟨W.heap.size, 0, none⟩) xs.length xs.length)) (W.alloc (.cells (xs.map (Value.int .u8)).toArray e (xs.length, xs.length + 1))) := by
  have h := Lib.run_convert_bytes_const (P := P) W t e (xs.map (Value.int .u8)).toArray xs.length xs.length ht he
  simp only [List.size_toArray, List.length_map] at h
  simp [execOp, hop, hx, h]
theorem B_conv (d : Kd Int) {w0 W : World} (base t e : Nat) (x : Operand) (xs : List Int) (C : Array Value) (hgd : o.guard = none) (hop : o.op = .convert t t x) (hx : a.eval x = .slice (some ⟨W.heap.size, 0, none⟩) xs.length xs.length) (ht : P.underlying t = some (.slice e)) (he : P.underlying e = some (.int .u8)) (hC : C = (xs.map (Value.int .u8)).toArray)
    (HB : Below base w0 W) (hbase : base ≤ W.heap.size) (hm : xs.length ≤ 9223372036854775807)
    (h : ∀ v1 w1, B d e w1 base (fun _ => True) v1 xs → Below base w0 w1 → wpList P ops Q rest (a.put o.dst v1) w1) : wpList P ops Q (o :: rest) a (W.alloc (.cells C e)) := by
  subst hC
  exact Go.Proofs.YtngifdhaiimikaaW.PrintWords.Kd.event_run hgd (conv_run t e x xs hop hx ht he) (h _ _ (B_made base e d hbase hm _) (HB.alloc hbase _))
theorem B_conv_step (d : Kd Int) {w0 W : World} (base t e : Nat) (x : Operand) (xs : List Int) (C : Array Value) (hw : Region.wanted o (yielded ops a.tmps) = true) (hop : o.op = .convert t t x) (hx : a.eval x = .slice (some ⟨W.heap.size, 0, none⟩) xs.length xs.length) (ht : P.underlying t = some (.slice e)) (he : P.underlying e = some (.int .u8)) (hC : C = (xs.map (Value.int .u8)).toArray)
    (HB : Below base w0 W) (hbase : base ≤ W.heap.size) (hm : xs.length ≤ 9223372036854775807)
    (h : ∀ v1 w1, B d e w1 base (fun _ => True) v1 xs → Below base w0 w1 → Kc (a.put o.dst v1) w1) : if Region.wanted o (yielded ops a.tmps) = true then Oper.wp P o a (W.alloc (.cells C e)) Kc Q else Kc (a.put o.dst undef) (W.alloc (.cells C e)) := by
  subst hC
  exact event_step hw (conv_run t e x xs hop hx ht he) (h _ _ (B_made base e d hbase hm _) (HB.alloc hbase _))
/-- Appended to, it grows: the row is full. -/
theorem B_append_rows_step (d : Kd Int) {w0 W : World} (base : Nat) (hw : Region.wanted o (yielded ops a.tmps) = true) (s x : Operand) (t e : TypeId) (z : Value) (bytes : Nat)
    (ho : o.op = .call { callee := .builtin .append, args := #[s, x], argTypes := #[t, t] })
    (ht : P.underlying t = some (.slice e)) (hinfo : (P.info? e).map (fun i => (i.zero, i.size, i.bytes)) = some (some z, 1, bytes)) (hz : z.cells.size = 1) (hs0 : 0 < 1) (hb0 : 0 < bytes)
    (v : Value) (xs ys : List Int) (A : Option Addr) (m c : Nat) (ok okp : Nat → Prop) (hs : a.eval s = v) (hx : a.eval x = .slice A m c)
    (HO : B d e W base ok v xs) (HR : Kd.C (Kd.int .u8) W A m ys) (_hKM : True → True → True → True) (hokp : ∀ k, okp k → ok k ∧ some k ≠ v.ownBlock) (hfresh : ∀ k, W.heap.size ≤ k → ok k)
    (HB : Below base w0 W) (hbase : base ≤ W.heap.size) (hl : (xs.length + m) * bytes ≤ 140737488355328)
    (h : ∀ v1 w1, Kd.R (Kd.int .u8) e w1 base ok v1 (xs ++ ys) → Below base w0 w1 → W.grownBy w1 v.ownBlock → (v1.ownBlock = v.ownBlock ∨ ∃ b, v1.ownBlock = some b ∧ W.heap.size ≤ b) → Kc (a.put o.dst v1) w1) (hpos : 0 < ys.length) :
    if Region.wanted o (yielded ops a.tmps) = true then Oper.wp P o a W Kc Q else Kc (a.put o.dst undef) W := by
  obtain ⟨i0, hi, hzz⟩ := Option.map_eq_some_iff.1 hinfo
  simp only [Prod.mk.injEq] at hzz
  obtain ⟨hz0, hz1, hz2⟩ := hzz
  have hm : ys.length = m := HR.1
  have hlen : xs.length + m ≤ 140737488355328 := Nat.le_trans (Nat.le_mul_of_pos_right _ hb0) hl
  obtain ⟨g, mk, rfl, hg0, hgok, _, hg⟩ := HO
  have hR' := Kd.reads_of_C (enc := Value.int .u8) (d := (0 : Int)) (h1 := fun _ => rfl) HR
  obtain ⟨ad, rfl, hnews⟩ := hR'.2.2 (by omega)
  have hnth : ∀ (l : List Int) (j : Nat) (u : Value), (l.map (Value.int .u8))[j]? = some u → j < l.length ∧ u = .int .u8 (l.getD j 0) := fun l j u hj => by
    rw [List.getElem?_map] at hj
    obtain ⟨q, hq, rfl⟩ := Option.map_eq_some_iff.1 hj
    obtain ⟨hlt, rfl⟩ := List.getElem?_eq_some_iff.1 hq
    exact ⟨hlt, by simp [List.getD_eq_getElem?_getD, hlt]⟩
  obtain ⟨v1, w1, hrun, hown, hgr⟩ := run_append_arg_grows (P := P) (w := W) t o.type e i0 z 1 bytes ht hi hz0 hz1 hz2 hz hs0 ⟨g, 0, none⟩ xs.length xs.length (xs.map (Value.int .u8)) (by simp) (fun j u hj => by
      obtain ⟨hlt, rfl⟩ := hnth xs j u hj
      exact B_cells hg j hlt) ad m c (ys.map (Value.int .u8)) (by simp [hm]) (fun j u hj => by
      obtain ⟨hlt, rfl⟩ := hnth ys j u hj
      exact hnews j (by omega)) (by omega) (by unfold maxLen; omega) hl
  have hown' : w1.ownsRow W.heap.size e 1 v1 (xs ++ ys).length (encs (Value.int .u8) (xs ++ ys)) := by
    rw [List.length_append, hm]
    simpa [encs] using hown
  have hnew : ∃ b, v1.ownBlock = some b ∧ W.heap.size ≤ b := by
    rcases hown.2 with ⟨_, h0⟩ | ⟨g1, cap1, _, rfl, hb1, _⟩
    · omega
    · exact ⟨g1, by simp [Value.ownBlock], hb1⟩
  have hok : ∀ k, v1.ownBlock = some k → ok k := fun k hk => by
    obtain ⟨b, hb, hb'⟩ := hnew
    rw [hk] at hb
    cases hb
    exact hfresh _ hb'
  refine event_step hw ?_ (h v1 w1 (Kd.R_lower (Kd.R_of_own hown' hok) hbase) (HB.grown hgr hbase (fun k e => by cases e)) ⟨hgr.os, hgr.tape, hgr.output, hgr.size, fun k hk _ => hgr.block k hk (by simp)⟩ (.inr hnew))
  simp [execOp, ho, hs, hx, resolve, invoke, builtin, hrun]
end
end Kd
end Go.Proofs.Ytngifdhaiimikaa.Q
