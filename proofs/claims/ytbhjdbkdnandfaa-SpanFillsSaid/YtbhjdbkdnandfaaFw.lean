/- A walk of one's own: the frame as a function (upd), code by three continuations, each operation by a fact of its run. -/
import Derived.Orders
import Derived.Below
import Derived.Tactics
import Derived.WalkKit
import Derived.WalkSpells
import Derived.Deep.LoopGhost
namespace Go.Fw
open Go Go.RowKit

abbrev Env := Nat → Value
def upd (e : Env) (d : Nat) (v : Value) : Env := fun i => bif Nat.beq i d then v else e i
def updO (e : Env) (d : Option Nat) (v : Value) : Env := match d with
  | some d => upd e d v
  | none => e
/-- The frame at the entry: the arguments, then nothing. -/
def argE : List Value → Env
  | [], _ => undef
  | v :: _, 0 => v
  | _ :: l, i + 1 => argE l i
def act (N : Nat) (e : Env) : Act := ⟨Array.ofFn (n := N) fun i => e i.1, []⟩
def evE (N : Nat) (e : Env) : Operand → Value
  | .tmp t => bif Nat.blt t N then e t else undef
  | .const v => v
  | .global g => .pointer (some ⟨g, 0, none⟩)
  | .func f => .func (.func f) #[] #[]

theorem eval_act (N : Nat) (e : Env) : (act N e).eval = evE N e := by
  funext x
  cases x with
  | tmp t =>
    show (act N e).tmps.getD t undef = bif Nat.blt t N then e t else undef
    by_cases h : t < N
    · have hb : Nat.blt t N = true := by rw [Nat.blt_eq]; exact h
      rw [hb]
      simp [act, Array.getD, h]
    · have hb : Nat.blt t N = false := by
        cases h2 : Nat.blt t N with
        | false => rfl
        | true => rw [Nat.blt_eq] at h2; exact absurd h2 h
      rw [hb]
      simp [act, Array.getD, h]
  | _ => rfl
theorem upd_self (e : Env) (d : Nat) (v : Value) : upd e d v d = v := by simp [upd]
theorem upd_ne {e : Env} {d i : Nat} {v : Value} (h : i ≠ d) : upd e d v i = e i := by
  have : Nat.beq i d = false := by
    cases hb : Nat.beq i d with
    | false => rfl
    | true => exact absurd (Nat.eq_of_beq_eq_true hb) h
  simp [upd, this]
theorem put_act (N : Nat) (e : Env) (d : Option Nat) (v : Value) : (act N e).put d v = act N (updO e d v) := by
  cases d with
  | none => rfl
  | some d =>
    have h : (Array.ofFn (n := N) fun i => e i.1).setIfInBounds d v = Array.ofFn (n := N) fun i => upd e d v i.1 := by
      apply Array.ext
      · simp
      · intro i h1 h2
        have hi : i < N := by simpa using h2
        by_cases hd : d = i
        · subst hd
          simp [upd_self]
        · rw [Array.getElem_setIfInBounds_ne (by simpa using hi) hd]
          simp [upd_ne (Ne.symm hd)]
    simp only [Act.put, act, updO]
    rw [h]
theorem enter_act (N : Nat) (args : List Value) (h : args.length ≤ N) :
    ({ tmps := args.toArray ++ Array.replicate (N - args.length) undef, defers := [] } : Act) = act N (argE args) := by
  unfold act
  congr 1
  have key : ∀ (l : List Value) (i : Nat), argE l i = l.getD i undef := by
    intro l
    induction l with
    | nil => intro i; rfl
    | cons v l ih =>
      intro i
      cases i with
      | zero => rfl
      | succ i => simpa [argE] using ih i
  apply Array.ext
  · simp; omega
  · intro i h1 h2
    have hi : i < N := by simpa using h2
    simp only [Array.getElem_ofFn, key]
    by_cases hl : i < args.length
    · rw [Array.getElem_append_left (by simpa using hl)]
      simp [List.getD_eq_getElem?_getD, hl]
    · rw [Array.getElem_append_right (by simpa using hl)]
      simp [List.getD_eq_getElem?_getD, hl]

/-- How code goes on: on its normal way n, by an exit X, by a return r. -/
def toQ (N : Nat) (n : Env → World → Prop) (X : Nat → Env → World → Prop) (r : Env → World → Prop) : Exit → Act → World → Prop
  | .normal, a, w => ∃ e, a = act N e ∧ n e w
  | .exit i, a, w => ∃ e, a = act N e ∧ X i e w
  | .ret, a, w => ∃ e, a = act N e ∧ r e w
  | _, _, _ => False
structure W (P : Program) (N : Nat) (c : Code) (n : Env → World → Prop) (X : Nat → Env → World → Prop) (r : Env → World → Prop) (e : Env) (w : World) : Prop where
  of :: (out : c.wp P (toQ N n X r) (act N e) w)
def noX : Nat → Env → World → Prop := fun _ _ _ => False
def blkX (i : Nat) (n : Env → World → Prop) (X : Nat → Env → World → Prop) : Nat → Env → World → Prop := fun j e w => bif Nat.beq j i then n e w else X j e w
theorem X_here {i : Nat} {n : Env → World → Prop} {X : Nat → Env → World → Prop} {e : Env} {w : World} (h : n e w) : blkX i n X i e w := by
  unfold blkX
  rw [Nat.beq_refl]
  exact h
theorem X_past {i j : Nat} {n : Env → World → Prop} {X : Nat → Env → World → Prop} {e : Env} {w : World} (hj : Nat.beq j i = false) (h : X j e w) : blkX i n X j e w := by
  unfold blkX
  rw [hj]
  exact h

section control
variable {P : Program} {N : Nat} {n : Env → World → Prop} {X : Nat → Env → World → Prop} {r : Env → World → Prop} {e : Env} {w : World}
theorem W_mono {c : Code} {n' : Env → World → Prop} {X' : Nat → Env → World → Prop} {r' : Env → World → Prop} (h : W P N c n X r e w)
    (hn : ∀ e w, n e w → n' e w) (hX : ∀ i e w, X i e w → X' i e w) (hr : ∀ e w, r e w → r' e w) : W P N c n' X' r' e w := by
  refine ⟨wp_mono h.out (fun x a w hq => ?_)⟩
  cases x with
  | normal => obtain ⟨e, h1, h2⟩ := hq; exact ⟨e, h1, hn _ _ h2⟩
  | exit i => obtain ⟨e, h1, h2⟩ := hq; exact ⟨e, h1, hX _ _ _ h2⟩
  | ret => obtain ⟨e, h1, h2⟩ := hq; exact ⟨e, h1, hr _ _ h2⟩
  | goto l => exact hq
  | panic c => exact hq
  | outgrown => exact hq
theorem W_skip (h : n e w) : W P N .skip n X r e w := ⟨wp_skip ⟨e, rfl, h⟩⟩
theorem W_label {l : Nat} (h : n e w) : W P N (.label l) n X r e w := ⟨wp_label ⟨e, rfl, h⟩⟩
theorem W_exit {i : Nat} (h : X i e w) : W P N (.exit i) n X r e w := ⟨wp_exit ⟨e, rfl, h⟩⟩
theorem W_ret (h : r e w) : W P N .ret n X r e w := ⟨wp_ret ⟨e, rfl, h⟩⟩
theorem W_seq {x y : Code} (h : W P N x (W P N y n X r) X r e w) : W P N (.seq x y) n X r e w := by
  refine ⟨wp_seq (wp_mono h.out (fun q a w hq => ?_))⟩
  cases q with
  | normal => obtain ⟨e, rfl, h2⟩ := hq; exact h2.out
  | exit i => exact hq
  | ret => exact hq
  | goto l => exact hq
  | panic c => exact hq
  | outgrown => exact hq
/-- Ways meet again: what holds there is told by J. -/
theorem W_meet {x y : Code} (J : Env → World → Prop) (h : W P N x J X r e w) (k : ∀ e w, J e w → W P N y n X r e w) : W P N (.seq x y) n X r e w :=
  W_seq (W_mono h k (fun _ _ _ h => h) (fun _ _ h => h))
theorem W_cond {c : Operand} {x y : Code} {t : Bool} (hc : evE N e c = .bool t) (ht : t = true → W P N x n X r e w) (hf : t = false → W P N y n X r e w) : W P N (.cond c x y) n X r e w :=
  ⟨wp_cond_split (by rw [eval_act]; exact hc) (fun h => (ht h).out) (fun h => (hf h).out)⟩
theorem W_true {c : Operand} {x y : Code} (hc : evE N e c = .bool true) (ht : W P N x n X r e w) : W P N (.cond c x y) n X r e w :=
  ⟨wp_cond_true (by rw [eval_act]; exact hc) ht.out⟩
theorem W_false {c : Operand} {x y : Code} (hc : evE N e c = .bool false) (hf : W P N y n X r e w) : W P N (.cond c x y) n X r e w :=
  ⟨wp_cond_false (by rw [eval_act]; exact hc) hf.out⟩
/-- A test of a proposition. -/
theorem W_if {c : Operand} {x y : Code} {p : Prop} [Decidable p] (hc : evE N e c = .bool (decide p)) (ht : p → W P N x n X r e w) (hf : ¬ p → W P N y n X r e w) : W P N (.cond c x y) n X r e w :=
  W_cond hc (fun h => ht (of_decide_eq_true h)) (fun h => hf (of_decide_eq_false h))
theorem W_block {i : Nat} {c : Code} (h : W P N c n (blkX i n X) r e w) : W P N (.block i c) n X r e w := by
  refine ⟨wp_block (wp_mono h.out (fun q a w hq => ?_))⟩
  cases q with
  | normal => exact hq
  | exit j =>
    obtain ⟨e, rfl, h2⟩ := hq
    show if j = i then _ else _
    by_cases hj : j = i
    · subst hj
      rw [if_pos rfl]
      simp only [blkX, Nat.beq_refl, cond_true] at h2
      exact ⟨e, rfl, h2⟩
    · rw [if_neg hj]
      have hb : Nat.beq j i = false := by
        cases hb : Nat.beq j i with
        | false => rfl
        | true => exact absurd (Nat.eq_of_beq_eq_true hb) hj
      unfold blkX at h2
      rw [hb] at h2
      exact ⟨e, rfl, h2⟩
  | ret => exact hq
  | goto l => exact hq
  | panic c => exact hq
  | outgrown => exact hq
theorem W_loop {σ : Type} {c : Code} (s0 : σ) (I : σ → Env → World → Prop) (μ : σ → Nat) (h0 : I s0 e w)
    (round : ∀ s e w, I s e w → W P N c (fun e' w' => ∃ s', I s' e' w' ∧ μ s' < μ s) X r e w) : W P N (.loop c) n X r e w := by
  refine ⟨wp_loop_ghost (fun m a w => ∃ e s, a = act N e ∧ I s e w ∧ μ s = m) (μ s0) ⟨e, s0, rfl, h0, rfl⟩ ?_⟩
  rintro m a w ⟨e, s, rfl, hI, rfl⟩
  refine wp_mono (round s e w hI).out (fun x a w hq => ?_)
  cases x with
  | normal =>
    obtain ⟨e, rfl, s', h1, h2⟩ := hq
    exact ⟨μ s', h2, e, s', rfl, h1, rfl⟩
  | exit i => exact hq
  | ret => exact hq
  | goto l => exact hq
  | panic c => exact hq
  | outgrown => exact hq
/-- The frame is told by some of its slots alone. -/
def evL : List (Nat × Value) → Env → Env
  | [], b => b
  | (d, v) :: l, b => upd (evL l b) d v
def At (e : Env) : List (Nat × Value) → Prop
  | [] => True
  | (d, v) :: l => e d = v ∧ At e l
theorem evL_of {e : Env} : ∀ {l : List (Nat × Value)}, At e l → evL l e = e
  | [], _ => rfl
  | (d, v) :: l, h => by
    funext i
    unfold evL
    rw [evL_of h.2]
    by_cases hi : i = d
    · subst hi
      rw [upd_self]
      exact h.1.symm
    · exact upd_ne hi
theorem W_prune {c : Code} (l : List (Nat × Value)) (h : At e l) (k : ∀ b, W P N c n X r (evL l b) w) : W P N c n X r e w := by
  have := k e
  rwa [evL_of h] at this
/-- A loop whose state s lies in the slots that l tells. -/
theorem W_while {σ : Type} {c : Code} (s0 : σ) (l : σ → List (Nat × Value)) (I : σ → World → Prop) (μ : σ → Nat) (hl : At e (l s0)) (h0 : I s0 w)
    (round : ∀ s w b, I s w → W P N c (fun e' w' => ∃ s', At e' (l s') ∧ I s' w' ∧ μ s' < μ s) X r (evL (l s) b) w) : W P N (.loop c) n X r e w :=
  W_loop s0 (fun s e w => At e (l s) ∧ I s w) μ ⟨hl, h0⟩ (fun s e w hI => W_prune (l s) hI.1 (fun b => W_mono (round s w b hI.2) (fun e' w' hq => by
    obtain ⟨s', h1, h2, h3⟩ := hq
    exact ⟨s', ⟨h1, h2⟩, h3⟩) (fun _ _ _ h => h) (fun _ _ h => h)))
/-- Ways that meet: the state s behind them lies in the slots that l tells. -/
theorem W_join {σ : Type} {x y : Code} (l : σ → List (Nat × Value)) (J : σ → World → Prop) (h : W P N x (fun e' w' => ∃ s, At e' (l s) ∧ J s w') X r e w)
    (k : ∀ s w b, J s w → W P N y n X r (evL (l s) b) w) : W P N (.seq x y) n X r e w :=
  W_meet _ h (fun e w hq => by
    obtain ⟨s, h1, h2⟩ := hq
    exact W_prune (l s) h1 (fun b => k s w b h2))
end control

/-! ### Operations -/
/-- The operation's run hands back v and leaves the world. -/
def Does (P : Program) (ρ : Operand → Value) (o : Oper) (w : World) (v : Value) : Prop := (execOp ρ o).run P w = .ok (.value v) w
structure Ls (P : Program) (N : Nat) (ops : Array Oper) (l : List Oper) (k : Env → World → Prop) (e : Env) (w : World) : Prop where
  of :: (out : wpList P ops (fun x a w => x = .normal ∧ ∃ e, a = act N e ∧ k e w) l (act N e) w)
section lists
variable {P : Program} {N : Nat} {ops : Array Oper} {l : List Oper} {k : Env → World → Prop} {e : Env} {w w1 : World} {d : Nat} {D : Option Nat} {op : Op} {t : TypeId} {p : String} {af : Array Edge} {v : Value}
variable {n : Env → World → Prop} {X : Nat → Env → World → Prop} {r : Env → World → Prop}
theorem W_region {i : Nat} {os : List Oper} (h : Ls P N os.toArray os n e w) : W P N (.region i os.toArray false) n X r e w := by
  refine ⟨wp_mono (wp_region_lit (Q := fun x a w => x = .normal ∧ ∃ e, a = act N e ∧ n e w) h.out) (fun x a w hq => ?_)⟩
  obtain ⟨rfl, e, h1, h2⟩ := hq
  exact ⟨e, h1, h2⟩
theorem L_nil (h : k e w) : Ls P N ops [] k e w := ⟨⟨rfl, e, rfl, h⟩⟩
theorem L_step (h : ∀ K : Act → World → Prop, (∀ e w, Ls P N ops l k e w → K (act N e) w) → Oper.wp P ⟨D, op, t, p, af, none⟩ (act N e) w K (fun _ _ _ => False)) : Ls P N ops (⟨D, op, t, p, af, none⟩ :: l) k e w := by
  refine ⟨wpList_plain rfl (fun K hK => ?_)⟩
  have := h K (fun e w h => hK _ _ h.out)
  unfold Oper.wp at this ⊢
  revert this
  generalize Sem.run P (execOp (act N e).eval ⟨D, op, t, p, af, none⟩) w = res
  intro this
  cases res with
  | ok nx w' =>
    cases nx <;> simp only [Oper.upon] at this ⊢ <;>
      first
        | exact this
        | exact Calls.mono this (fun e w'' he => by cases e <;> first | exact he | exact he.elim | (obtain ⟨_, _, hf⟩ := he; exact hf.elim))
  | halt x w' => cases x <;> simp only [Oper.upon] at this ⊢
theorem L_op (h : Does P (evE N e) ⟨some d, op, t, p, af, none⟩ w v) (hk : Ls P N ops l k (upd e d v) w) : Ls P N ops (⟨some d, op, t, p, af, none⟩ :: l) k e w := by
  refine L_step (fun K hK => ?_)
  unfold Oper.wp
  rw [eval_act, h, Oper.upon_value, put_act]
  exact hK _ _ hk
/-- An operation that turns the world. -/
theorem L_run (h : (execOp (evE N e) ⟨some d, op, t, p, af, none⟩).run P w = .ok (.value v) w1) (hk : Ls P N ops l k (upd e d v) w1) : Ls P N ops (⟨some d, op, t, p, af, none⟩ :: l) k e w := by
  refine L_step (fun K hK => ?_)
  unfold Oper.wp
  rw [eval_act, h, Oper.upon_value, put_act]
  exact hK _ _ hk
/-- One without a result. -/
theorem L_do (h : (execOp (evE N e) ⟨none, op, t, p, af, none⟩).run P w = .ok .skip w1) (hk : Ls P N ops l k e w1) : Ls P N ops (⟨none, op, t, p, af, none⟩ :: l) k e w := by
  refine L_step (fun K hK => ?_)
  unfold Oper.wp
  rw [eval_act, h, Oper.upon_skip, put_act]
  exact hK _ _ hk
theorem upd_same {dj : Nat} {u : Value} (h : e dj = u) : upd e dj u = e := by
  funext i
  by_cases hi : i = dj
  · subst hi
    rw [upd_self, h]
  · exact upd_ne hi
theorem ev_tmp {dj : Nat} {b : Bool} (hv : evE N e (.tmp dj) = .bool b) : Nat.blt dj N = true ∧ e dj = .bool b := by
  have hv' : (bif Nat.blt dj N then e dj else undef) = .bool b := hv
  cases hb : Nat.blt dj N with
  | true => rw [hb] at hv'; exact ⟨rfl, hv'⟩
  | false => rw [hb] at hv'; cases hv'
theorem L_know {dj : Nat} {q b : Bool} (hv : evE N e (.tmp dj) = .bool q) (hq : q = b) (hk : Ls P N ops l k (upd e dj (.bool b)) w) : Ls P N ops l k e w := by
  subst hq
  rwa [upd_same (ev_tmp hv).2] at hk
theorem L_case {dj : Nat} {q : Bool} (hv : evE N e (.tmp dj) = .bool q) (h1 : q = true → Ls P N ops l k (upd e dj (.bool true)) w) (h2 : q = false → Ls P N ops l k (upd e dj (.bool false)) w) : Ls P N ops l k e w := by
  cases q with
  | true => exact L_know hv rfl (h1 rfl)
  | false => exact L_know hv rfl (h2 rfl)
end lists

def isAggD : TypeDesc → Bool
  | .struct _ | .array _ _ => true
  | _ => false
theorem run_isAgg {P : Program} {t : TypeId} {td : TypeDesc} (hu : P.underlying t = some td) (w : World) : (isAgg t).run P w = .ok (isAggD td) w := by
  cases td <;> simp [isAgg, run_underlying hu, isAggD]
section does
variable {P : Program} {N : Nat} {ρ : Operand → Value} {w : World} {D : Option Nat} {t : TypeId} {p : String} {af : Array Edge} {g : Option (Nat × Bool)} {x y z : Operand} {a b : Int} {kd : IntKind}
theorem d_move {v : Value} (h : ρ x = v) : Does P ρ ⟨D, .move x, t, p, af, g⟩ w v := by subst h; rfl
theorem d_assign {v : Value} (h : ρ x = v) : Does P ρ ⟨D, .assign x, t, p, af, g⟩ w v := by subst h; rfl
theorem d_pick {c : Operand} {r : Value} {q : Bool} (hc : ρ c = .bool q) (hr : (match q with | true => ρ x | false => ρ y) = r) : Does P ρ ⟨D, .pick c x y, t, p, af, g⟩ w r := by
  subst hr
  unfold Does execOp
  simp only [hc]
  cases q <;> rfl
section int
variable {xt yt : TypeId}
theorem does_v {s : Sem Value} {v : Value} {w' : World} (h : s.run P w = .ok v w') : (do let x ← s; pure (Next.value x) : Sem Next).run P w = .ok (.value v) w' := by
  simp [h]
theorem d_int {bo : BinOp} {v : Value} (h : (binOp bo xt (.int kd a) (.int kd b)).run P w = .ok v w) (hx : ρ x = .int kd a) (hy : ρ y = .int kd b) : Does P ρ ⟨D, .binOp bo xt x y yt, t, p, af, g⟩ w v := by
  unfold Does execOp
  simp only [hx, hy]
  have : eqGuard bo xt x y (.int kd a) (.int kd b) = pure () := by
    unfold eqGuard
    cases bo <;> rfl
  rw [this]
  exact does_v h
theorem d_add (hx : ρ x = .int kd a) (hy : ρ y = .int kd b) : Does P ρ ⟨D, .binOp .add xt x y yt, t, p, af, g⟩ w (.int kd (kd.wrap (a + b))) := d_int (by simp [binOp, Op.intArith]) hx hy
theorem d_sub (hx : ρ x = .int kd a) (hy : ρ y = .int kd b) : Does P ρ ⟨D, .binOp .sub xt x y yt, t, p, af, g⟩ w (.int kd (kd.wrap (a - b))) := d_int (by simp [binOp, Op.intArith]) hx hy
theorem d_mul (hx : ρ x = .int kd a) (hy : ρ y = .int kd b) : Does P ρ ⟨D, .binOp .mul xt x y yt, t, p, af, g⟩ w (.int kd (kd.wrap (a * b))) := d_int (by simp [binOp, Op.intArith]) hx hy
theorem wrap_id (h : kd.has a) : kd.wrap a = a := by
  obtain ⟨h1, h2⟩ := h
  cases kd <;> simp [IntKind.min, IntKind.max, IntKind.wrap, IntKind.bits, IntKind.signed] at h1 h2 ⊢ <;> (try split) <;> omega
theorem d_add' (hr : kd.has (a + b)) (hx : ρ x = .int kd a) (hy : ρ y = .int kd b) : Does P ρ ⟨D, .binOp .add xt x y yt, t, p, af, g⟩ w (.int kd (a + b)) := by
  have := d_add (P := P) (xt := xt) (yt := yt) (D := D) (t := t) (p := p) (af := af) (g := g) (w := w) hx hy
  rwa [wrap_id hr] at this
theorem d_sub' (hr : kd.has (a - b)) (hx : ρ x = .int kd a) (hy : ρ y = .int kd b) : Does P ρ ⟨D, .binOp .sub xt x y yt, t, p, af, g⟩ w (.int kd (a - b)) := by
  have := d_sub (P := P) (xt := xt) (yt := yt) (D := D) (t := t) (p := p) (af := af) (g := g) (w := w) hx hy
  rwa [wrap_id hr] at this
theorem d_mul' (hr : kd.has (a * b)) (hx : ρ x = .int kd a) (hy : ρ y = .int kd b) : Does P ρ ⟨D, .binOp .mul xt x y yt, t, p, af, g⟩ w (.int kd (a * b)) := by
  have := d_mul (P := P) (xt := xt) (yt := yt) (D := D) (t := t) (p := p) (af := af) (g := g) (w := w) hx hy
  rwa [wrap_id hr] at this
theorem d_lss (hx : ρ x = .int kd a) (hy : ρ y = .int kd b) : Does P ρ ⟨D, .binOp .lss xt x y yt, t, p, af, g⟩ w (.bool (decide (a < b))) := d_int (by simp [binOp, Op.intCmp]) hx hy
theorem d_leq (hx : ρ x = .int kd a) (hy : ρ y = .int kd b) : Does P ρ ⟨D, .binOp .leq xt x y yt, t, p, af, g⟩ w (.bool (decide (a ≤ b))) := d_int (by simp [binOp, Op.intCmp]) hx hy
theorem d_gtr (hx : ρ x = .int kd a) (hy : ρ y = .int kd b) : Does P ρ ⟨D, .binOp .gtr xt x y yt, t, p, af, g⟩ w (.bool (decide (a > b))) := d_int (by simp [binOp, Op.intCmp]) hx hy
theorem d_geq (hx : ρ x = .int kd a) (hy : ρ y = .int kd b) : Does P ρ ⟨D, .binOp .geq xt x y yt, t, p, af, g⟩ w (.bool (decide (a ≥ b))) := d_int (by simp [binOp, Op.intCmp]) hx hy
theorem d_eql (hx : ρ x = .int kd a) (hy : ρ y = .int kd b) : Does P ρ ⟨D, .binOp .eql xt x y yt, t, p, af, g⟩ w (.bool (decide (a = b))) := d_int (by simp [binOp, Op.intCmp]; rfl) hx hy
theorem d_neq (hx : ρ x = .int kd a) (hy : ρ y = .int kd b) : Does P ρ ⟨D, .binOp .neq xt x y yt, t, p, af, g⟩ w (.bool (decide (a ≠ b))) := d_int (by simp [binOp, Op.intCmp]; rfl) hx hy
theorem d_quo (hb : b ≠ 0) (hx : ρ x = .int kd a) (hy : ρ y = .int kd b) : Does P ρ ⟨D, .binOp .quo xt x y yt, t, p, af, g⟩ w (.int kd (kd.wrap (a.tdiv b))) := d_int (by simp [binOp, Op.intDiv, hb]) hx hy
theorem d_rem (hb : b ≠ 0) (hx : ρ x = .int kd a) (hy : ρ y = .int kd b) : Does P ρ ⟨D, .binOp .rem xt x y yt, t, p, af, g⟩ w (.int kd (a.tmod b)) := d_int (by simp [binOp, Op.intDiv, hb]) hx hy
theorem d_quo' (ha : 0 ≤ a) (hb : 0 < b) (hr : kd.has (a / b)) (hx : ρ x = .int kd a) (hy : ρ y = .int kd b) : Does P ρ ⟨D, .binOp .quo xt x y yt, t, p, af, g⟩ w (.int kd (a / b)) := by
  have := d_quo (P := P) (xt := xt) (yt := yt) (D := D) (t := t) (p := p) (af := af) (g := g) (w := w) (by omega) hx hy
  rw [Int.tdiv_eq_ediv_of_nonneg ha] at this
  rwa [wrap_id hr] at this
theorem d_rem' (ha : 0 ≤ a) (hb : 0 < b) (hx : ρ x = .int kd a) (hy : ρ y = .int kd b) : Does P ρ ⟨D, .binOp .rem xt x y yt, t, p, af, g⟩ w (.int kd (a % b)) := by
  have := d_rem (P := P) (xt := xt) (yt := yt) (D := D) (t := t) (p := p) (af := af) (g := g) (w := w) (by omega) hx hy
  rwa [Int.tmod_eq_emod_of_nonneg ha] at this
/-- The bits of two numbers of a kind, as the model reckons them. -/
def bitsOf (bo : BinOp) (kd : IntKind) (a b : Int) : Int :=
  let u := BitVec.ofInt kd.bits a
  let v := BitVec.ofInt kd.bits b
  kd.wrap (match bo with
    | .and => (u &&& v).toNat
    | .or => (u ||| v).toNat
    | .xor => (u ^^^ v).toNat
    | _ => (u &&& ~~~v).toNat)
theorem d_and (hx : ρ x = .int kd a) (hy : ρ y = .int kd b) : Does P ρ ⟨D, .binOp .and xt x y yt, t, p, af, g⟩ w (.int kd (bitsOf .and kd a b)) := d_int (by simp [binOp, Op.intBits, bitsOf]) hx hy
theorem d_or (hx : ρ x = .int kd a) (hy : ρ y = .int kd b) : Does P ρ ⟨D, .binOp .or xt x y yt, t, p, af, g⟩ w (.int kd (bitsOf .or kd a b)) := d_int (by simp [binOp, Op.intBits, bitsOf]) hx hy
theorem d_xor (hx : ρ x = .int kd a) (hy : ρ y = .int kd b) : Does P ρ ⟨D, .binOp .xor xt x y yt, t, p, af, g⟩ w (.int kd (bitsOf .xor kd a b)) := d_int (by simp [binOp, Op.intBits, bitsOf]) hx hy
theorem d_andNot (hx : ρ x = .int kd a) (hy : ρ y = .int kd b) : Does P ρ ⟨D, .binOp .andNot xt x y yt, t, p, af, g⟩ w (.int kd (bitsOf .andNot kd a b)) := d_int (by simp [binOp, Op.intBits, bitsOf]) hx hy
theorem d_shl {ky : IntKind} (hb : 0 ≤ b) (hx : ρ x = .int kd a) (hy : ρ y = .int ky b) : Does P ρ ⟨D, .binOp .shl xt x y yt, t, p, af, g⟩ w (.int kd (kd.wrap (a * 2 ^ min b.toNat kd.bits))) := by
  have : ¬ b < 0 := by omega
  unfold Does execOp
  simp only [hx, hy]
  exact does_v (by simp [eqGuard, binOp, Op.shift, this])
theorem d_shr {ky : IntKind} (hb : 0 ≤ b) (hx : ρ x = .int kd a) (hy : ρ y = .int ky b) : Does P ρ ⟨D, .binOp .shr xt x y yt, t, p, af, g⟩ w (.int kd (a.fdiv (2 ^ min b.toNat kd.bits))) := by
  have : ¬ b < 0 := by omega
  unfold Does execOp
  simp only [hx, hy]
  exact does_v (by simp [eqGuard, binOp, Op.shift, this])
end int
section more
variable {xt yt : TypeId}
theorem d_not {q : Bool} (hx : ρ x = .bool q) : Does P ρ ⟨D, .unOp .not xt x, t, p, af, g⟩ w (.bool !q) := by
  unfold Does execOp
  simp only [hx]
  exact does_v (by simp [Op.unary])
theorem d_neg (hx : ρ x = .int kd a) : Does P ρ ⟨D, .unOp .neg xt x, t, p, af, g⟩ w (.int kd (kd.wrap (0 - a))) := by
  unfold Does execOp
  simp only [hx]
  exact does_v (by simp [Op.unary, Op.intArith])
theorem d_inv (hx : ρ x = .int kd a) : Does P ρ ⟨D, .unOp .xor xt x, t, p, af, g⟩ w (.int kd (bitsOf .xor kd (if kd.signed then -1 else kd.max) a)) := by
  unfold Does execOp
  simp only [hx]
  exact does_v (by simp [Op.unary, Op.intBits, bitsOf])
theorem d_conv {kt : IntKind} (hs : (P.underlying xt).isSome = true) (hd : P.underlying yt = some (.int kt)) (hx : ρ x = .int kd a) : Does P ρ ⟨D, .convert xt yt x, t, p, af, g⟩ w (.int kt (kt.wrap a)) := by
  obtain ⟨u, hu⟩ := Option.isSome_iff_exists.1 hs
  unfold Does execOp
  simp only [hx]
  exact does_v (by cases u <;> simp [convert, run_underlying hu, run_underlying hd, Conv.intToInt])
theorem d_conv' {kt : IntKind} (hs : (P.underlying xt).isSome = true) (hd : P.underlying yt = some (.int kt)) (hr : kt.has a) (hx : ρ x = .int kd a) : Does P ρ ⟨D, .convert xt yt x, t, p, af, g⟩ w (.int kt a) := by
  have := d_conv (P := P) (D := D) (t := t) (p := p) (af := af) (g := g) (w := w) hs hd hx
  rwa [wrap_id hr] at this
theorem d_extract {i : Nat} {vs : Array Value} {v : Value} (hx : ρ x = .tuple vs) (hv : vs[i]? = some v) : Does P ρ ⟨D, .extract x i, t, p, af, g⟩ w v := by
  unfold Does execOp
  simp only [hx]
  exact does_v (by simp [Instr.extract, hv])
/-- A pointer that is not nil. -/
theorem d_nilCheck {a : Addr} (hx : ρ x = .pointer (some a)) : Does P ρ ⟨D, .nilCheck x, t, p, af, g⟩ w (.pointer (some a)) := by
  unfold Does execOp
  simp only [hx]
  rfl
theorem d_makeFunc {f : FuncId} {cap : Array Operand} {vs : Array Value} (h : cap.map ρ = vs) : Does P ρ ⟨D, .makeFunc (.func f) #[] cap, t, p, af, g⟩ w (.func (.func f) #[] vs) := by
  subst h
  unfold Does execOp
  exact does_v (by simp [Instr.makeFunc])
theorem d_fieldAddr {f i : Nat} {fs : Array Field} {fd : Field} {a : Addr} {inf : TypeInfo} (hu : P.underlying xt = some (.struct fs)) (hf : fs[f]? = some fd) (hi : P.info? fd.type = some inf) (hn : (inf.size == 0) = false) (ho : fd.offset = i) (hx : ρ x = .pointer (some a)) :
    Does P ρ ⟨D, .fieldAddr xt x f, t, p, af, g⟩ w (.pointer (some (a.add i))) := by
  subst ho
  have : inf.size ≠ 0 := by simpa using hn
  unfold Does execOp
  simp only [hx]
  exact does_v (by simp [Instr.fieldAt, run_underlying hu, hf, Instr.sureAddr, fieldPlace, sizeOf, typeInfo, hi, this])
/-- A variable of one cell is read. -/
theorem d_load {td : TypeDesc} {a : Addr} {v : Value} (hu : P.underlying xt = some td) (hk : isAggD td = false) (hx : ρ x = .pointer (some a)) (hc : w.cell? a = some v) : Does P ρ ⟨D, .load xt x, t, p, af, g⟩ w v := by
  unfold Does execOp
  simp only [hx]
  refine does_v ?_
  simp [Instr.loadAt, Instr.sureAddr, loadVar, run_isAgg hu, hk, hc]
/-- A struct's or an array's variable is read whole. -/
theorem d_loadAgg {td : TypeDesc} {inf : TypeInfo} {a : Addr} {cs : List Value} (hu : P.underlying xt = some td) (hk : isAggD td = true) (hi : P.info? xt = some inf) (hn : inf.size = cs.length) (hx : ρ x = .pointer (some a)) (hc : ∀ j v, cs[j]? = some v → w.cell? (a.add j) = some v) :
    Does P ρ ⟨D, .load xt x, t, p, af, g⟩ w (.agg cs.toArray) := by
  unfold Does execOp
  simp only [hx]
  refine does_v ?_
  have hl := run_loadCells_list (P := P) w a cs hc
  simp [Instr.loadAt, Instr.sureAddr, loadVar, run_isAgg hu, hk, sizeOf, typeInfo, hi, hn, hl]
theorem d_indexAddr {el : TypeId} {inf : TypeInfo} {sz n c : Nat} {ad : Addr} {i : Int} (hu : P.underlying xt = some (.slice el)) (hi : P.info? el = some inf) (hn : inf.size = sz) (hx : ρ x = .slice (some ad) n c) (hy : ρ y = .int kd i) (h0 : 0 ≤ i) (h1 : i < n) :
    Does P ρ ⟨D, .indexAddr xt x y, t, p, af, g⟩ w (.pointer (some (ad.add (i.toNat * sz)))) := by
  unfold Does execOp
  simp only [hx, hy]
  exact does_v (by simp [Instr.indexAt, asIntOf, run_underlying hu, sizeOf, typeInfo, hi, hn, h0, h1])
theorem d_indexAddrArr {el : TypeId} {inf : TypeInfo} {sz n : Nat} {ad : Addr} {i : Int} (hu : P.underlying xt = some (.array n el)) (hi : P.info? el = some inf) (hn : inf.size = sz) (hx : ρ x = .pointer (some ad)) (hy : ρ y = .int kd i) (h0 : 0 ≤ i) (h1 : i < n) :
    Does P ρ ⟨D, .indexAddr xt x y, t, p, af, g⟩ w (.pointer (some (ad.add (i.toNat * sz)))) := by
  unfold Does execOp
  simp only [hx, hy]
  exact does_v (by simp [Instr.indexAt, asIntOf, run_underlying hu, Instr.sureAddr, sizeOf, typeInfo, hi, hn, h0, h1])
theorem d_indexStr {s : ByteArray} {i : Int} (hu : P.underlying xt = some .string) (hx : ρ x = .string s) (hy : ρ y = .int kd i) (h0 : 0 ≤ i) (h1 : i.toNat < s.size) :
    Does P ρ ⟨D, .index xt x y, t, p, af, g⟩ w (.int .u8 (s[i.toNat]).toNat) := by
  unfold Does execOp
  simp only [hx, hy]
  exact does_v (by simp [Instr.index, asIntOf, run_underlying hu, h0, h1])
theorem d_indexArr {el : TypeId} {inf : TypeInfo} {n : Nat} {cs : Array Value} {i : Int} {v : Value} {td : TypeDesc} (hu : P.underlying xt = some (.array n el)) (hi : P.info? el = some inf) (hn : inf.size = 1) (hue : P.underlying el = some td) (hk : isAggD td = false)
    (hx : ρ x = .agg cs) (hy : ρ y = .int kd i) (h0 : 0 ≤ i) (h1 : i < n) (hv : cs[i.toNat]? = some v) : Does P ρ ⟨D, .index xt x y, t, p, af, g⟩ w v := by
  unfold Does execOp
  simp only [hx, hy]
  refine does_v ?_
  simp [Instr.index, asIntOf, run_underlying hu, run_isAgg hue, hk, sizeOf, typeInfo, hi, hn, h0, h1, part, hv]
/-- xs[:h] -/
theorem d_sliceTo {el : TypeId} {inf : TypeInfo} {n c : Nat} {ad : Option Addr} {i : Int} (hu : P.underlying xt = some (.slice el)) (hi : P.info? el = some inf) (hx : ρ x = .slice ad n c) (hy : ρ y = .int kd i) (h0 : 0 ≤ i) (h1 : i ≤ c) :
    Does P ρ ⟨D, .slice xt x none (some y) none, t, p, af, g⟩ w (.slice ad i.toNat c) := by
  unfold Does execOp
  simp only [hx, hy, Option.map_some, Option.map_none]
  refine does_v ?_
  have ha : (ad.map fun a : Addr => a.add 0) = ad := by cases ad <;> simp [Addr.add]
  simp [Instr.sliceAt, Instr.slice, run_underlying hu, Instr.sliceBounds, Instr.sliceBound, asIntOf, h0, h1, sizeOf, typeInfo, hi, ha]
/-- xs[l:] -/
theorem d_sliceFrom {el : TypeId} {inf : TypeInfo} {sz n c : Nat} {ad : Option Addr} {i : Int} (hu : P.underlying xt = some (.slice el)) (hi : P.info? el = some inf) (hn : inf.size = sz) (hx : ρ x = .slice ad n c) (hy : ρ y = .int kd i) (h0 : 0 ≤ i) (h1 : i ≤ n) :
    Does P ρ ⟨D, .slice xt x (some y) none none, t, p, af, g⟩ w (.slice (if c = i.toNat then ad else ad.map (·.add (i.toNat * sz))) (n - i.toNat) (c - i.toNat)) := by
  unfold Does execOp
  simp only [hx, hy, Option.map_some, Option.map_none]
  refine does_v ?_
  simp [Instr.sliceAt, Instr.slice, run_underlying hu, Instr.sliceBounds, Instr.sliceBound, asIntOf, h0, h1, sizeOf, typeInfo, hi, hn]
/-- xs[l:h] -/
theorem d_slice {ky : IntKind} {el : TypeId} {inf : TypeInfo} {sz n c : Nat} {ad : Option Addr} {i j : Int} (hu : P.underlying xt = some (.slice el)) (hi : P.info? el = some inf) (hn : inf.size = sz) (hx : ρ x = .slice ad n c) (hy : ρ y = .int kd i) (hz : ρ z = .int ky j) (h0 : 0 ≤ i) (h1 : i ≤ j) (h2 : j ≤ c) :
    Does P ρ ⟨D, .slice xt x (some y) (some z) none, t, p, af, g⟩ w (.slice (if c = i.toNat then ad else ad.map (·.add (i.toNat * sz))) (j.toNat - i.toNat) (c - i.toNat)) := by
  unfold Does execOp
  simp only [hx, hy, hz, Option.map_some, Option.map_none]
  refine does_v ?_
  have h3 : 0 ≤ j := by omega
  have h4 : i ≤ max j 0 := by omega
  simp [Instr.sliceAt, Instr.slice, run_underlying hu, Instr.sliceBounds, Instr.sliceBound, asIntOf, h0, h2, h3, h4, sizeOf, typeInfo, hi, hn]
theorem d_len {el : TypeId} {n c : Nat} {ad : Option Addr} (hu : P.underlying xt = some (.slice el)) (hx : ρ x = .slice ad n c) : Does P ρ ⟨D, .call { callee := .builtin .len, args := #[x], argTypes := #[xt] }, t, p, af, g⟩ w (.int .i64 n) := by
  unfold Does execOp
  simp [resolve, invoke, builtin, hx, Builtin.len_, run_underlying hu, goInt]
theorem d_lenStr {s : ByteArray} (hu : P.underlying xt = some .string) (hx : ρ x = .string s) : Does P ρ ⟨D, .call { callee := .builtin .len, args := #[x], argTypes := #[xt] }, t, p, af, g⟩ w (.int .i64 s.size) := by
  unfold Does execOp
  simp [resolve, invoke, builtin, hx, Builtin.len_, run_underlying hu, goInt]
theorem d_lenArr {el : TypeId} {n : Nat} (hu : P.underlying xt = some (.array n el)) : Does P ρ ⟨D, .call { callee := .builtin .len, args := #[x], argTypes := #[xt] }, t, p, af, g⟩ w (.int .i64 n) := by
  unfold Does execOp
  simp [resolve, invoke, builtin, Builtin.len_, run_underlying hu, goInt]
theorem d_min {yt : TypeId} (hx : ρ x = .int kd a) (hy : ρ y = .int kd b) : Does P ρ ⟨D, .call { callee := .builtin .min, args := #[x, y], argTypes := #[xt, yt] }, t, p, af, g⟩ w (.int kd (min a b)) := by
  unfold Does execOp
  simp [resolve, invoke, builtin, hx, hy, Builtin.min_, Builtin.min2]
  omega
theorem d_max {yt : TypeId} (hx : ρ x = .int kd a) (hy : ρ y = .int kd b) : Does P ρ ⟨D, .call { callee := .builtin .max, args := #[x, y], argTypes := #[xt, yt] }, t, p, af, g⟩ w (.int kd (max a b)) := by
  unfold Does execOp
  simp [resolve, invoke, builtin, hx, hy, Builtin.max_, Builtin.max2]
  omega
end more
end does
end Go.Fw
