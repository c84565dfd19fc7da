/- A region that draws its order: what only reads is taken in an order of one's own; what makes or turns memory by cases. -/
import Derived.Test.YtbhjdbkdnandfaaFl
namespace Go.Fw
open Go Go.RowKit Asn
/-- P: by its operands alone; S: by what stands (it may come behind whatever makes new memory); G: it makes new memory at most; H: it may do more. -/
inductive Kind where
  | P | S | G | H
  deriving DecidableEq
variable {P : Program} {N : Nat} {ops : Array Oper}
def DoesA (P : Program) (ops : Array Oper) (o : Oper) (a : Act) (w : World) (v : Value) : Prop :=
  (Region.wanted o (yielded ops a.tmps) = true ∧ Does P a.eval o w v) ∨ (Region.wanted o (yielded ops a.tmps) = false ∧ v = undef)
def one (P : Program) (ops : Array Oper) (o : Oper) (K : Act → World → Prop) (a : Act) (w : World) : Prop :=
  if Region.wanted o (yielded ops a.tmps) = true then o.wp P a w K (fun _ _ _ => False) else K (a.put o.dst undef) w
def stepK (P : Program) (ops : Array Oper) (kd : Kind) (o : Oper) (K : Act → World → Prop) (a : Act) (w : World) : Prop :=
  match kd with
  | .P => ∃ v, (∀ w', DoesA P ops o a w' v) ∧ K (a.put o.dst v) w
  | .S => ∃ v, (∀ w', Below w.heap.size w w' → DoesA P ops o a w' v) ∧ K (a.put o.dst v) w
  | .G => one P ops o (fun a' w' => Below w.heap.size w w' ∧ K a' w') a w
  | .H => one P ops o K a w
def kindOf (ks : List Kind) (i : Nat) : Kind := ks.getD i .H
def wpT (P : Program) (ops : Array Oper) (ks : List Kind) (n : Act → World → Prop) : Nat → Array Bool → Act → World → Prop
  | 0, ls, a, w => Region.ready .any ops ls = [] ∧ n a w
  | f + 1, ls, a, w => (Region.ready .any ops ls = [] → n a w) ∧ ∀ i ∈ Region.ready .any ops ls, ∃ o, ops[i]? = some o ∧ stepK P ops (kindOf ks i) o (wpT P ops ks n f (ls.setIfInBounds i true)) a w
theorem wp_to {o : Oper} {a : Act} {w : World} {K K' : Act → World → Prop} {Q' : Exit → Act → World → Prop} (hK : ∀ a w, K a w → K' a w) (h : o.wp P a w K (fun _ _ _ => False)) : o.wp P a w K' Q' := by
  unfold Oper.wp at h ⊢
  revert h
  generalize Sem.run P (execOp a.eval o) w = res
  intro h
  cases res with
  | ok nx w' =>
    cases nx <;> simp only [Oper.upon] at h ⊢ <;>
      first
        | exact hK _ _ h
        | exact h
        | exact Rows.mono h (fun v w'' he => hK _ _ he)
        | exact Calls.mono h (fun e w'' he => by
            cases e with
            | returned v => exact hK _ _ he
            | panicked c => exact he.elim
            | outgrown => obtain ⟨_, _, hf⟩ := he; exact hf.elim)
  | halt x w' => cases x <;> simp only [Oper.upon] at h ⊢
theorem one_mono {o : Oper} {a : Act} {w : World} {K K' : Act → World → Prop} (hK : ∀ a w, K a w → K' a w) (h : one P ops o K a w) : one P ops o K' a w := by
  unfold one at h ⊢
  split
  · rename_i hw; rw [if_pos hw] at h; exact wp_to hK h
  · rename_i hw; rw [if_neg hw] at h; exact hK _ _ h
theorem stepK_mono {kd : Kind} {o : Oper} {K K' : Act → World → Prop} {a : Act} {w : World} (hK : ∀ a w, K a w → K' a w) (h : stepK P ops kd o K a w) : stepK P ops kd o K' a w := by
  cases kd with
  | P => obtain ⟨v, h1, h2⟩ := h; exact ⟨v, h1, hK _ _ h2⟩
  | S => obtain ⟨v, h1, h2⟩ := h; exact ⟨v, h1, hK _ _ h2⟩
  | G => exact one_mono (fun e w h => ⟨h.1, hK _ _ h.2⟩) h
  | H => exact one_mono hK h
theorem does_op {o : Oper} {K : Act → World → Prop} {Q' : Exit → Act → World → Prop} {a : Act} {w : World} {v : Value} {i : Nat} (ho : ops[i]? = some o) (h : DoesA P ops o a w v) (hk : K (a.put o.dst v) w) : wpOp P ops Q' i K a w := by
  unfold wpOp
  simp only [ho]
  rcases h with ⟨hw, h⟩ | ⟨hw, rfl⟩
  · rw [if_pos hw]
    refine .inl ?_
    unfold Oper.wp
    rw [h, Oper.upon_value]
    exact hk
  · rw [hw]
    exact hk
theorem one_op {o : Oper} {K : Act → World → Prop} {Q' : Exit → Act → World → Prop} {a : Act} {w : World} {i : Nat} (ho : ops[i]? = some o) (h : one P ops o K a w) : wpOp P ops Q' i K a w := by
  unfold wpOp
  simp only [ho]
  unfold one at h
  split
  · rename_i hw; rw [if_pos hw] at h; exact .inl (wp_to (fun _ _ h => h) h)
  · rename_i hw; rw [if_neg hw] at h; exact h
theorem stepK_op {kd : Kind} {o : Oper} {K : Act → World → Prop} {a : Act} {w : World} {i : Nat} {Q' : Exit → Act → World → Prop} (ho : ops[i]? = some o) (h : stepK P ops kd o K a w) : wpOp P ops Q' i K a w := by
  cases kd with
  | P => obtain ⟨v, h1, h2⟩ := h; exact does_op ho (h1 w) h2
  | S => obtain ⟨v, h1, h2⟩ := h; exact does_op ho (h1 w (Below.refl _ _)) h2
  | G => exact one_op ho (one_mono (fun e w h => h.2) h)
  | H => exact one_op ho h
theorem wpT_any {ks : List Kind} {n : Act → World → Prop} {Q : Exit → Act → World → Prop} (hQ : ∀ a w, n a w → Q .normal a w) : ∀ (f : Nat) (ls : Array Bool) (a : Act) (w : World), wpT P ops ks n f ls a w → wpAny P .any ops Q f ls a w
  | 0, ls, a, w, h => ⟨h.1, hQ _ _ h.2⟩
  | f + 1, ls, a, w, h => ⟨fun hr => hQ _ _ (h.1 hr), fun i hi => by
      obtain ⟨o, ho, hs⟩ := h.2 i hi
      exact wpOp_mono (fun a w h => wpT_any hQ f _ a w h) (stepK_op ho hs)⟩

/-! an operation that reads is moved ahead -/
def reads (kd : Kind) : Bool := match kd with | .P | .S => true | _ => false
def YS (P : Program) (ops : Array Oper) (kd : Kind) (o : Oper) (v : Value) (a : Act) (w : World) : Prop :=
  match kd with
  | .P => ∀ w', DoesA P ops o a w' v
  | _ => ∀ w', Below w.heap.size w w' → DoesA P ops o a w' v
theorem YS.now {kd : Kind} {o : Oper} {v : Value} {a : Act} {w : World} (h : YS P ops kd o v a w) : DoesA P ops o a w v := by
  cases kd <;> first | exact h w | exact h w (Below.refl _ _)
theorem YS.of_below {kd : Kind} {o : Oper} {v : Value} {a : Act} {w w1 : World} (h : YS P ops kd o v a w) (hb : Below w.heap.size w w1) : YS P ops kd o v a w1 := by
  cases kd <;> first | exact h | exact fun w' hb' => h w' (hb.trans (hb'.mono hb.size))
theorem does_put {o : Oper} {a : Act} {w : World} {u v : Value} {d : Option Tmp} (hs : ∀ cs b, o.op ≠ .select cs b) (hd : ∀ t, d = some t → t ∉ o.looksAt ops) : DoesA P ops o (a.put d u) w v ↔ DoesA P ops o a w v := by
  unfold DoesA Does
  rw [wanted_put o a d u hd, execOp_put o hs a d u hd]
theorem YS.put {kd : Kind} {o : Oper} {a : Act} {w : World} {u v : Value} {d : Option Tmp} (hs : ∀ cs b, o.op ≠ .select cs b) (hd : ∀ t, d = some t → t ∉ o.looksAt ops) (h : YS P ops kd o v a w) : YS P ops kd o v (a.put d u) w := by
  cases kd <;> first | exact fun w' => (does_put hs hd).2 (h w') | exact fun w' hb => (does_put hs hd).2 (h w' hb)
theorem YS.defer {kd : Kind} {o : Oper} {a : Act} {w : World} {v : Value} (q : Deferred) (h : YS P ops kd o v a w) : YS P ops kd o v { a with defers := q :: a.defers } w := by
  cases kd <;> exact h
/-- compat i j: j may be carried out ahead of i, or behind it. -/
def compat : Kind → Kind → Bool
  | .P, _ => true
  | .S, .H => false
  | .S, _ => true
  | _, _ => false
theorem one_put {ki : Kind} {oi oj : Oper} {v : Value} {K : Act → World → Prop} {a : Act} {w : World} (hap : oi.apart ops oj = true) (hsi : ∀ cs b, oi.op ≠ .select cs b) (hsj : ∀ cs b, oj.op ≠ .select cs b) {R : World → Prop}
    (hR : ∀ w', R w' → ∀ a', YS P ops ki oi v a' w → YS P ops ki oi v a' w') (hy : YS P ops ki oi v a w) (h : one P ops oj (fun a' w' => R w' ∧ K a' w') (a.put oi.dst v) w) :
    one P ops oj (fun a' w' => R w' ∧ YS P ops ki oi v a' w' ∧ K (a'.put oi.dst v) w') a w := by
  obtain ⟨h1, h2, h3⟩ := Oper.apart_spec hap
  unfold one at h ⊢
  rw [wanted_put oj a oi.dst v h1] at h
  split
  · rename_i hw
    rw [if_pos hw] at h
    unfold Oper.wp at h ⊢
    rw [execOp_put oj hsj a oi.dst v h1] at h
    generalize (execOp a.eval oj).run P w = r at *
    cases r with
    | ok n w' =>
      cases n <;> simp only [Oper.upon] at h ⊢
      case value u => exact ⟨h.1, hR _ h.1 _ (hy.put hsi h3), by rw [← Act.put_comm a v u h2]; exact h.2⟩
      case skip => exact ⟨h.1, hR _ h.1 _ (hy.put hsi h3), by rw [← Act.put_comm a v undef h2]; exact h.2⟩
      case defer d =>
        refine ⟨h.1, hR _ h.1 _ ((hy.defer d).put hsi h3), ?_⟩
        rw [← Act.put_comm _ v undef h2, ← Act.put_defers]
        exact h.2
      case enter f args =>
        refine Calls.mono h fun e w'' he => ?_
        cases e with
        | returned u => exact ⟨he.1, hR _ he.1 _ (hy.put hsi h3), by rw [← Act.put_comm a v u h2]; exact he.2⟩
        | panicked c => exact he
        | outgrown => exact he
      case row row args => exact Rows.mono h fun u w'' he => ⟨he.1, hR _ he.1 _ (hy.put hsi h3), by rw [← Act.put_comm a v u h2]; exact he.2⟩
    | halt x w' => cases x <;> simp only [Oper.upon] at h ⊢
  · rename_i hw
    rw [if_neg hw] at h
    exact ⟨h.1, hR _ h.1 _ (hy.put hsi h3), by rw [← Act.put_comm a v undef h2]; exact h.2⟩
theorem stepK_put {ki kj : Kind} {oi oj : Oper} {v : Value} {K : Act → World → Prop} {a : Act} {w : World} (hr : reads ki = true) (hc : compat ki kj = true) (hap : oi.apart ops oj = true) (hsi : ∀ cs b, oi.op ≠ .select cs b) (hsj : ∀ cs b, oj.op ≠ .select cs b)
    (hy : YS P ops ki oi v a w) (h : stepK P ops kj oj K (a.put oi.dst v) w) : stepK P ops kj oj (fun a' w' => YS P ops ki oi v a' w' ∧ K (a'.put oi.dst v) w') a w := by
  obtain ⟨h1, h2, h3⟩ := Oper.apart_spec hap
  cases kj with
  | P =>
    obtain ⟨u, hu, hk⟩ := h
    exact ⟨u, fun w' => (does_put hsj h1).1 (hu w'), hy.put hsi h3, by rw [← Act.put_comm a v u h2]; exact hk⟩
  | S =>
    obtain ⟨u, hu, hk⟩ := h
    exact ⟨u, fun w' hb => (does_put hsj h1).1 (hu w' hb), hy.put hsi h3, by rw [← Act.put_comm a v u h2]; exact hk⟩
  | G => exact one_put (R := fun w' => Below w.heap.size w w') hap hsi hsj (fun w' hb a' hy' => hy'.of_below hb) hy h
  | H =>
    have hP : ki = .P := by cases ki <;> simp_all [compat]
    subst hP
    exact one_mono (fun a w h => h.2) (one_put (ki := .P) (R := fun _ => True) hap hsi hsj (fun w' _ a' hy' => hy') hy (one_mono (fun a w h => ⟨trivial, h⟩) h))

/-! the tables -/
def depsOf (o : Oper) : List Nat := (o.after.toList.filter (Region.binds .any)).map (·.on)
/-- A: of each operation all that is ahead of it. -/
def ancOk (ops : Array Oper) (A : List (List Nat)) : Bool :=
  A.length == ops.size && (List.range ops.size).all fun j => match ops[j]?, A[j]? with
    | some o, some r => (depsOf o).all (fun d => r.contains d && (A.getD d []).all (fun m => r.contains m)) && r.all (fun m => (depsOf o).contains m || (depsOf o).any (fun d => (A.getD d []).contains m))
    | _, _ => false
/-- i may be taken now. -/
def takeOk (ops : Array Oper) (ks : List Kind) (A : List (List Nat)) (ls : List Bool) (i : Nat) : Bool :=
  reads (kindOf ks i) && (Region.ready .any ops ls.toArray).contains i &&
  (List.range ops.size).all fun j => (j == i) || ls.getD j true || (A.getD j []).contains i ||
    (match ops[i]?, ops[j]? with
      | some oi, some oj => Oper.apart ops oi oj && compat (kindOf ks i) (kindOf ks j)
      | _, _ => false)
def Closed (A : List (List Nat)) (ls : Array Bool) : Prop := ∀ j m, ls.getD j false = true → m ∈ A.getD j [] → ls.getD m false = true
theorem closed_set {A : List (List Nat)} {ls : Array Bool} {i : Nat} (hA : ancOk ops A = true) (hc : Closed A ls) (hi : i ∈ Region.ready .any ops ls) : Closed A (ls.setIfInBounds i true) := by
  obtain ⟨hiu, o, ho, hall⟩ := mem_ready.1 hi
  intro j m hj hm
  by_cases hji : i = j
  · subst hji
    have hlt : i < ops.size := (Array.getElem?_eq_some_iff.1 ho).1
    simp only [ancOk, Bool.and_eq_true, List.all_eq_true, List.mem_range, beq_iff_eq] at hA
    have h1 := hA.2 i hlt
    rw [ho] at h1
    have hAl : i < A.length := by omega
    rw [List.getElem?_eq_getElem hAl] at h1
    simp only [Bool.and_eq_true, List.all_eq_true, Bool.or_eq_true, List.any_eq_true, List.contains_iff_mem] at h1
    have hm' : m ∈ A[i] := by simpa [List.getD_eq_getElem?_getD, hAl] using hm
    refine getD_set_true ?_
    have hdep : ∀ d, d ∈ depsOf o → ls.getD d false = true := by
      intro d hd
      obtain ⟨e, he, rfl⟩ := List.mem_map.1 hd
      obtain ⟨he1, he2⟩ := List.mem_filter.1 he
      exact hall e (by simpa using he1) he2
    rcases h1.2 m hm' with h2 | ⟨d, hd, h2⟩
    · exact hdep m h2
    · exact hc d m (hdep d hd) h2
  · rw [getD_set_ne false hji] at hj
    exact getD_set_true (hc j m hj hm)
theorem wpT_first {ks : List Kind} {A : List (List Nat)} {n : Act → World → Prop} {i : Nat} {oi : Oper} {v : Value} (hA : ancOk ops A = true) (hi : ops[i]? = some oi) (hsel : ∀ (j : Nat) (o : Oper) cs b, ops[j]? = some o → o.op ≠ .select cs b) (hrd : reads (kindOf ks i) = true) :
    ∀ (fuel : Nat) (ls : Array Bool) (a : Act) (w : World),
      (∀ j oj, ops[j]? = some oj → j ≠ i → ls.getD j true = false → i ∉ A.getD j [] → oi.apart ops oj = true ∧ compat (kindOf ks i) (kindOf ks j) = true) → Closed A ls →
      i ∈ Region.ready .any ops ls → YS P ops (kindOf ks i) oi v a w →
      wpT P ops ks n fuel (ls.setIfInBounds i true) (a.put oi.dst v) w → wpT P ops ks n (fuel + 1) ls a w := by
  intro fuel
  have self : ∀ {K : Act → World → Prop} {a : Act} {w : World}, YS P ops (kindOf ks i) oi v a w → K (a.put oi.dst v) w → stepK P ops (kindOf ks i) oi K a w := by
    intro K a w hy hk
    cases hkd : kindOf ks i with
    | P => rw [hkd] at hy; exact ⟨v, hy, hk⟩
    | S => rw [hkd] at hy; exact ⟨v, hy, hk⟩
    | G => rw [hkd] at hrd; cases hrd
    | H => rw [hkd] at hrd; cases hrd
  induction fuel with
  | zero =>
    intro ls a w _ _ hr hy H
    refine ⟨fun h => (by rw [h] at hr; cases hr), fun j hj => ?_⟩
    by_cases hji : j = i
    · subst hji; exact ⟨oi, hi, self hy H⟩
    · have := ready_mono hj hji
      rw [H.1] at this
      cases this
  | succ fuel ih =>
    intro ls a w hfree hcl hr hy H
    refine ⟨fun h => (by rw [h] at hr; cases hr), fun j hj => ?_⟩
    by_cases hji : j = i
    · subst hji; exact ⟨oi, hi, self hy H⟩
    · obtain ⟨oj, hoj, h1⟩ := H.2 j (ready_mono hj hji)
      refine ⟨oj, hoj, ?_⟩
      obtain ⟨hjun, oj', hoj', hall⟩ := mem_ready.1 hj
      rw [hoj] at hoj'
      obtain rfl := Option.some.inj hoj'
      have hiun := (mem_ready.1 hr).1
      have hnot : i ∉ A.getD j [] := by
        intro hm
        -- what is ahead of a ready operation is listed
        have hlt : j < ops.size := (Array.getElem?_eq_some_iff.1 hoj).1
        have hA' := hA
        simp only [ancOk, Bool.and_eq_true, List.all_eq_true, List.mem_range, beq_iff_eq] at hA'
        have h2 := hA'.2 j hlt
        have hAl : j < A.length := by omega
        rw [hoj, List.getElem?_eq_getElem hAl] at h2
        simp only [Bool.and_eq_true, List.all_eq_true, Bool.or_eq_true, List.any_eq_true, List.contains_iff_mem] at h2
        have hm' : i ∈ A[j] := by simpa [List.getD_eq_getElem?_getD, hAl] using hm
        have hdep : ∀ d, d ∈ depsOf oj → ls.getD d false = true := by
          intro d hd
          obtain ⟨e, he, rfl⟩ := List.mem_map.1 hd
          obtain ⟨he1, he2⟩ := List.mem_filter.1 he
          exact hall e (by simpa using he1) he2
        have hl : ls.getD i false = true := by
          rcases h2.2 i hm' with h3 | ⟨d, hd, h3⟩
          · exact hdep i h3
          · exact hcl d i (hdep d hd) h3
        rcases Nat.lt_or_ge i ls.size with h' | h'
        · simp [h'] at hl hiun
          rw [hl] at hiun
          cases hiun
        · simp [h'] at hl
      obtain ⟨hap, hcp⟩ := hfree j oj hoj hji hjun hnot
      have h2 := stepK_put hrd hcp hap (fun cs b => hsel i oi cs b hi) (fun cs b => hsel j oj cs b hoj) hy h1
      refine stepK_mono (fun a' w' h3 => ih (ls.setIfInBounds j true) a' w' ?_ (closed_set hA hcl hj) (ready_mono hr (Ne.symm hji)) h3.1 ?_) h2
      · intro k ok hk hki hun hno
        refine hfree k ok hk hki ?_ hno
        by_cases hjk : j = k
        · subst hjk; exact hjun
        · rw [getD_set_ne true hjk] at hun; exact hun
      · rw [Array.setIfInBounds_comm _ _ hji]
        exact h3.2

/-! the rules -/
structure TabOk (ops : Array Oper) (A : List (List Nat)) : Prop where
  anc : ancOk ops A = true
  sel : Region.noSelect ops = true
structure T (P : Program) (N : Nat) (ops : Array Oper) (ks : List Kind) (A : List (List Nat)) (n : Env → World → Prop) (f : Nat) (ls : List Bool) (e : Env) (w : World) : Prop where
  of :: (out : TabOk ops A → Closed A ls.toArray → wpT P ops ks (fun a w => ∃ e, a = act N e ∧ n e w) f ls.toArray (act N e) w)
section
variable {ks : List Kind} {A : List (List Nat)} {n : Env → World → Prop} {X : Nat → Env → World → Prop} {r : Env → World → Prop} {e : Env} {w : World} {ls : List Bool} {f i : Nat}
theorem W_draw {id : Nat} {os : List Oper} (ks : List Kind) (A : List (List Nat)) (hm : P.follows .mixedOrders = true) (hA : (ancOk os.toArray A && Region.noSelect os.toArray) = true)
    (h : ∀ w', Below w.heap.size w w' → T P N os.toArray ks A n os.length (List.replicate os.length false) e w') : W P N (.region id os.toArray true) n X r e w := by
  rw [Bool.and_eq_true] at hA
  refine ⟨wp_region_any hm ?_⟩
  have h0 : Below w.heap.size w { w with drawn := w.drawn + 1 } := ⟨rfl, rfl, rfl, Nat.le_refl _, fun _ _ => rfl⟩
  have h1 := (h _ h0).out ⟨hA.1, hA.2⟩ (by
    intro j m hj
    exfalso
    have hl : ∀ (q : Nat), (List.replicate os.length false).toArray.getD q false = false := by
      intro q
      by_cases hq : q < os.length
      · simp [hq]
      · simp [hq]
    rw [hl j] at hj
    cases hj)
  have h2 := wpT_any (Q := toQ N n X r) (fun a w h => h) _ _ _ _ h1
  have h3 : (List.replicate os.length false).toArray = Array.replicate os.toArray.size false := by simp
  rw [h3] at h2
  simpa using h2
theorem set_toArray (ls : List Bool) (i : Nat) : ls.toArray.setIfInBounds i true = (ls.set i true).toArray := by simp
theorem T_take {o : Oper} {v : Value} (ho : ops[i]? = some o) (hk : takeOk ops ks A ls i = true) (hy : YS P ops (kindOf ks i) o v (act N e) w) (h : T P N ops ks A n f (ls.set i true) (updO e o.dst v) w) : T P N ops ks A n (f + 1) ls e w := by
  refine ⟨fun ht hc => ?_⟩
  simp only [takeOk, Bool.and_eq_true, List.all_eq_true, List.mem_range, Bool.or_eq_true, beq_iff_eq, List.contains_iff_mem] at hk
  obtain ⟨⟨h1, h2⟩, h3⟩ := hk
  refine wpT_first ht.anc ho (Region.noSelect_spec ht.sel) h1 f _ _ _ ?_ hc h2 hy ?_
  · intro j oj hj hji hun hno
    have h4 := h3 j (Array.getElem?_eq_some_iff.1 hj).1
    rcases h4 with ((h4 | h4) | h4) | h4
    · exact absurd h4 hji
    · simp [List.getD_eq_getElem?_getD] at hun h4
      rw [hun] at h4
      cases h4
    · exact absurd h4 hno
    · rw [ho, hj] at h4
      simpa using h4
  · have := h.out ht (by rw [← set_toArray]; exact closed_set ht.anc hc h2)
    rw [put_act, set_toArray]
    exact this
theorem T_P {d : Option Nat} {op : Op} {t : TypeId} {p : String} {af : Array Edge} {v : Value} (i : Nat) (ho : ops[i]? = some ⟨d, op, t, p, af, none⟩) (hk : (takeOk ops ks A ls i && kindOf ks i == .P) = true) (hd : ∀ w', Does P (evE N e) ⟨d, op, t, p, af, none⟩ w' v) (h : T P N ops ks A n f (ls.set i true) (updO e d v) w) : T P N ops ks A n (f + 1) ls e w := by
  rw [Bool.and_eq_true, beq_iff_eq] at hk
  refine T_take ho hk.1 ?_ h
  rw [hk.2]
  exact fun w' => .inl ⟨rfl, by rw [eval_act]; exact hd w'⟩
theorem T_S {d : Option Nat} {op : Op} {t : TypeId} {p : String} {af : Array Edge} {v : Value} (i : Nat) (ho : ops[i]? = some ⟨d, op, t, p, af, none⟩) (hk : (takeOk ops ks A ls i && kindOf ks i == .S) = true) (hd : ∀ w', Below w.heap.size w w' → Does P (evE N e) ⟨d, op, t, p, af, none⟩ w' v) (h : T P N ops ks A n f (ls.set i true) (updO e d v) w) : T P N ops ks A n (f + 1) ls e w := by
  rw [Bool.and_eq_true, beq_iff_eq] at hk
  refine T_take ho hk.1 ?_ h
  rw [hk.2]
  exact fun w' hb => .inl ⟨rfl, by rw [eval_act]; exact hd w' hb⟩
/-- guarded, and wanted -/
theorem T_on {d : Option Nat} {op : Op} {t : TypeId} {p : String} {af : Array Edge} {v : Value} {g dj : Nat} {og : Oper} {want : Bool} (i : Nat) (ho : ops[i]? = some ⟨d, op, t, p, af, some (g, want)⟩) (hk : takeOk ops ks A ls i = true) (hg : ops[g]? = some og) (hgd : og.dst = some dj) (hv : evE N e (.tmp dj) = .bool want) (hd : ∀ w', Below w.heap.size w w' → Does P (evE N e) ⟨d, op, t, p, af, none⟩ w' v) (hkd : (kindOf ks i == .S) = true) (h : T P N ops ks A n f (ls.set i true) (updO e d v) w) : T P N ops ks A n (f + 1) ls e w := by
  rw [beq_iff_eq] at hkd
  refine T_take ho hk ?_ h
  rw [hkd]
  exact fun w' hb => .inl ⟨wanted_yes hg hgd hv, by rw [eval_act]; exact hd w' hb⟩
/-- guarded, and not wanted -/
theorem T_off {d : Option Nat} {op : Op} {t : TypeId} {p : String} {af : Array Edge} {g dj : Nat} {og : Oper} {want : Bool} (i : Nat) (ho : ops[i]? = some ⟨d, op, t, p, af, some (g, want)⟩) (hk : takeOk ops ks A ls i = true) (hg : ops[g]? = some og) (hgd : og.dst = some dj) (hv : gv want (evE N e (.tmp dj)) = false) (h : T P N ops ks A n f (ls.set i true) (updO e d undef) w) : T P N ops ks A n (f + 1) ls e w := by
  refine T_take ho hk ?_ h
  have hd : ∀ w', DoesA P ops ⟨d, op, t, p, af, some (g, want)⟩ (act N e) w' undef := fun w' => .inr ⟨wanted_no hg hgd hv, rfl⟩
  unfold YS
  cases kindOf ks i <;> first | exact hd | exact fun w' _ => hd w'
/-- What is ready, by cases. -/
def forkAll (P : Program) (N : Nat) (ops : Array Oper) (ks : List Kind) (A : List (List Nat)) (n : Env → World → Prop) (f : Nat) (ls : List Bool) (e : Env) (w : World) : List Nat → Prop
  | [] => True
  | i :: rs => (∀ o, ops[i]? = some o → match kindOf ks i with
      | .G => Ls P N ops [o] (fun e' w' => Below w.heap.size w w' ∧ T P N ops ks A n f (ls.set i true) e' w') e w
      | .H => Ls P N ops [o] (fun e' w' => T P N ops ks A n f (ls.set i true) e' w') e w
      | .S => ∃ v, (∀ w', Below w.heap.size w w' → DoesA P ops o (act N e) w' v) ∧ T P N ops ks A n f (ls.set i true) (updO e o.dst v) w
      | .P => ∃ v, (∀ w', DoesA P ops o (act N e) w' v) ∧ T P N ops ks A n f (ls.set i true) (updO e o.dst v) w) ∧ forkAll P N ops ks A n f ls e w rs
theorem one_of_Ls {o : Oper} {k : Env → World → Prop} (h : Ls P N ops [o] k e w) : one P ops o (fun a w => ∃ e, a = act N e ∧ k e w) (act N e) w := by
  have h := h.out
  simp only [wpList] at h
  unfold one
  split
  · rename_i hw
    rw [if_pos hw] at h
    rcases h with h | ⟨_, a, w, h, _⟩
    · unfold Oper.wp at h ⊢
      revert h
      generalize Sem.run P (execOp (act N e).eval o) w = res
      intro h
      cases res with
      | ok nx w' =>
        cases nx <;> simp only [Oper.upon] at h ⊢ <;>
          first
            | exact h.2
            | exact h
            | exact Rows.mono h (fun v w'' he => he.2)
            | exact Calls.mono h (fun e w'' he => by
                cases e with
                | returned v => exact he.2
                | panicked c => exact (nomatch he.1)
                | outgrown => obtain ⟨_, _, hf, _⟩ := he; exact (nomatch hf))
      | halt x w' =>
        cases x <;> simp only [Oper.upon] at h ⊢
        exact (nomatch h.1)
    · exact (nomatch h)
  · rename_i hw
    rw [if_neg hw] at h
    exact h.2
theorem T_fork (rs : List Nat) (hr : (Region.ready .any ops ls.toArray == rs && !rs.isEmpty) = true) (h : forkAll P N ops ks A n f ls e w rs) : T P N ops ks A n (f + 1) ls e w := by
  rw [Bool.and_eq_true, beq_iff_eq] at hr
  obtain ⟨hr, hne⟩ := hr
  refine ⟨fun ht hc => ⟨fun h0 => by rw [hr] at h0; subst h0; simp at hne, ?_⟩⟩
  have key : ∀ (rs' : List Nat), (∀ i ∈ rs', i ∈ Region.ready .any ops ls.toArray) → forkAll P N ops ks A n f ls e w rs' → ∀ i ∈ rs', ∃ o, ops[i]? = some o ∧ stepK P ops (kindOf ks i) o (wpT P ops ks (fun a w => ∃ e, a = act N e ∧ n e w) f (ls.toArray.setIfInBounds i true)) (act N e) w := by
    intro rs'
    induction rs' with
    | nil => intro _ _ i hi; cases hi
    | cons j rs' ih =>
      intro hsub hf i hi
      rcases List.mem_cons.1 hi with rfl | hi
      · have hir := hsub i List.mem_cons_self
        obtain ⟨_, o, ho, _⟩ := mem_ready.1 hir
        refine ⟨o, ho, ?_⟩
        have hcl := closed_set ht.anc hc hir
        rw [set_toArray] at hcl ⊢
        have h1 := hf.1 o ho
        cases hk : kindOf ks i with
        | P =>
          rw [hk] at h1
          obtain ⟨v, h3, h4⟩ := h1
          exact ⟨v, h3, by rw [put_act]; exact h4.out ht hcl⟩
        | S =>
          rw [hk] at h1
          obtain ⟨v, h2, h4⟩ := h1
          exact ⟨v, h2, by rw [put_act]; exact h4.out ht hcl⟩
        | G =>
          rw [hk] at h1
          exact one_mono (fun a w h => by obtain ⟨e, rfl, h2, h3⟩ := h; exact ⟨h2, h3.out ht hcl⟩) (one_of_Ls h1)
        | H =>
          rw [hk] at h1
          exact one_mono (fun a w h => by obtain ⟨e, rfl, h3⟩ := h; exact h3.out ht hcl) (one_of_Ls h1)
      · exact ih (fun i hi => hsub i (List.mem_cons_of_mem _ hi)) hf.2 i hi
  rw [hr]
  exact key rs (fun i hi => by rw [hr]; exact hi) h
theorem T_know {dj : Nat} {q b : Bool} (hv : evE N e (.tmp dj) = .bool q) (hq : q = b) (hk : T P N ops ks A n f ls (upd e dj (.bool b)) w) : T P N ops ks A n f ls e w := by
  subst hq
  rwa [upd_same (ev_tmp hv).2] at hk
theorem T_case {dj : Nat} {q : Bool} (hv : evE N e (.tmp dj) = .bool q) (h1 : q = true → T P N ops ks A n f ls (upd e dj (.bool true)) w) (h2 : q = false → T P N ops ks A n f ls (upd e dj (.bool false)) w) : T P N ops ks A n f ls e w := by
  cases q with
  | true => exact T_know hv rfl (h1 rfl)
  | false => exact T_know hv rfl (h2 rfl)
theorem T_end (hr : (Region.ready .any ops ls.toArray).isEmpty = true) (h : n e w) : T P N ops ks A n f ls e w := by
  have hr' : Region.ready .any ops ls.toArray = [] := by simpa using hr
  refine ⟨fun _ _ => ?_⟩
  cases f with
  | zero => exact ⟨hr', e, rfl, h⟩
  | succ f => exact ⟨fun _ => ⟨e, rfl, h⟩, fun i hi => by rw [hr'] at hi; cases hi⟩
end
end Go.Fw
