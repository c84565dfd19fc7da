/- Equality of pointers and of pairs; a row of bytes out of the program's text. -/
import Derived.Test.YtbhjdbkdnandfaaFq
import Derived.Laws.StructEq
import Derived.Laws.Pointers
import Derived.Laws.BytesString
import Derived.Laws.MakeOwn
namespace Go.Fw
open Go Go.RowKit Asn
section
variable {P : Program} {ρ : Operand → Value} {w : World} {D : Option Nat} {t : TypeId} {p : String} {af : Array Edge} {gd : Option (Nat × Bool)} {x y : Operand} {xt yt : TypeId}
def ptrOk (P : Program) (t : Nat) : Bool := match P.underlying t with
  | some (.pointer _) => true
  | _ => false
theorem ptrOk_u {t : Nat} (h : ptrOk P t = true) : P.underlying t = some (.pointer (P.pointee t)) := by
  unfold ptrOk at h
  split at h
  · rename_i e hu
    simp [Program.pointee, hu]
  · cases h
theorem d_eqlPtr {A : Option Addr} (h : ptrOk P xt = true) (hx : ρ x = .pointer A) (hy : ρ y = .pointer none) : Does P ρ ⟨D, .binOp .eql xt x y yt, t, p, af, gd⟩ w (.bool A.isNone) := by
  unfold Does execOp
  simp only [hx, hy]
  exact does_v (by have := run_eql_pointer_nil (P := P) w xt A (ptrOk_u h); simpa [eqGuard] using this)
theorem d_neqPtr {A : Option Addr} (h : ptrOk P xt = true) (hx : ρ x = .pointer A) (hy : ρ y = .pointer none) : Does P ρ ⟨D, .binOp .neq xt x y yt, t, p, af, gd⟩ w (.bool (!A.isNone)) := by
  unfold Does execOp
  simp only [hx, hy]
  exact does_v (by have := run_neq_pointer_nil (P := P) w xt A (ptrOk_u h); simpa [eqGuard] using this)
def intOk (P : Program) (t : Nat) (k : IntKind) : Bool := match P.underlying t with
  | some (.int k') => k == k'
  | _ => false
theorem intOk_u {t : Nat} {k : IntKind} (h : intOk P t k = true) : P.underlying t = some (.int k) := by
  unfold intOk at h
  split at h
  · rename_i k' hu
    rw [hu, eq_of_beq h]
  · cases h
/-- A struct of two numbers. -/
def pairOk (P : Program) (t : Nat) : Bool := (match P.underlying t with
  | some (.struct _) => true
  | _ => false) && !P.stoodInHeld t && !P.eqGuardType P.depth t && match (P.fieldsOf t).toList with
  | [f, g] => f.name != "_" && g.name != "_" && f.offset == 0 && g.offset == 1 && intOk P f.type .i64 && intOk P g.type .i64
  | _ => false
theorem pair_run {a b c d : Int} (h : pairOk P xt = true) : (Op.equalIn 10000 xt (.agg #[.int .i64 a, .int .i64 b]) (.agg #[.int .i64 c, .int .i64 d])).run P w = .ok (decide (a = c ∧ b = d)) w ∧ P.eqGuardType P.depth xt = false := by
  unfold pairOk at h
  simp only [Bool.and_eq_true, Bool.not_eq_true'] at h
  obtain ⟨⟨⟨h1, h2⟩, h3⟩, h4⟩ := h
  have hu : P.underlying xt = some (.struct (P.fieldsOf xt)) := by
    split at h1
    · rename_i fs hu
      rw [hu, Program.fieldsOf, hu]
    · cases h1
  refine ⟨?_, h3⟩
  rw [run_equalIn_struct w 9999 xt _ _ hu h2]
  split at h4
  · rename_i f g hf
    simp only [Bool.and_eq_true, bne_iff_ne, beq_iff_eq] at h4
    obtain ⟨⟨⟨⟨⟨h5, h6⟩, h7⟩, h8⟩, h9⟩, h10⟩ := h4
    have hd9 := intOk_u h9
    have hd10 := intOk_u h10
    have p1 : ∀ (vs : Array Value) (v : Value), vs[0]? = some v → (part f.type vs f.offset).run P w = .ok v w := fun vs v hv => by
      rw [h7]
      simp [part, run_isAgg hd9, isAggD, hv]
    have p2 : ∀ (vs : Array Value) (v : Value), vs[1]? = some v → (part g.type vs g.offset).run P w = .ok v w := fun vs v hv => by
      rw [h8]
      simp [part, run_isAgg hd10, isAggD, hv]
    have q1 : ∀ a c : Int, (Op.equalIn 9999 f.type (.int .i64 a) (.int .i64 c)).run P w = .ok (a == c) w := fun a c => run_equalIn_int w 9998 f.type .i64 .i64 a c hd9
    have q2 : ∀ a c : Int, (Op.equalIn 9999 g.type (.int .i64 a) (.int .i64 c)).run P w = .ok (a == c) w := fun a c => run_equalIn_int w 9998 g.type .i64 .i64 a c hd10
    rw [hf]
    have e1 : (Op.eqFields 9999 #[.int .i64 a, .int .i64 b] #[.int .i64 c, .int .i64 d] [f, g]).run P w = (if (!(a == c)) = true then .ok false w else if (!(b == d)) = true then .ok false w else .ok true w : Result Bool) := by
      simp only [Op.eqFields, h5, h6, ne_eq, not_false_eq_true, if_true, Sem.run_bind]
      rw [p1 #[.int .i64 a, .int .i64 b] (.int .i64 a) rfl, Result.andThen_ok, p1 #[.int .i64 c, .int .i64 d] (.int .i64 c) rfl, Result.andThen_ok, q1, Result.andThen_ok]
      rw [Sem.run_ite]
      split
      · rfl
      · rw [Sem.run_bind, p2 #[.int .i64 a, .int .i64 b] (.int .i64 b) rfl, Result.andThen_ok, Sem.run_bind, p2 #[.int .i64 c, .int .i64 d] (.int .i64 d) rfl, Result.andThen_ok, Sem.run_bind, q2, Result.andThen_ok, Sem.run_ite]
        split <;> rfl
    rw [e1]
    by_cases hac : a = c <;> by_cases hbd : b = d <;> simp [hac, hbd]
  · cases h4
theorem d_eql2 {a b c d : Int} (h : pairOk P xt = true) (hx : ρ x = .agg #[.int .i64 a, .int .i64 b]) (hy : ρ y = .agg #[.int .i64 c, .int .i64 d]) : Does P ρ ⟨D, .binOp .eql xt x y yt, t, p, af, gd⟩ w (.bool (decide (a = c ∧ b = d))) := by
  unfold Does execOp
  simp only [hx, hy]
  obtain ⟨h1, h2⟩ := pair_run (w := w) (a := a) (b := b) (c := c) (d := d) h
  exact does_v (by rw [Sem.run_bind, run_eqGuard_agg w _ _ _ _ _ _ h2, Result.andThen_ok, run_eql_struct, h1]; rfl)
theorem d_neq2 {a b c d : Int} (h : pairOk P xt = true) (hx : ρ x = .agg #[.int .i64 a, .int .i64 b]) (hy : ρ y = .agg #[.int .i64 c, .int .i64 d]) : Does P ρ ⟨D, .binOp .neq xt x y yt, t, p, af, gd⟩ w (.bool (!decide (a = c ∧ b = d))) := by
  unfold Does execOp
  simp only [hx, hy]
  obtain ⟨h1, h2⟩ := pair_run (w := w) (a := a) (b := b) (c := c) (d := d) h
  exact does_v (by rw [Sem.run_bind, run_eqGuard_agg w _ _ _ _ _ _ h2, Result.andThen_ok, run_neq_struct, h1]; rfl)
theorem d_makeFunc1 {f : FuncId} {v : Value} (h : ρ x = v) : Does P ρ ⟨D, .makeFunc (.func f) #[] #[x], t, p, af, gd⟩ w (.func (.func f) #[] #[v]) := d_makeFunc (by simp [h])
def boolOk (P : Program) (t : Nat) : Bool := match P.underlying t with
  | some .bool => true
  | _ => false
theorem boolOk_u {t : Nat} (h : boolOk P t = true) : P.underlying t = some .bool := by
  unfold boolOk at h
  split at h
  · rename_i hu
    exact hu
  · cases h
theorem d_eqlBool {a b : Bool} (h : boolOk P xt = true) (hx : ρ x = .bool a) (hy : ρ y = .bool b) : Does P ρ ⟨D, .binOp .eql xt x y yt, t, p, af, gd⟩ w (.bool (a == b)) := by
  unfold Does execOp
  simp only [hx, hy]
  have h1 : (Op.equal xt (.bool a) (.bool b)).run P w = .ok (a == b) w := run_equalIn_bool w 9999 xt a b (boolOk_u h)
  exact does_v (by simp [eqGuard, binOp, h1])
theorem d_neqBool {a b : Bool} (h : boolOk P xt = true) (hx : ρ x = .bool a) (hy : ρ y = .bool b) : Does P ρ ⟨D, .binOp .neq xt x y yt, t, p, af, gd⟩ w (.bool (!(a == b))) := by
  unfold Does execOp
  simp only [hx, hy]
  have h1 : (Op.equal xt (.bool a) (.bool b)).run P w = .ok (a == b) w := run_equalIn_bool w 9999 xt a b (boolOk_u h)
  exact does_v (by simp [eqGuard, binOp, h1])
theorem d_eqlStr {a b : ByteArray} (hx : ρ x = .string a) (hy : ρ y = .string b) : Does P ρ ⟨D, .binOp .eql xt x y yt, t, p, af, gd⟩ w (.bool (a.toList == b.toList)) := by
  unfold Does execOp
  simp only [hx, hy]
  exact does_v (by simp [eqGuard, binOp, Op.stringOp])
def bytesOf (xs : List Int) : ByteArray := xs.foldl (fun r n => r.push (UInt8.ofNat n.toNat)) ByteArray.empty
/-- string(xs) -/
def strOk (P : Program) (s t : Nat) : Bool := (match P.underlying t with
  | some .string => true
  | _ => false) && match P.underlying s with
  | some (.slice e) => intOk P e .u8
  | _ => false
theorem d_str {A : Option Addr} {n c : Nat} {xs : List Int} (h : strOk P xt yt = true) (hx : ρ x = .slice A n c) (hn : xs.length = n) (hr : Rd w A (ints .u8 xs)) : Does P ρ ⟨D, .convert xt yt x, t, p, af, gd⟩ w (.string (bytesOf xs)) := by
  unfold strOk at h
  rw [Bool.and_eq_true] at h
  obtain ⟨h1, h2⟩ := h
  split at h1
  · rename_i hs
    split at h2
    · rename_i e he
      unfold Does execOp
      simp only [hx]
      refine does_v ?_
      have hb := intOk_u h2
      rcases hr with hr | ⟨a, rfl, hr⟩
      · have : xs = [] := by simpa [ints] using hr
        subst this
        subst hn
        cases A with
        | none => simp [convert, run_underlying hs, run_underlying he, run_underlying hb, Conv.bytesToString, bytesOf]
        | some a => 
          have := run_bytesToString (P := P) w a 0 c [] (by simp [loadCells, loadCellsFrom])
          simp [convert, run_underlying hs, run_underlying he, run_underlying hb, this, bytesOf]
      · have hl : (loadCells a n).run P w = .ok (xs.map (Value.int .u8)).toArray w := by
          have h := run_loadCells_list (P := P) w a (xs.map (Value.int .u8)) hr
          rwa [List.length_map, hn] at h
        have := run_bytesToString (P := P) w a n c xs hl
        simp [convert, run_underlying hs, run_underlying he, run_underlying hb, this, bytesOf]
    · cases h2
  · cases h1
end
section
variable {P : Program} {N : Nat} {ops : Array Oper} {l : List Oper} {k : Env → World → Prop} {env : Env} {w w0 : World} {F : Nat → Prop} {L : List Asn} {d : Tmp} {t xt et : TypeId} {p : String} {af : Array Edge} {x : Operand} {v : Value} {cs : List Value} {i g : Nat}
/-- []T{..}: a block of its own, and the slice of it all. -/
theorem L_buildBlk {n sz : Nat} {parts : List (Nat × Operand)} (h : St w0 F L w) (vs cs : List Value) (hu : P.underlying xt = some (.slice et)) (hinfo : (P.info? et).map (fun i => (i.zero, i.size)) = some (some v, sz))
    (hp : (parts.map fun q => (q.1, evE N env q.2)) = number 0 vs) (hc : (vs.all fun v => v.cells.size == sz) = true) (hcs : (vs.flatMap fun v => v.cells.toList) = cs) (hn : vs.length = n) (hm : n * sz ≤ 16777216) (hm2 : n ≤ 16777216)
    (hk : ∀ g w', St w0 F (blk g et cs :: L) w' → Below w.heap.size w w' → Ls P N ops l k (upd env d (.slice (some ⟨g, 0, none⟩) n n)) w') : Ls P N ops (⟨some d, .buildSlice xt n parts.toArray, t, p, af, none⟩ :: l) k env w := by
  obtain ⟨inf, hi, hz⟩ := Option.map_eq_some_iff.1 hinfo
  simp only [Prod.mk.injEq] at hz
  obtain ⟨hz, rfl⟩ := hz
  have hc' : ∀ v ∈ vs, v.cells.size = inf.size := fun v hv => by simpa using List.all_eq_true.1 hc v hv
  have hlen : cs.length = n * inf.size := by rw [← hcs, flat_len vs hc', hn]
  have hf : Instr.fill (fun i => some (i * inf.size, inf.size)) ((Array.range (n * inf.size)).map (v.cells[· % v.cells.size]!)) (number 0 vs) = some cs.toArray := by
    rw [fill_all vs 0 _ hc' (by simp [hn]), ← hcs]
    simp
  refine L_run (w1 := w.alloc (.cells cs.toArray et)) ?_ (hk _ _ (new_blk h et cs) (Below.alloc (Below.refl _ _) (Nat.le_refl _) _))
  unfold execOp
  have e : (parts.toArray.map fun (i, x) => (i, evE N env x)).toList = number 0 vs := by rw [← hp]; simp
  exact does_v (run_buildSlice hu hi hm hz (by rw [e]; exact hf) w)
theorem freeze_row {n : Nat} (hb : w.heap[g]? = some (.cells cs.toArray et (0, 0))) : w.freeze ⟨g, n, none⟩ 1 = { w with heap := w.heap.setIfInBounds g (.cells cs.toArray et (n, n + 1)) } := by
  unfold World.freeze
  rw [if_neg (by decide)]
  congr 1
  apply Array.ext_getElem?
  intro j
  rw [Array.getElem?_modify, Array.getElem?_setIfInBounds]
  by_cases h : g = j
  · subst h
    obtain ⟨h1, h2⟩ := Array.getElem?_eq_some_iff.1 hb
    simp [hb, h1, h2]
  · simp [h]
/-- A row of bytes out of the program's text: the conversion to its own type. -/
theorem L_mark {n : Nat} (h : St w0 F L w) (hi : L[i]? = some (blk g et cs)) (hu : P.underlying xt = some (.slice et)) (he : P.underlying et = some (.int .u8)) (hx : evE N env x = .slice (some ⟨g, 0, none⟩) n n) (hn : cs.length = n) (hm : n ≤ 16777216)
    (hk : ∀ w', St w0 F (L.set i (row et 1 (.slice (some ⟨g, 0, none⟩) n n) n cs)) w' → Ls P N ops l k (upd env d (.slice (some ⟨g, 0, none⟩) n n)) w') : Ls P N ops (⟨some d, .convert xt xt x, t, p, af, none⟩ :: l) k env w := by
  have hb := h.blkAt hi
  have hlt := (Array.getElem?_eq_some_iff.1 hb).1
  refine L_run (w1 := w.freeze ⟨g, n, none⟩ 1) ?_ (hk _ (h.turnAt hi (fun S hS hA => ⟨S, ?_, ⟨⟨by simp [hn], .inr ⟨g, n, cs.toArray, (n, n + 1), rfl, ?_, ?_, Nat.le_refl _, by simp only [maxLen]; omega, by simp [hn], by simp [← hn]⟩⟩, ?_⟩, ?_⟩)))
  · have hsh : w.shape? g = some (et, n) := by simp [World.shape?, hb, hn]
    unfold execOp
    simp [hx, convert, run_underlying hu, run_underlying he, markStringish, hsh]
  · rw [freeze_row hb]
    exact ⟨rfl, rfl, rfl, by simp, fun k hk hn => by
      have : ¬ g = k := fun e => hn (e ▸ hA.2)
      simp [Array.getElem?_setIfInBounds, this]⟩
  · rw [freeze_row hb]
    simp [hlt]
  · intro j hj
    simp [hn] at hj ⊢
    omega
  · intro k hk
    have : g = k := by simpa [Value.ownBlock] using hk
    exact this ▸ hA.2
  · intro k hk
    rw [freeze_row hb]
    exact ⟨.inl hk, by simpa using (hS k hk).1⟩
/-- A call of a function value. -/
theorem L_callV {f : FuncId} {c : Tmp} {xs : Array Operand} {ts : Array TypeId} {vs : Array Value} {args : List Value} {R : Value → World → Prop} (hf : callOk P f = true) (hv : evE N env (.tmp c) = .func (.func f) #[] vs)
    (hargs : xs.toList.map (evE N env) ++ vs.toList = args) (H : Runs P f args w R) (hk : ∀ v w', R v w' → Ls P N ops l k (upd env d v) w') : Ls P N ops (⟨some d, .call { callee := .value (.tmp c), args := xs, argTypes := ts }, t, p, af, none⟩ :: l) k env w := by
  unfold callOk at hf
  split at hf
  · rename_i fn hfn
    rw [Bool.and_eq_true] at hf
    have hname : ¬ fn.name = "runtime.NumGoroutine" := by simpa using hf.1
    have hb : ¬ fn.body = none := by
      intro hn
      rw [hn] at hf
      cases hf.2
    refine L_step (fun K hK => ?_)
    unfold Oper.wp
    have hrun : (execOp (act N env).eval ⟨some d, .call { callee := .value (.tmp c), args := xs, argTypes := ts }, t, p, af, none⟩).run P w = .ok (.enter f args.toArray) w := by
      rw [eval_act]
      unfold execOp
      have ha : xs.map (evE N env) ++ vs = args.toArray := by
        rw [← hargs]
        apply Array.ext'
        simp
      simp [resolve, Deferred.ofValue, hv, invoke, callFunc, hfn, hname, hb, ha]
    rw [hrun, Oper.upon_enter]
    refine Calls.mono H (fun e w' he => ?_)
    obtain ⟨v, rfl, h2⟩ := he
    show K ((act N env).put (some d) v) w'
    rw [put_act]
    exact hK _ _ (hk v w' h2)
  · cases hf
theorem made_ints (k : IntKind) (n : Nat) : madeCells (Value.int k 0).cells (n * 1) = (ints k (List.replicate n 0)).toArray := by
  apply Array.ext
  · simp [madeCells, ints]
  · intro i h1 h2
    simp [madeCells, ints, Value.cells, Nat.mod_one]
/-- make([]int, n) -/
theorem L_makeInts {k' : IntKind} {n bytes : Nat} {y : Operand} {kl kc : IntKind} (h : St w0 F L w) (ht : P.underlying xt = some (.slice et)) (hinfo : (P.info? et).map (fun i => (i.zero, i.size, i.bytes)) = some (some (.int k' 0), 1, bytes))
    (hx : evE N env x = .int kl (n : Int)) (hy : evE N env y = .int kc (n : Int)) (hb : bytes * n ≤ 281474976710656) (hm : n ≤ 281474976710656)
    (hk : ∀ g w', St w0 F (row et 1 (.slice (some ⟨g, 0, none⟩) n n) n (ints k' (List.replicate n 0)) :: L) w' → Below w.heap.size w w' → Ls P N ops l k (upd env d (.slice (some ⟨g, 0, none⟩) n n)) w') : Ls P N ops (⟨some d, .makeSlice xt x y, t, p, af, none⟩ :: l) k env w := by
  obtain ⟨inf, hi, hz⟩ := Option.map_eq_some_iff.1 hinfo
  simp only [Prod.mk.injEq] at hz
  obtain ⟨hz, hs, rfl⟩ := hz
  have hb' : (inf.bytes : Int) * (n : Int) ≤ 281474976710656 := by
    have h : ((inf.bytes * n : Nat) : Int) ≤ 281474976710656 := by omega
    rwa [Int.natCast_mul] at h
  have hr := run_make (P := P) w xt et inf (.int k' 0) ht hi hz kl kc n n (by omega) (Int.le_refl _) hb' (by omega)
  simp only [Int.toNat_natCast, hs, made_ints] at hr
  refine L_run (w1 := w.alloc (.cells (ints k' (List.replicate n 0)).toArray et)) ?_ (hk _ _ (new_row h et _ (by simp [ints]) (by simp only [maxLen]; omega)) (Below.alloc (Below.refl _ _) (Nat.le_refl _) _))
  unfold execOp
  simp only [hx, hy]
  exact does_v hr
end
end Go.Fw
