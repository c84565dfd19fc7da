/- The operations' facts with what is known of the types taken as one closed test each (kernel_rfl); what a function makes. -/
import Derived.Test.YtbhjdbkdnandfaaFd
namespace Go.Fw
open Go Go.RowKit Asn
def sizeIs (P : Program) (t : TypeId) (n : Nat) : Bool := match P.info? t with
  | some i => i.size == n
  | none => false
def sliceOk (P : Program) (t el sz : Nat) : Bool := match P.underlying t with
  | some (.slice e) => e == el && sizeIs P el sz
  | _ => false
def arrOk (P : Program) (t n el sz : Nat) : Bool := match P.underlying t with
  | some (.array m e) => m == n && e == el && sizeIs P el sz
  | _ => false
def scalarOk (P : Program) (t : Nat) : Bool := match P.underlying t with
  | some d => !isAggD d
  | none => false
def aggOk (P : Program) (t n : Nat) : Bool := match P.underlying t with
  | some d => isAggD d && sizeIs P t n
  | none => false
def fieldOk (P : Program) (t f off : Nat) : Bool := match P.underlying t with
  | some (.struct fs) => match fs[f]? with
    | some fd => fd.offset == off && !sizeIs P fd.type 0 && (P.info? fd.type).isSome
    | none => false
  | _ => false
def fieldOk1 (P : Program) (t f off : Nat) : Bool := match P.underlying t with
  | some (.struct fs) => match fs[f]? with
    | some fd => fd.offset == off && scalarOk P fd.type
    | none => false
  | _ => false
def convOk (P : Program) (s t : Nat) (k : IntKind) : Bool := (P.underlying s).isSome && match P.underlying t with
  | some (.int k') => k' == k
  | _ => false
def callOk (P : Program) (f : FuncId) : Bool := match P.funcs[f]? with
  | some fn => !(fn.name == "runtime.NumGoroutine") && fn.body.isSome
  | none => false
section
variable {P : Program} {N : Nat} {ρ : Operand → Value} {w : World} {D : Option Nat} {t : TypeId} {p : String} {af : Array Edge} {g : Option (Nat × Bool)} {x y z : Operand} {a b : Int} {kd : IntKind} {xt yt : TypeId}
theorem sizeIs_info {n : Nat} (h : sizeIs P t n = true) : ∃ i, P.info? t = some i ∧ i.size = n := by
  unfold sizeIs at h
  cases hi : P.info? t with
  | none => rw [hi] at h; cases h
  | some i => rw [hi] at h; exact ⟨i, rfl, by simpa using h⟩
theorem sliceOk_u {el sz : Nat} (h : sliceOk P xt el sz = true) : P.underlying xt = some (.slice el) ∧ ∃ i, P.info? el = some i ∧ i.size = sz := by
  unfold sliceOk at h
  split at h
  · rename_i e hu
    rw [Bool.and_eq_true, beq_iff_eq] at h
    obtain ⟨rfl, h2⟩ := h
    exact ⟨hu, sizeIs_info h2⟩
  · cases h
theorem arrOk_u {n el sz : Nat} (h : arrOk P xt n el sz = true) : P.underlying xt = some (.array n el) ∧ ∃ i, P.info? el = some i ∧ i.size = sz := by
  unfold arrOk at h
  split at h
  · rename_i m e hu
    rw [Bool.and_eq_true, Bool.and_eq_true, beq_iff_eq, beq_iff_eq] at h
    obtain ⟨⟨rfl, rfl⟩, h2⟩ := h
    exact ⟨hu, sizeIs_info h2⟩
  · cases h
theorem scalarOk_u (h : scalarOk P xt = true) : ∃ d, P.underlying xt = some d ∧ isAggD d = false := by
  unfold scalarOk at h
  split at h
  · rename_i d hu; exact ⟨d, hu, by simpa using h⟩
  · cases h
theorem d_loadB {ad : Addr} {v : Value} (h : scalarOk P xt = true) (hx : ρ x = .pointer (some ad)) (hc : w.cell? ad = some v) : Does P ρ ⟨D, .load xt x, t, p, af, g⟩ w v := by
  obtain ⟨d, hu, hk⟩ := scalarOk_u h
  exact d_load hu hk hx hc
theorem d_loadAggB {n : Nat} {ad : Addr} (cs : List Value) (h : aggOk P xt n = true) (hn : n = cs.length) (hx : ρ x = .pointer (some ad)) (hc : ∀ j v, cs[j]? = some v → w.cell? (ad.add j) = some v) : Does P ρ ⟨D, .load xt x, t, p, af, g⟩ w (.agg cs.toArray) := by
  unfold aggOk at h
  split at h
  · rename_i d hu
    rw [Bool.and_eq_true] at h
    obtain ⟨i, hi, hsz⟩ := sizeIs_info h.2
    exact d_loadAgg hu h.1 hi (hsz.trans hn) hx hc
  · cases h
theorem d_fieldAddrB {f off : Nat} {ad : Addr} (h : fieldOk P xt f off = true) (hx : ρ x = .pointer (some ad)) : Does P ρ ⟨D, .fieldAddr xt x f, t, p, af, g⟩ w (.pointer (some (ad.add off))) := by
  unfold fieldOk at h
  split at h
  · rename_i fs hu
    split at h
    · rename_i fd hf
      simp only [Bool.and_eq_true, beq_iff_eq, Bool.not_eq_true'] at h
      obtain ⟨⟨h1, h2⟩, h3⟩ := h
      obtain ⟨i, hi⟩ := Option.isSome_iff_exists.1 h3
      unfold sizeIs at h2
      rw [hi] at h2
      exact d_fieldAddr hu hf hi h2 h1 hx
    · cases h
  · cases h
theorem d_fieldB {f off : Nat} {cs : Array Value} {v : Value} (h : fieldOk1 P xt f off = true) (hx : ρ x = .agg cs) (hv : cs[off]? = some v) : Does P ρ ⟨D, .field xt x f, t, p, af, g⟩ w v := by
  unfold fieldOk1 at h
  split at h
  · rename_i fs hu
    split at h
    · rename_i fd hf
      simp only [Bool.and_eq_true, beq_iff_eq] at h
      obtain ⟨rfl, h2⟩ := h
      obtain ⟨d, hud, hk⟩ := scalarOk_u h2
      unfold Does execOp
      simp only [hx]
      exact does_v (by simp [Instr.field, run_underlying hu, hf, asAgg, part, run_isAgg hud, hk, hv])
    · cases h
  · cases h
theorem d_indexAddrB {el sz n c : Nat} {ad : Addr} {i : Int} (h : sliceOk P xt el sz = true) (hx : ρ x = .slice (some ad) n c) (hy : ρ y = .int kd i) (h0 : 0 ≤ i) (h1 : i < n) :
    Does P ρ ⟨D, .indexAddr xt x y, t, p, af, g⟩ w (.pointer (some (ad.add (i.toNat * sz)))) := by
  obtain ⟨hu, inf, hi, hs⟩ := sliceOk_u h
  exact d_indexAddr hu hi hs hx hy h0 h1
theorem d_indexAddrArrB {el sz n : Nat} {ad : Addr} {i : Int} (h : arrOk P xt n el sz = true) (hx : ρ x = .pointer (some ad)) (hy : ρ y = .int kd i) (h0 : 0 ≤ i) (h1 : i < n) :
    Does P ρ ⟨D, .indexAddr xt x y, t, p, af, g⟩ w (.pointer (some (ad.add (i.toNat * sz)))) := by
  obtain ⟨hu, inf, hi, hs⟩ := arrOk_u h
  exact d_indexAddrArr hu hi hs hx hy h0 h1
theorem d_sliceToB {el sz n c : Nat} {ad : Option Addr} {i : Int} (h : sliceOk P xt el sz = true) (hx : ρ x = .slice ad n c) (hy : ρ y = .int kd i) (h0 : 0 ≤ i) (h1 : i ≤ c) :
    Does P ρ ⟨D, .slice xt x none (some y) none, t, p, af, g⟩ w (.slice ad i.toNat c) := by
  obtain ⟨hu, inf, hi, hs⟩ := sliceOk_u h
  exact d_sliceTo hu hi hx hy h0 h1
theorem d_sliceFromB {el sz n c : Nat} {ad : Option Addr} {i : Int} (h : sliceOk P xt el sz = true) (hx : ρ x = .slice ad n c) (hy : ρ y = .int kd i) (h0 : 0 ≤ i) (h1 : i ≤ n) :
    Does P ρ ⟨D, .slice xt x (some y) none none, t, p, af, g⟩ w (.slice (if c = i.toNat then ad else ad.map (·.add (i.toNat * sz))) (n - i.toNat) (c - i.toNat)) := by
  obtain ⟨hu, inf, hi, hs⟩ := sliceOk_u h
  exact d_sliceFrom hu hi hs hx hy h0 h1
theorem d_sliceB {ky : IntKind} {el sz n c : Nat} {ad : Option Addr} {i j : Int} (h : sliceOk P xt el sz = true) (hx : ρ x = .slice ad n c) (hy : ρ y = .int kd i) (hz : ρ z = .int ky j) (h0 : 0 ≤ i) (h1 : i ≤ j) (h2 : j ≤ c) :
    Does P ρ ⟨D, .slice xt x (some y) (some z) none, t, p, af, g⟩ w (.slice (if c = i.toNat then ad else ad.map (·.add (i.toNat * sz))) (j.toNat - i.toNat) (c - i.toNat)) := by
  obtain ⟨hu, inf, hi, hs⟩ := sliceOk_u h
  exact d_slice hu hi hs hx hy hz h0 h1 h2
theorem d_lenB {el sz n c : Nat} {ad : Option Addr} (h : sliceOk P xt el sz = true) (hx : ρ x = .slice ad n c) : Does P ρ ⟨D, .call { callee := .builtin .len, args := #[x], argTypes := #[xt] }, t, p, af, g⟩ w (.int .i64 n) := d_len (sliceOk_u h).1 hx
theorem convOk_u {kt : IntKind} (h : convOk P xt yt kt = true) : (P.underlying xt).isSome = true ∧ P.underlying yt = some (.int kt) := by
  unfold convOk at h
  rw [Bool.and_eq_true] at h
  refine ⟨h.1, ?_⟩
  have h2 := h.2
  split at h2
  · rename_i k' hu
    rw [beq_iff_eq] at h2
    rw [hu, h2]
  · cases h2
theorem d_convB {kt : IntKind} (h : convOk P xt yt kt = true) (hx : ρ x = .int kd a) : Does P ρ ⟨D, .convert xt yt x, t, p, af, g⟩ w (.int kt (kt.wrap a)) := d_conv (convOk_u h).1 (convOk_u h).2 hx
theorem d_convB' {kt : IntKind} (h : convOk P xt yt kt = true) (hr : kt.has a) (hx : ρ x = .int kd a) : Does P ρ ⟨D, .convert xt yt x, t, p, af, g⟩ w (.int kt a) := d_conv' (convOk_u h).1 (convOk_u h).2 hr hx
theorem d_build {parts : List (Nat × Operand)} {pv : List (Nat × Value)} {cs : Array Value} (hp : (parts.map fun q => (q.1, ρ q.2)) = pv) (hb : P.built xt pv = some cs) : Does P ρ ⟨D, .build xt parts.toArray, t, p, af, g⟩ w (.agg cs) := by
  subst hp
  unfold Does execOp
  have e : (parts.toArray.map fun (i, x) => (i, ρ x)).toList = parts.map fun q => (q.1, ρ q.2) := by simp
  have h1 := run_build w xt (parts.toArray.map fun (i, x) => (i, ρ x)) cs (by rw [e]; exact hb)
  exact does_v h1
end
section
variable {P : Program} {N : Nat} {ops : Array Oper} {l : List Oper} {k : Env → World → Prop} {env : Env} {w w' w0 : World} {d : Nat} {t : TypeId} {p : String} {af : Array Edge} {F : Nat → Prop} {L : List Asn} {A : Asn}
theorem L_callB {f : FuncId} {xs : Array Operand} {ts : Array TypeId} {args : List Value} {R : Value → World → Prop} (hf : callOk P f = true)
    (hargs : xs.toList.map (evE N env) = args) (H : Runs P f args w R) (hk : ∀ v w', R v w' → Ls P N ops l k (upd env d v) w') : Ls P N ops (⟨some d, .call { callee := .value (.func f), args := xs, argTypes := ts }, t, p, af, none⟩ :: l) k env w := by
  unfold callOk at hf
  split at hf
  · rename_i fn hfn
    rw [Bool.and_eq_true] at hf
    exact L_call hfn (by simpa using hf.1) hf.2 hargs H hk
  · cases hf
/-- What a function makes: A, of new blocks alone; nothing that stood has turned. -/
def Made (A : Asn) (w w' : World) : Prop := Below w.heap.size w w' ∧ ∃ S : Nat → Prop, (∀ k, S k → w.heap.size ≤ k ∧ k < w'.heap.size) ∧ A.P w' S
theorem St.made (h : St w (fun k => k < w.heap.size) (A :: L) w') : Made A w w' := by
  obtain ⟨S, h1, h2⟩ := h.at (i := 0) rfl
  exact ⟨h.below, S, fun k hk => ⟨Nat.le_of_not_lt (h1 k hk).2, (h1 k hk).1⟩, h2⟩
theorem St.take (h : St w0 F L w) (hm : Made A w w') : St w0 F (A :: L) w' := by
  obtain ⟨hb, S, h1, h2⟩ := hm
  exact h.new hb h2 h1
theorem Made.below (h : Made A w w') : Below w.heap.size w w' := h.1
/-- One operation that is ready, alone. -/
theorem T_G {ks : List Kind} {An : List (List Nat)} {n : Env → World → Prop} {f : Nat} {ls : List Bool} {e : Env} {o : Oper} (i : Nat) (hr : (Region.ready .any ops ls.toArray == [i] && kindOf ks i == .G) = true) (ho : ops[i]? = some o)
    (h : Ls P N ops [o] (fun e' w' => Below w.heap.size w w' ∧ T P N ops ks An n f (ls.set i true) e' w') e w) : T P N ops ks An n (f + 1) ls e w := by
  rw [Bool.and_eq_true, beq_iff_eq, beq_iff_eq] at hr
  refine T_fork [i] (by simp [hr.1]) ⟨fun o' ho' => ?_, trivial⟩
  rw [ho] at ho'
  obtain rfl := Option.some.inj ho'
  rw [hr.2]
  exact h
theorem T_H {ks : List Kind} {An : List (List Nat)} {n : Env → World → Prop} {f : Nat} {ls : List Bool} {e : Env} {o : Oper} (i : Nat) (hr : (Region.ready .any ops ls.toArray == [i] && kindOf ks i == .H) = true) (ho : ops[i]? = some o)
    (h : Ls P N ops [o] (fun e' w' => T P N ops ks An n f (ls.set i true) e' w') e w) : T P N ops ks An n (f + 1) ls e w := by
  rw [Bool.and_eq_true, beq_iff_eq, beq_iff_eq] at hr
  refine T_fork [i] (by simp [hr.1]) ⟨fun o' ho' => ?_, trivial⟩
  rw [ho] at ho'
  obtain rfl := Option.some.inj ho'
  rw [hr.2]
  exact h
end
end Go.Fw
namespace Go.Fw
open Go Go.RowKit Asn
section
variable {P : Program} {ρ : Operand → Value} {w w' : World} {D : Option Nat} {t : TypeId} {p : String} {af : Array Edge} {g : Option (Nat × Bool)} {x y : Operand} {kd : IntKind} {xt : TypeId}
theorem add0 (g j : Nat) : (⟨g, 0, none⟩ : Addr).add j = ⟨g, j, none⟩ := by unfold Addr.add; split <;> simp_all
/-- &xs[m], a row at the head of its block, elements of sz cells. -/
theorem d_ixOwn {el sz n c gb m : Nat} {i : Int} (h : sliceOk P xt el sz = true) (hx : ρ x = .slice (some ⟨gb, 0, none⟩) n c) (hy : ρ y = .int kd i) (hm : i = (m : Int)) (h1 : m < n) :
    Does P ρ ⟨D, .indexAddr xt x y, t, p, af, g⟩ w (.pointer (some ⟨gb, m * sz, none⟩)) := by
  subst hm
  have := d_indexAddrB (P := P) (D := D) (t := t) (p := p) (af := af) (g := g) (w := w) h hx hy (by omega) (by omega)
  rwa [add0, Int.toNat_natCast] at this
theorem d_ixOwn1 {el n c gb m : Nat} {i : Int} (h : sliceOk P xt el 1 = true) (hx : ρ x = .slice (some ⟨gb, 0, none⟩) n c) (hy : ρ y = .int kd i) (hm : i = (m : Int)) (h1 : m < n) :
    Does P ρ ⟨D, .indexAddr xt x y, t, p, af, g⟩ w (.pointer (some ⟨gb, m, none⟩)) := by
  have := d_ixOwn (P := P) (D := D) (t := t) (p := p) (af := af) (g := g) (w := w) h hx hy hm h1
  rwa [Nat.mul_one] at this
theorem d_ix {el sz n c m : Nat} {ad : Addr} {i : Int} (h : sliceOk P xt el sz = true) (hx : ρ x = .slice (some ad) n c) (hy : ρ y = .int kd i) (hm : i = (m : Int)) (h1 : m < n) :
    Does P ρ ⟨D, .indexAddr xt x y, t, p, af, g⟩ w (.pointer (some (ad.add (m * sz)))) := by
  subst hm
  have := d_indexAddrB (P := P) (D := D) (t := t) (p := p) (af := af) (g := g) (w := w) h hx hy (by omega) (by omega)
  rwa [Int.toNat_natCast] at this
theorem blk_keep {g : Nat} {o : Obj} (h : w.heap[g]? = some o) (hb : Below w.heap.size w w') : w'.heap[g]? = some o := (hb.block g (Array.getElem?_eq_some_iff.1 h).1).trans h
theorem blk_cell {g j : Nat} {t : TypeId} {fr : Nat × Nat} {cs : List Value} {u : Value} (h : w.heap[g]? = some (.cells cs.toArray t fr)) (hu : cs[j]? = some u) : w.cell? ⟨g, j, none⟩ = some u := by simp [World.cell?, h, hu]
theorem has_i64 {a : Int} (h1 : -9223372036854775808 ≤ a) (h2 : a ≤ 9223372036854775807) : IntKind.i64.has a := by
  constructor <;> simp [IntKind.min, IntKind.max, IntKind.bits, IntKind.signed] <;> omega
end
end Go.Fw
namespace Go.Fw
open Go Go.RowKit Asn
section
variable {P : Program} {N : Nat} {ops : Array Oper} {l : List Oper} {k : Env → World → Prop} {env : Env} {ρ : Operand → Value} {w w' w0 : World} {D : Option Nat} {d : Nat} {t : TypeId} {p : String} {af : Array Edge} {gd : Option (Nat × Bool)} {x y : Operand} {xt et : TypeId} {F : Nat → Prop} {L : List Asn} {i g : Nat} {cs vs : List Value} {v : Value}
/-- A variable's block, read whole. -/
theorem d_loadBlk {n : Nat} (hok : aggOk P xt n = true) (h : St w0 F L w) (hi : L[i]? = some (blk g et cs)) (hn : n = cs.length) (hx : ρ x = .pointer (some ⟨g, 0, none⟩)) : Does P ρ ⟨D, .load xt x, t, p, af, gd⟩ w (.agg cs.toArray) :=
  d_loadAggB cs hok hn hx (h.cells hi 0 (by simp))
/-- A variable's block, written whole. -/
theorem L_storeBlk (h : St w0 F L w) (hi : L[i]? = some (blk g et cs)) (hinfo : (P.info? xt).map (·.size) = some vs.length) (hx : evE N env x = .pointer (some ⟨g, 0, none⟩)) (hy : evE N env y = .agg vs.toArray) (h1 : ∀ u ∈ vs, u.oneCell' = true) (hl : vs.length = cs.length)
    (hk : ∀ w', St w0 F (L.set i (blk g et vs)) w' → Ls P N ops l k env w') : Ls P N ops (⟨none, .store xt x y, t, p, af, none⟩ :: l) k env w := by
  refine L_store (vs := vs) h hi hinfo hx hy rfl h1 (by omega) (fun w' h' => hk w' ?_)
  simpa [hl] using h'
theorem resC (fn : Func) {a : Tmp} {T n : Nat} {e : Env} (hr : fn.results = #[.cell a T]) (hok : aggOk P T n = true) (h : St w0 F L w) (hi : L[i]? = some (blk g et cs)) (hn : n = cs.length) (hx : evE N e (.tmp a) = .pointer (some ⟨g, 0, none⟩)) :
    (results fn (act N e).tmps).run P w = .ok (.agg cs.toArray) w := by
  have hl := run_loadCells_list (P := P) w ⟨g, 0, none⟩ cs (h.cells hi 0 (by simp))
  unfold aggOk at hok
  split at hok
  · rename_i td hu
    rw [Bool.and_eq_true] at hok
    obtain ⟨inf, hinf, hsz⟩ := sizeIs_info hok.2
    have hsz' : inf.size = cs.length := hsz.trans hn
    simp only [results, hr]
    simp [tmps_act, hx, asAddr, loadVar, run_isAgg hu, hok.1, sizeOf, typeInfo, hinf, hsz', hl]
  · cases hok
theorem resCT (fn : Func) {a b : Tmp} {T n : Nat} {e : Env} {v : Value} (hr : fn.results = #[.cell a T, .tmp b]) (hok : aggOk P T n = true) (h : St w0 F L w) (hi : L[i]? = some (blk g et cs)) (hn : n = cs.length) (hx : evE N e (.tmp a) = .pointer (some ⟨g, 0, none⟩)) (hb : evE N e (.tmp b) = v) :
    (results fn (act N e).tmps).run P w = .ok (.tuple #[.agg cs.toArray, v]) w := by
  have hl := run_loadCells_list (P := P) w ⟨g, 0, none⟩ cs (h.cells hi 0 (by simp))
  unfold aggOk at hok
  split at hok
  · rename_i td hu
    rw [Bool.and_eq_true] at hok
    obtain ⟨inf, hinf, hsz⟩ := sizeIs_info hok.2
    have hsz' : inf.size = cs.length := hsz.trans hn
    simp only [results, hr]
    simp [tmps_act, hx, hb, asAddr, loadVar, run_isAgg hu, hok.1, sizeOf, typeInfo, hinf, hsz', hl]
  · cases hok
/-- Two structs of whole numbers, the second behind the first. -/
theorem resCC (fn : Func) {a b : Tmp} {T U n m : Nat} {j gb eb : Nat} {ds : List Value} {e : Env} (hr : fn.results = #[.cell a T, .cell b U]) (hok : aggOk P T n = true) (hok2 : aggOk P U m = true) (h : St w0 F L w) (hi : L[i]? = some (blk g et cs)) (hj : L[j]? = some (blk gb eb ds)) (hn : n = cs.length) (hm : m = ds.length)
    (hx : evE N e (.tmp a) = .pointer (some ⟨g, 0, none⟩)) (hb : evE N e (.tmp b) = .pointer (some ⟨gb, 0, none⟩)) :
    (results fn (act N e).tmps).run P w = .ok (.tuple #[.agg cs.toArray, .agg ds.toArray]) w := by
  have hl := run_loadCells_list (P := P) w ⟨g, 0, none⟩ cs (h.cells hi 0 (by simp))
  have hl2 := run_loadCells_list (P := P) w ⟨gb, 0, none⟩ ds (h.cells hj 0 (by simp))
  unfold aggOk at hok hok2
  split at hok
  · rename_i td hu
    split at hok2
    · rename_i td2 hu2
      rw [Bool.and_eq_true] at hok hok2
      obtain ⟨inf, hinf, hsz⟩ := sizeIs_info hok.2
      obtain ⟨inf2, hinf2, hsz2⟩ := sizeIs_info hok2.2
      have hsz' : inf.size = cs.length := hsz.trans hn
      have hsz2' : inf2.size = ds.length := hsz2.trans hm
      simp only [results, hr]
      simp [tmps_act, hx, hb, asAddr, loadVar, run_isAgg hu, run_isAgg hu2, hok.1, hok2.1, sizeOf, typeInfo, hinf, hinf2, hsz', hsz2', hl, hl2]
    · cases hok2
  · cases hok
theorem resCTT (fn : Func) {a b c : Tmp} {T n : Nat} {e : Env} {v u : Value} (hr : fn.results = #[.cell a T, .tmp b, .tmp c]) (hok : aggOk P T n = true) (h : St w0 F L w) (hi : L[i]? = some (blk g et cs)) (hn : n = cs.length) (hx : evE N e (.tmp a) = .pointer (some ⟨g, 0, none⟩)) (hb : evE N e (.tmp b) = v) (hc : evE N e (.tmp c) = u) :
    (results fn (act N e).tmps).run P w = .ok (.tuple #[.agg cs.toArray, v, u]) w := by
  have hl := run_loadCells_list (P := P) w ⟨g, 0, none⟩ cs (h.cells hi 0 (by simp))
  unfold aggOk at hok
  split at hok
  · rename_i td hu
    rw [Bool.and_eq_true] at hok
    obtain ⟨inf, hinf, hsz⟩ := sizeIs_info hok.2
    have hsz' : inf.size = cs.length := hsz.trans hn
    simp only [results, hr]
    simp [tmps_act, hx, hb, hc, asAddr, loadVar, run_isAgg hu, hok.1, sizeOf, typeInfo, hinf, hsz', hl]
  · cases hok
theorem resCCT (fn : Func) {a b c : Tmp} {T U n m : Nat} {j gb eb : Nat} {ds : List Value} {e : Env} {v : Value} (hr : fn.results = #[.cell a T, .cell b U, .tmp c]) (hok : aggOk P T n = true) (hok2 : aggOk P U m = true) (h : St w0 F L w) (hi : L[i]? = some (blk g et cs)) (hj : L[j]? = some (blk gb eb ds)) (hn : n = cs.length) (hm : m = ds.length)
    (hx : evE N e (.tmp a) = .pointer (some ⟨g, 0, none⟩)) (hb : evE N e (.tmp b) = .pointer (some ⟨gb, 0, none⟩)) (hc : evE N e (.tmp c) = v) :
    (results fn (act N e).tmps).run P w = .ok (.tuple #[.agg cs.toArray, .agg ds.toArray, v]) w := by
  have hl := run_loadCells_list (P := P) w ⟨g, 0, none⟩ cs (h.cells hi 0 (by simp))
  have hl2 := run_loadCells_list (P := P) w ⟨gb, 0, none⟩ ds (h.cells hj 0 (by simp))
  unfold aggOk at hok hok2
  split at hok
  · rename_i td hu
    split at hok2
    · rename_i td2 hu2
      rw [Bool.and_eq_true] at hok hok2
      obtain ⟨inf, hinf, hsz⟩ := sizeIs_info hok.2
      obtain ⟨inf2, hinf2, hsz2⟩ := sizeIs_info hok2.2
      have hsz' : inf.size = cs.length := hsz.trans hn
      have hsz2' : inf2.size = ds.length := hsz2.trans hm
      simp only [results, hr]
      simp [tmps_act, hx, hb, hc, asAddr, loadVar, run_isAgg hu, run_isAgg hu2, hok.1, hok2.1, sizeOf, typeInfo, hinf, hinf2, hsz', hsz2', hl, hl2]
    · cases hok2
  · cases hok
end
end Go.Fw
namespace Go.Fw
open Go Go.RowKit Asn
theorem d_ix1 {P : Program} {ρ : Operand → Value} {w : World} {D : Option Nat} {t : TypeId} {p : String} {af : Array Edge} {g : Option (Nat × Bool)} {x y : Operand} {kd : IntKind} {xt : TypeId} {el n c m : Nat} {ad : Addr} {i : Int} (h : sliceOk P xt el 1 = true) (hx : ρ x = .slice (some ad) n c) (hy : ρ y = .int kd i) (hm : i = (m : Int)) (h1 : m < n) :
    Does P ρ ⟨D, .indexAddr xt x y, t, p, af, g⟩ w (.pointer (some (ad.add m))) := by
  have := d_ix (P := P) (D := D) (t := t) (p := p) (af := af) (g := g) (w := w) h hx hy hm h1
  rwa [Nat.mul_one] at this
end Go.Fw
