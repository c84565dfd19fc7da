/- The operations that make and turn memory, and calls. -/
import Derived.Test.YtbhjdbkdnandfaaFh
import Derived.Laws.MakeOwn
import Derived.Laws.Build
namespace Go.Fw
open Go Go.RowKit Asn
variable {P : Program} {N : Nat} {ops : Array Oper} {l : List Oper} {k : Env → World → Prop} {env : Env} {w w0 : World} {d : Nat} {D : Option Nat} {op : Op} {t : TypeId} {p : String} {af : Array Edge}
variable {F : Nat → Prop} {L : List Asn} {x y z : Operand} {xt et : TypeId} {inf : TypeInfo} {v : Value} {cs vs : List Value} {i g : Nat}

/-! guards -/
def gv (want : Bool) : Value → Bool
  | .bool b => b == want
  | _ => false
theorem yielded_act {j dj : Nat} {og : Oper} (ho : ops[j]? = some og) (hd : og.dst = some dj) : yielded ops (act N env).tmps j = (match evE N env (.tmp dj) with | .bool b => some b | _ => none) := by
  unfold yielded
  simp only [ho, hd, Option.bind_some]
  show _ = (match (bif Nat.blt dj N then env dj else undef) with | .bool b => some b | _ => none)
  cases hb : Nat.blt dj N with
  | true =>
    have h1 : (act N env).tmps[dj]? = some (env dj) := by
      rw [Nat.blt_eq] at hb
      simp [act, hb]
    simp only [h1, cond_true]
    cases env dj <;> rfl
  | false =>
    have h1 : (act N env).tmps[dj]? = none := by
      have : ¬ dj < N := fun h => by rw [← Nat.blt_eq, hb] at h; cases h
      simp [act, this]
    simp only [h1, cond_false]
    rfl
theorem wanted_yes {j dj : Nat} {og : Oper} {want : Bool} (ho : ops[j]? = some og) (hd : og.dst = some dj) (hv : evE N env (.tmp dj) = .bool want) : Region.wanted ⟨D, op, t, p, af, some (j, want)⟩ (yielded ops (act N env).tmps) = true := by
  simp [Region.wanted, yielded_act ho hd, hv]
theorem wanted_no {j dj : Nat} {og : Oper} {want : Bool} (ho : ops[j]? = some og) (hd : og.dst = some dj) (hv : gv want (evE N env (.tmp dj)) = false) : Region.wanted ⟨D, op, t, p, af, some (j, want)⟩ (yielded ops (act N env).tmps) = false := by
  simp only [Region.wanted, yielded_act ho hd]
  cases hv2 : evE N env (.tmp dj) <;> simp_all [gv]
theorem L_on {j dj : Nat} {og : Oper} {want : Bool} (ho : ops[j]? = some og) (hd : og.dst = some dj) (hv : evE N env (.tmp dj) = .bool want) (h : Ls P N ops (⟨D, op, t, p, af, none⟩ :: l) k env w) : Ls P N ops (⟨D, op, t, p, af, some (j, want)⟩ :: l) k env w := by
  have h2 : Region.wanted ⟨D, op, t, p, af, none⟩ (yielded ops (act N env).tmps) = true := rfl
  refine ⟨?_⟩
  have h := h.out
  unfold wpList at h ⊢
  rw [if_pos h2] at h
  rw [if_pos (wanted_yes ho hd hv)]
  exact h
theorem L_off {j dj : Nat} {og : Oper} {want : Bool} (ho : ops[j]? = some og) (hd : og.dst = some dj) (hv : gv want (evE N env (.tmp dj)) = false) (h : Ls P N ops l k (upd env d undef) w) : Ls P N ops (⟨some d, op, t, p, af, some (j, want)⟩ :: l) k env w := by
  refine ⟨wpList_skip (wanted_no ho hd hv) ?_⟩
  rw [put_act]
  exact h.out
theorem L_off0 {j dj : Nat} {og : Oper} {want : Bool} (ho : ops[j]? = some og) (hd : og.dst = some dj) (hv : gv want (evE N env (.tmp dj)) = false) (h : Ls P N ops l k env w) : Ls P N ops (⟨none, op, t, p, af, some (j, want)⟩ :: l) k env w := by
  refine ⟨wpList_skip (wanted_no ho hd hv) ?_⟩
  rw [put_act]
  exact h.out

/-! new blocks -/
theorem new_blk (h : St w0 F L w) (t : TypeId) (cs : List Value) : St w0 F (blk w.heap.size t cs :: L) (w.alloc (.cells cs.toArray t)) :=
  h.new (S := fun k => k = w.heap.size) (Below.alloc (Below.refl _ _) (Nat.le_refl _) _) ⟨heap_alloc_new w _, rfl⟩ (fun k hk => ⟨by omega, by simp; omega⟩)
/-- var x T, new(T): a variable of its own. -/
theorem L_alloc (h : St w0 F L w) (cs : List Value) (hi : P.info? et = some inf) (hz : inf.zero = some v) (hv : v.cells = cs.toArray)
    (hk : ∀ g w', St w0 F (blk g et cs :: L) w' → Below w.heap.size w w' → Ls P N ops l k (upd env d (.pointer (some ⟨g, 0, none⟩))) w') : Ls P N ops (⟨some d, .alloc et, t, p, af, none⟩ :: l) k env w :=
  L_run (w1 := w.alloc (.cells cs.toArray et)) (by
    unfold execOp
    exact does_v (by simp [Instr.alloc, zeroValue, typeInfo, hi, hz, newVar, newRow, hv])) (hk _ _ (new_blk h et cs) (Below.alloc (Below.refl _ _) (Nat.le_refl _) _))
theorem L_allocB (h : St w0 F L w) (cs : List Value) (hz : (P.info? et).map (·.zero) = some (some v)) (hv : v.cells = cs.toArray)
    (hk : ∀ g w', St w0 F (blk g et cs :: L) w' → Below w.heap.size w w' → Ls P N ops l k (upd env d (.pointer (some ⟨g, 0, none⟩))) w') : Ls P N ops (⟨some d, .alloc et, t, p, af, none⟩ :: l) k env w := by
  obtain ⟨inf, hi, hz⟩ := Option.map_eq_some_iff.1 hz
  exact L_alloc h cs hi hz hv hk
/-- &T{..}: a variable made of a value. -/
theorem L_box (h : St w0 F L w) (cs : List Value) (hx : evE N env x = v) (hv : v.cells = cs.toArray)
    (hk : ∀ g w', St w0 F (blk g et cs :: L) w' → Below w.heap.size w w' → Ls P N ops l k (upd env d (.pointer (some ⟨g, 0, none⟩))) w') : Ls P N ops (⟨some d, .box et x, t, p, af, none⟩ :: l) k env w :=
  L_run (w1 := w.alloc (.cells cs.toArray et)) (by
    unfold execOp
    simp only [hx]
    exact does_v (by simp [Instr.box, newVar, newRow, hv])) (hk _ _ (new_blk h et cs) (Below.alloc (Below.refl _ _) (Nat.le_refl _) _))
theorem size_list_toArray (cs : List Value) : cs.toArray.size = cs.length := by simp
theorem new_row (h : St w0 F L w) (e : TypeId) {sz n : Nat} (cs : List Value) (hn : cs.length = n * sz) (hm : n ≤ maxLen) : St w0 F (row e sz (.slice (some ⟨w.heap.size, 0, none⟩) n n) n cs :: L) (w.alloc (.cells cs.toArray e)) :=
  h.new (S := fun k => k = w.heap.size) (Below.alloc (Below.refl _ _) (Nat.le_refl _) _)
    ⟨⟨hn, .inr ⟨w.heap.size, n, cs.toArray, (0, 0), rfl, heap_alloc_new w _, fun j _ => by simp, Nat.le_refl _, hm, by simpa using hn, by simp [← hn]⟩⟩, fun k hk => by simpa [Value.ownBlock, eq_comm] using hk⟩ (fun k hk => ⟨by omega, by simp; omega⟩)
theorem run_buildSlice {n : Nat} {parts : Array (Nat × Value)} (hu : P.underlying xt = some (.slice et)) (hi : P.info? et = some inf) (hl : n * inf.size ≤ 16777216)
    (hz : inf.zero = some v) (hf : Instr.fill (fun i => some (i * inf.size, inf.size)) ((Array.range (n * inf.size)).map (v.cells[· % v.cells.size]!)) parts.toList = some cs.toArray) (w : World) :
    (Instr.buildSlice xt n parts).run P w = .ok (.slice (some ⟨w.heap.size, 0, none⟩) n n) (w.alloc (.cells cs.toArray et)) := by
  have h1 : ¬ (16777216 < n * inf.size) := by omega
  by_cases h0 : n * inf.size = 0
  · rw [h0] at hf
    have h0' : n = 0 ∨ inf.size = 0 := Nat.mul_eq_zero.1 h0
    have hr : Array.range 0 = #[] := rfl
    have hf' : Instr.fill (fun i => some (i * inf.size, inf.size)) #[] parts.toList = some cs.toArray := by simpa [hr] using hf
    simp only [Instr.buildSlice, Sem.run_bind, run_underlying hu, Result.andThen_ok, sizeOf, typeInfo, hi, run_program, Sem.run_pure, h0, hr]
    simp [hf', newRow]
  · simp only [Instr.buildSlice, Sem.run_bind, run_underlying hu, Result.andThen_ok, sizeOf, typeInfo, hi, run_program, Sem.run_pure, if_neg h0]
    simp [h1, zeroValue, typeInfo, hi, hz, hf, newRow]
def number : Nat → List Value → List (Nat × Value)
  | _, [] => []
  | k, v :: l => (k, v) :: number (k + 1) l
theorem fold_put : ∀ (c : List Value) (o q : Nat) (cur : Array Value), o + q + c.length ≤ cur.size → (c.zipIdx q).foldl (fun cs (x : Value × Nat) => cs.setIfInBounds (o + x.2) x.1) cur = (cur.toList.take (o + q) ++ c ++ cur.toList.drop (o + q + c.length)).toArray
  | [], o, q, cur, _ => by simp
  | v :: c, o, q, cur, h => by
    simp only [List.zipIdx_cons, List.foldl_cons]
    rw [fold_put c o (q + 1) (cur.setIfInBounds (o + q) v) (by simp at h ⊢; omega)]
    congr 1
    have e := list_seg_step cur.toList (o + q) v c (by simp at h ⊢; omega)
    simpa [Array.toList_setIfInBounds, Nat.add_assoc] using e
theorem fill_all {sz : Nat} : ∀ (vs : List Value) (q : Nat) (cur : Array Value), (∀ v ∈ vs, v.cells.size = sz) → cur.size = (q + vs.length) * sz → Instr.fill (fun i => some (i * sz, sz)) cur (number q vs) = some (cur.toList.take (q * sz) ++ vs.flatMap (fun v => v.cells.toList)).toArray
  | [], q, cur, _, hl => by
    have : cur.toList.length ≤ q * sz := by simp at hl ⊢; omega
    simp [number, Instr.fill, List.take_of_length_le this]
  | v :: vs, q, cur, hc, hl => by
    have hv : v.cells.size = sz := hc v (by simp)
    have h1 : (q + 1 + vs.length) * sz = cur.size := by rw [hl]; congr 1; simp; omega
    have h2 : q * sz + sz ≤ cur.size := by rw [← h1, ← Nat.succ_mul]; exact Nat.mul_le_mul_right _ (by omega)
    have hf : (v.cells.zipIdx.foldl (fun cs (x : Value × Nat) => cs.setIfInBounds (q * sz + x.2) x.1) cur) = (cur.toList.take (q * sz) ++ v.cells.toList ++ cur.toList.drop (q * sz + sz)).toArray := by
      have := fold_put v.cells.toList (q * sz) 0 cur (by simp [hv]; omega)
      rw [← Array.foldl_toList, Array.toList_zipIdx]
      simpa [hv] using this
    have hlen : (cur.toList.take (q * sz) ++ v.cells.toList).length = (q + 1) * sz := by simp [hv, Nat.succ_mul]; omega
    have ih := fill_all vs (q + 1) (cur.toList.take (q * sz) ++ v.cells.toList ++ cur.toList.drop (q * sz + sz)).toArray (fun u hu => hc u (by simp [hu])) (by simp [hv]; omega)
    unfold number Instr.fill
    have hng : ¬ (v.cells.size ≠ sz ∨ cur.size < q * sz + v.cells.size) := by rw [hv]; omega
    simp only [decide_not, Bool.or_eq_true, Bool.not_eq_true', decide_eq_false_iff_not, decide_eq_true_eq, gt_iff_lt, hng, if_false]
    rw [hf, ih]
    congr 2
    rw [← hlen, List.take_left]
    simp
theorem flat_len {sz : Nat} : ∀ (vs : List Value), (∀ v ∈ vs, v.cells.size = sz) → (vs.flatMap fun v => v.cells.toList).length = vs.length * sz
  | [], _ => by simp
  | v :: vs, h => by
    have h1 := flat_len vs (fun u hu => h u (by simp [hu]))
    have h2 := h v (by simp)
    rw [List.flatMap_cons, List.length_append, h1, Array.length_toList, h2, List.length_cons, Nat.succ_mul, Nat.add_comm]
/-- []T{..}: a row of its own. -/
theorem L_buildSlice {n sz : Nat} {parts : List (Nat × Operand)} (h : St w0 F L w) (vs cs : List Value) (hu : P.underlying xt = some (.slice et)) (hinfo : (P.info? et).map (fun i => (i.zero, i.size)) = some (some v, sz))
    (hp : (parts.map fun q => (q.1, evE N env q.2)) = number 0 vs) (hc : (vs.all fun v => v.cells.size == sz) = true) (hcs : (vs.flatMap fun v => v.cells.toList) = cs) (hn : vs.length = n) (hm : n * sz ≤ 16777216) (hm2 : n ≤ 16777216)
    (hk : ∀ g w', St w0 F (row et sz (.slice (some ⟨g, 0, none⟩) n n) n cs :: L) w' → Below w.heap.size w w' → Ls P N ops l k (upd env d (.slice (some ⟨g, 0, none⟩) n n)) w') : Ls P N ops (⟨some d, .buildSlice xt n parts.toArray, t, p, af, none⟩ :: l) k env w := by
  obtain ⟨inf, hi, hz⟩ := Option.map_eq_some_iff.1 hinfo
  simp only [Prod.mk.injEq] at hz
  obtain ⟨hz, rfl⟩ := hz
  have hc' : ∀ v ∈ vs, v.cells.size = inf.size := fun v hv => by simpa using List.all_eq_true.1 hc v hv
  have hlen : cs.length = n * inf.size := by rw [← hcs, flat_len vs hc', hn]
  have hf : Instr.fill (fun i => some (i * inf.size, inf.size)) ((Array.range (n * inf.size)).map (v.cells[· % v.cells.size]!)) (number 0 vs) = some cs.toArray := by
    rw [fill_all vs 0 _ hc' (by simp [hn]), ← hcs]
    simp
  refine L_run (w1 := w.alloc (.cells cs.toArray et)) ?_ (hk _ _ (new_row h et cs hlen (by simp only [maxLen]; omega)) (Below.alloc (Below.refl _ _) (Nat.le_refl _) _))
  unfold execOp
  have e : (parts.toArray.map fun (i, x) => (i, evE N env x)).toList = number 0 vs := by rw [← hp]; simp
  exact does_v (run_buildSlice hu hi hm hz (by rw [e]; exact hf) w)

/-! stores -/
theorem run_storeAt {a : Addr} {vs : List Value} {w w' : World} (hi : P.info? xt = some inf) (hn : inf.size = v.cells.size) (hs : (storeCells a v.cells.toList 0).run P w = .ok () w') : (Instr.storeAt xt (.pointer (some a)) v).run P w = .ok () w' := by
  simp [Instr.storeAt, Instr.sureAddr, storeVar, sizeOf, typeInfo, hi, hn, hs]
/-- *p = v, v of whichever size, into an owned block. -/
theorem L_store {o : Nat} {vs : List Value} (h : St w0 F L w) (hi : L[i]? = some (blk g et cs)) (hinfo : (P.info? xt).map (·.size) = some vs.length) (hx : evE N env x = .pointer (some ⟨g, o, none⟩)) (hy : evE N env y = v) (hv : v.cells = vs.toArray) (h1 : ∀ u ∈ vs, u.oneCell' = true) (ho : o + vs.length ≤ cs.length)
    (hk : ∀ w', St w0 F (L.set i (blk g et (cs.take o ++ vs ++ cs.drop (o + vs.length)))) w' → Ls P N ops l k env w') : Ls P N ops (⟨none, .store xt x y, t, p, af, none⟩ :: l) k env w := by
  obtain ⟨inf, hin, hsz⟩ := Option.map_eq_some_iff.1 hinfo
  have hb := h.blkAt hi
  have hst := run_storeG P g o et (0, 0) vs 0 cs.toArray w hb (fun j _ => by simp) (by simpa using ho) h1
  refine L_do (w1 := w.setRow g (cs.take o ++ vs ++ cs.drop (o + vs.length)).toArray) ?_ (hk _ (h.turnAt hi (fun S hS hA => ⟨S, (Gr.setRow w g _).mono (fun k hk => hk ▸ hA.2), ⟨setRow_heap w g _ _ et _ hb, hA.2⟩, fun k hk => ⟨.inl hk, by simpa [World.setRow] using (hS k hk).1⟩⟩)))
  unfold execOp
  simp only [hx, hy]
  have := run_storeAt (P := P) (xt := xt) (a := ⟨g, o, none⟩) (v := v) (vs := vs) hin (by rw [hsz, hv]; simp) (by rw [hv]; simpa using hst)
  simp [this]
theorem set_eq_splice {α : Type} (cs : List α) (o : Nat) (v : α) (h : o < cs.length) : cs.take o ++ [v] ++ cs.drop (o + 1) = cs.set o v := by
  rw [List.set_eq_take_append_cons_drop, if_pos h]; simp
/-- The same, of one cell. -/
theorem L_store1 {o : Nat} (h : St w0 F L w) (hi : L[i]? = some (blk g et cs)) (hinfo : (P.info? xt).map (·.size) = some 1) (hx : evE N env x = .pointer (some ⟨g, o, none⟩)) (hy : evE N env y = v) (h1 : v.oneCell' = true) (ho : o < cs.length)
    (hk : ∀ w', St w0 F (L.set i (blk g et (cs.set o v))) w' → Ls P N ops l k env w') : Ls P N ops (⟨none, .store xt x y, t, p, af, none⟩ :: l) k env w := by
  have hv : v.cells = #[v] := by cases v <;> first | rfl | simp [Value.oneCell'] at h1
  refine L_store (vs := [v]) h hi hinfo hx hy hv (by simpa using h1) ho (fun w' h' => hk w' ?_)
  rwa [List.length_singleton, set_eq_splice _ _ _ ho] at h'
/-- xs[j] = v into a row of its own. -/
theorem L_storeRow {e n c sz o : Nat} {vs : List Value} (h : St w0 F L w) (hi : L[i]? = some (row e sz (.slice (some ⟨g, 0, none⟩) n c) n cs)) (hinfo : (P.info? xt).map (·.size) = some vs.length) (hx : evE N env x = .pointer (some ⟨g, o, none⟩)) (hy : evE N env y = v) (hv : v.cells = vs.toArray) (h1 : ∀ u ∈ vs, u.oneCell' = true) (ho : o + vs.length ≤ cs.length)
    (hk : ∀ w', St w0 F (L.set i (row e sz (.slice (some ⟨g, 0, none⟩) n c) n (cs.take o ++ vs ++ cs.drop (o + vs.length)))) w' → Ls P N ops l k env w') : Ls P N ops (⟨none, .store xt x y, t, p, af, none⟩ :: l) k env w := by
  obtain ⟨inf, hin, hsz⟩ := Option.map_eq_some_iff.1 hinfo
  obtain ⟨hlen, hown⟩ := h.rowAt hi
  rcases hown with ⟨h2, _⟩ | ⟨g', cap, cur, fr, h2, hb, hfr, hnc, hcm, hcs, htk⟩
  · cases h2
  injection h2 with h2 _ h3
  injection h2 with h2
  injection h2 with h2 _
  subst h2
  subst h3
  have hle : n * sz ≤ cur.size := by rw [hcs]; exact Nat.mul_le_mul_right _ hnc
  have hst := run_storeG P g o e fr vs 0 cur w hb hfr (by omega) h1
  refine L_do (w1 := w.setRow g (cur.toList.take o ++ vs ++ cur.toList.drop (o + vs.length)).toArray) ?_ (hk _ (h.turnAt hi (fun S hS hA => ⟨S, (Gr.setRow w g _).mono (fun k hk => hk ▸ hA.2 g rfl),
    ⟨⟨?_, .inr ⟨g, c, _, fr, rfl, setRow_heap w g _ _ e _ hb, ?_, hnc, hcm, ?_, ?_⟩⟩, hA.2⟩, fun k hk => ⟨.inl hk, by simpa [World.setRow] using (hS k hk).1⟩⟩)))
  · unfold execOp
    simp only [hx, hy]
    have := run_storeAt (P := P) (xt := xt) (a := ⟨g, o, none⟩) (v := v) (vs := vs) hin (by rw [hsz, hv]; simp) (by rw [hv]; simpa using hst)
    simp [this]
  · simp; omega
  · intro j hj
    refine hfr j ?_
    simp at hj
    omega
  · simp; omega
  · rw [← htk]
    apply List.ext_getElem?
    intro j
    have e1 : (cur.toList.take (n * sz)).length = n * sz := by simp; omega
    simp only [List.getElem?_take, List.append_assoc, List.getElem?_append, List.length_take, List.length_append, List.getElem?_drop, List.length_drop, Array.length_toList]
    by_cases h5 : j < o
    · have : j < n * sz := by omega
      simp [this, h5, show j < min o cur.size by omega, show j < min o (min (n * sz) cur.size) by omega]
    · by_cases h6 : j < o + vs.length
      · have : j < n * sz := by omega
        simp [this, h5, show min o cur.size = o by omega, show min o (min (n * sz) cur.size) = o by omega, show j - o < vs.length by omega]
      · by_cases h7 : j < n * sz
        · simp [h7, show min o cur.size = o by omega, show min o (min (n * sz) cur.size) = o by omega, h5, show ¬ j - o < vs.length by omega, show o + vs.length + (j - o - vs.length) = j by omega]
        · simp [h7, show min o (min (n * sz) cur.size) = o by omega, h5, show ¬ j - o < vs.length by omega, show ¬ (o + vs.length + (j - o - vs.length) < n * sz) by omega]
theorem L_storeRow1 {e n c sz o : Nat} (h : St w0 F L w) (hi : L[i]? = some (row e sz (.slice (some ⟨g, 0, none⟩) n c) n cs)) (hinfo : (P.info? xt).map (·.size) = some 1) (hx : evE N env x = .pointer (some ⟨g, o, none⟩)) (hy : evE N env y = v) (h1 : v.oneCell' = true) (ho : o < cs.length)
    (hk : ∀ w', St w0 F (L.set i (row e sz (.slice (some ⟨g, 0, none⟩) n c) n (cs.set o v))) w' → Ls P N ops l k env w') : Ls P N ops (⟨none, .store xt x y, t, p, af, none⟩ :: l) k env w := by
  have hv : v.cells = #[v] := by cases v <;> first | rfl | simp [Value.oneCell'] at h1
  refine L_storeRow (vs := [v]) h hi hinfo hx hy hv (by simpa using h1) ho (fun w' h' => hk w' ?_)
  rwa [List.length_singleton, set_eq_splice _ _ _ ho] at h'

/-! append -/
theorem run_appendG (ty : TypeId) {sz bytes : Nat} {z : Value} (ht : P.underlying xt = some (.slice et)) (hi : P.info? et = some inf) (hz : inf.zero = some z) (hsize : inf.size = sz) (hby : inf.bytes = bytes) (hzs : z.cells.size = sz) (hsz : 0 < sz)
    {n : Nat} (hown : ownG w et sz v n cs) (a : Addr) (m c : Nat) (news : List Value) (hl : news.length = m * sz) (hnews : ∀ j u, news[j]? = some u → w.cell? (a.add j) = some u) (h1 : ∀ u ∈ news, u.oneCell' = true)
    (hbytes : (n + m) * bytes ≤ 140737488355328) (hb0 : 0 < bytes) :
    ∃ v' w', (Builtin.append_ #[xt, xt] ty #[v, .slice (some a) m c]).run P w = .ok v' w' ∧ ownG w' et sz v' (n + m) (cs ++ news) ∧ Gr w w' (fun k => v.ownBlock = some k) ∧ ∀ k, v'.ownBlock = some k → (v.ownBlock = some k ∨ k = w.heap.size) ∧ k < w'.heap.size := by
  subst hsize
  subst hby
  have hnm : n + m ≤ 140737488355328 := Nat.le_trans (Nat.le_mul_of_pos_right _ hb0) hbytes
  have h63 : n + m ≤ maxLen := by simp only [maxLen]; omega
  have hlen : (cs ++ news).length = (n + m) * inf.size := by rw [List.length_append, hown.1, hl, Nat.add_mul]
  have grown : ∀ (old : Nat) (S : Nat → Prop),
      ownG (w.drew.alloc (.cells (cs.toArray ++ news.toArray ++ Builtin.zeroCells z.cells (grownCap w (n + m) old et - (n + m))) et)) et inf.size
        (.slice (some ⟨w.heap.size, 0, none⟩) (n + m) (grownCap w (n + m) old et)) (n + m) (cs ++ news) ∧
      Gr w (w.drew.alloc (.cells (cs.toArray ++ news.toArray ++ Builtin.zeroCells z.cells (grownCap w (n + m) old et - (n + m))) et)) S ∧
      w.heap.size < (w.drew.alloc (.cells (cs.toArray ++ news.toArray ++ Builtin.zeroCells z.cells (grownCap w (n + m) old et - (n + m))) et)).heap.size := by
    intro old S
    have hge := grownCap_ge w (n + m) old et
    have hcm : grownCap w (n + m) old et ≤ maxLen := grownCap_le_maxLen w (n + m) old et h63
    refine ⟨⟨hlen, .inr ⟨w.heap.size, _, _, (0, 0), rfl, heap_alloc_new w.drew _, fun j _ => by simp, hge, hcm, ?_, ?_⟩⟩, (Gr.drew w S).trans (Gr.alloc w.drew _ S), by simp⟩
    · simp only [Array.size_append, List.size_toArray, size_zeroCells, hzs, hown.1, hl, ← Nat.add_mul]
      congr 1
      omega
    · simp only [Array.toList_append, List.append_assoc]
      rw [← List.append_assoc, ← hlen]
      exact List.take_left
  rcases hown.2 with ⟨rfl, rfl⟩ | ⟨g, cap, cur, fr, rfl, hg, hfr, hnc, hcm, hcs, htake⟩
  · have hx : cs = [] := List.eq_nil_of_length_eq_zero (by simpa using hown.1)
    subst hx
    by_cases hm : m = 0
    · subst hm
      have hn : news = [] := List.eq_nil_of_length_eq_zero (by simpa using hl)
      subst hn
      refine ⟨.slice none 0 0, w, ?_, ⟨by simp, .inl ⟨rfl, rfl⟩⟩, Gr.refl w _, fun k hk => by simp [Value.ownBlock] at hk⟩
      simp [Builtin.append_, run_underlying ht, sizeOf, typeInfo, hi, Builtin.lenOf, Builtin.firstCells, loadCells, loadCellsFrom]
    · have hr := run_append_nil (P := P) w xt ty et inf z ht hi hz a m c news hl hnews (by omega) (by omega) (by have hb := hbytes; simp only [Nat.zero_add] at hb; omega)
      have hgr := grown 0 (fun k => (Value.slice none 0 0).ownBlock = some k)
      simp only [Nat.zero_add, List.nil_append, Array.empty_append] at hgr ⊢
      exact ⟨_, _, hr, hgr.1, hgr.2.1, fun k hk => by
        have hkk : k = w.heap.size := by simpa [Value.ownBlock, eq_comm] using hk
        rw [hkk]
        exact ⟨.inr rfl, hgr.2.2⟩⟩
  · by_cases hroom : n + m ≤ cap
    · have hfit : n * inf.size + news.length ≤ cur.size := by rw [hl, hcs, ← Nat.add_mul]; exact Nat.mul_le_mul_right _ hroom
      have hst := run_storeG P g (n * inf.size) et fr news 0 cur w hg hfr (by simpa using hfit) h1
      simp only [Nat.add_zero] at hst
      have hf := run_firstCells_some (P := P) w inf.size m a m c news hl hnews
      have hr : (Builtin.append_ #[xt, xt] ty #[.slice (some ⟨g, 0, none⟩) n cap, .slice (some a) m c]).run P w = .ok (.slice (some ⟨g, 0, none⟩) (n + m) cap) (w.setRow g (cur.toList.take (n * inf.size) ++ news ++ cur.toList.drop (n * inf.size + news.length)).toArray) := by
        simp [Builtin.append_, run_underlying ht, sizeOf, typeInfo, hi, Builtin.lenOf, hroom, hf, Addr.add_lit, hst]
      refine ⟨_, _, hr, ⟨hlen, .inr ⟨g, cap, _, fr, rfl, setRow_heap w g cur _ et _ hg, ?_, hroom, hcm, ?_, ?_⟩⟩, (Gr.setRow w g _).mono (fun k hk => by simp [Value.ownBlock, hk]), fun k hk => ⟨.inl hk, ?_⟩⟩
      · intro j hj
        refine hfr j ?_
        simp at hj
        omega
      · simp only [List.size_toArray, List.length_append, List.length_take, List.length_drop, Array.length_toList]
        omega
      · rw [htake, ← hlen]
        exact List.take_left
      · have hlt := (Array.getElem?_eq_some_iff.1 hg).1
        have : g = k := by simpa [Value.ownBlock] using hk
        simpa [World.setRow, ← this] using hlt
    · have holds : ∀ j u, cs[j]? = some u → w.cell? ((⟨g, 0, none⟩ : Addr).add j) = some u := ownG.cells hown
      have hr := run_append_grow (P := P) w xt ty et inf z ht hi hz ⟨g, 0, none⟩ n cap cs hown.1 holds a m c news hl hnews (by omega) (by omega) (growslice_fits (by omega) hbytes)
      have hgr := grown cap (fun k => (Value.slice (some ⟨g, 0, none⟩) n cap).ownBlock = some k)
      exact ⟨_, _, hr, hgr.1, hgr.2.1, fun k hk => by
        have : k = w.heap.size := by simpa [Value.ownBlock, eq_comm] using hk
        exact ⟨.inr this, by rw [this]; exact hgr.2.2⟩⟩
/-- append(s, xs...), s a row of its own, xs at an address. -/
theorem L_append {n m c sz bytes : Nat} {a : Addr} {news : List Value} {u : Value} (h : St w0 F L w) (hi : L[i]? = some (row et sz v n cs)) (ht : P.underlying xt = some (.slice et)) (hinfo : (P.info? et).map (fun i => (i.zero, i.size, i.bytes)) = some (some u, sz, bytes)) (hu : u.cells.size = sz) (hs0 : 0 < sz) (hb0 : 0 < bytes)
    (hx : evE N env x = v) (hy : evE N env y = .slice (some a) m c) (hl : news.length = m * sz) (hnews : ∀ j u, news[j]? = some u → w.cell? (a.add j) = some u) (h1 : ∀ u ∈ news, u.oneCell' = true) (hbytes : (n + m) * bytes ≤ 140737488355328)
    (hk : ∀ v' w', St w0 F (L.set i (row et sz v' (n + m) (cs ++ news))) w' → Ls P N ops l k (upd env d v') w') : Ls P N ops (⟨some d, .call { callee := .builtin .append, args := #[x, y], argTypes := #[xt, xt] }, t, p, af, none⟩ :: l) k env w := by
  obtain ⟨inf, hin, hz⟩ := Option.map_eq_some_iff.1 hinfo
  simp only [Prod.mk.injEq] at hz
  obtain ⟨hz, hsz, hby⟩ := hz
  obtain ⟨v', w', hr, h2, h3, h4⟩ := run_appendG t ht hin hz hsz hby hu hs0 (h.rowAt hi) a m c news hl hnews h1 hbytes hb0
  refine L_run (w1 := w') (v := v') ?_ (hk _ _ (h.turnAt hi (fun S hS hA => ⟨fun k => v'.ownBlock = some k, h3.mono (fun k hk => hA.2 k hk), ⟨h2, fun k hk => hk⟩, fun k hk => ⟨?_, (h4 k hk).2⟩⟩)))
  · unfold execOp
    simp [resolve, invoke, builtin, hx, hy, hr]
  · rcases (h4 k hk).1 with h5 | h5
    · exact .inl (hA.2 k h5)
    · exact .inr (by omega)
/-- append(s, nil...) -/
theorem L_appendNil {n sz m c : Nat} (h : St w0 F L w) (hi : L[i]? = some (row et sz v n cs)) (ht : P.underlying xt = some (.slice et)) (hin : (P.info? et).map (·.size) = some sz) (hx : evE N env x = v) (hy : evE N env y = .slice none 0 c)
    (hk : Ls P N ops l k (upd env d v) w) : Ls P N ops (⟨some d, .call { callee := .builtin .append, args := #[x, y], argTypes := #[xt, xt] }, t, p, af, none⟩ :: l) k env w := by
  obtain ⟨inf, hin, hsz⟩ := Option.map_eq_some_iff.1 hin
  refine L_run (w1 := w) (v := v) ?_ hk
  unfold execOp
  rcases (h.rowAt hi).2 with ⟨rfl, rfl⟩ | ⟨g, cap, cur, fr, rfl, _, _, hnc, _⟩
  · simp [resolve, invoke, builtin, hx, hy, Builtin.append_, run_underlying ht, sizeOf, typeInfo, hin, Builtin.lenOf, Builtin.firstCells]
  · simp [resolve, invoke, builtin, hx, hy, Builtin.append_, run_underlying ht, sizeOf, typeInfo, hin, Builtin.lenOf, Builtin.firstCells, hnc, storeCells]

theorem set_same {α : Type} {L : List α} {i : Nat} {A : α} (h : L[i]? = some A) : L.set i A = L := by
  apply List.ext_getElem?
  intro j
  rw [List.getElem?_set]
  split
  · rename_i e
    subst e
    rw [h]
    simp [(List.getElem?_eq_some_iff.1 h).1]
  · rfl
/-- append(s, xs...), xs read at A (nil, too). -/
theorem L_appendRd {n m c sz bytes : Nat} {A : Option Addr} {news : List Value} {u : Value} (h : St w0 F L w) (hi : L[i]? = some (row et sz v n cs)) (ht : P.underlying xt = some (.slice et)) (hinfo : (P.info? et).map (fun i => (i.zero, i.size, i.bytes)) = some (some u, sz, bytes)) (hu : u.cells.size = sz) (hs0 : 0 < sz) (hb0 : 0 < bytes)
    (hx : evE N env x = v) (hy : evE N env y = .slice A m c) (hl : news.length = m * sz) (hr : Rd w A news) (h1 : ∀ u ∈ news, u.oneCell' = true) (hbytes : (n + m) * bytes ≤ 140737488355328)
    (hk : ∀ v' w', St w0 F (L.set i (row et sz v' (n + m) (cs ++ news))) w' → Ls P N ops l k (upd env d v') w') : Ls P N ops (⟨some d, .call { callee := .builtin .append, args := #[x, y], argTypes := #[xt, xt] }, t, p, af, none⟩ :: l) k env w := by
  cases A with
  | some a =>
    refine L_append h hi ht hinfo hu hs0 hb0 hx hy hl (fun j u hj => ?_) h1 hbytes hk
    rcases hr with rfl | ⟨a', h2, h3⟩
    · simp at hj
    · injection h2 with h2
      subst h2
      exact h3 j u hj
  | none =>
    have hn : news = [] := by
      rcases hr with rfl | ⟨a', h2, _⟩
      · rfl
      · cases h2
    subst hn
    have hm : m = 0 := by
      rcases Nat.eq_zero_or_pos m with h0 | h0
      · exact h0
      · have := Nat.mul_pos h0 hs0
        simp at hl
        omega
    subst hm
    have hin : (P.info? et).map (·.size) = some sz := by
      obtain ⟨inf, h2, h3⟩ := Option.map_eq_some_iff.1 hinfo
      simp only [Prod.mk.injEq] at h3
      rw [h2]
      simp [h3.2.1]
    refine L_appendNil (m := 0) h hi ht hin hx hy (hk v w ?_)
    have h4 : L.set i (row et sz v (n + 0) (cs ++ [])) = L := by
      rw [Nat.add_zero, List.append_nil]
      exact set_same hi
    rw [h4]
    exact h

/-! calls -/
/-- The function comes back with a value. -/
def Runs (P : Program) (f : FuncId) (args : List Value) (w : World) (R : Value → World → Prop) : Prop := Calls P f args.toArray w fun e w' => ∃ v, e = .returned v ∧ R v w'
theorem Runs.mono {f : FuncId} {args : List Value} {R R' : Value → World → Prop} (h : Runs P f args w R) (hR : ∀ v w', R v w' → R' v w') : Runs P f args w R' :=
  Calls.mono h (fun e w' he => by obtain ⟨v, h1, h2⟩ := he; exact ⟨v, h1, hR v w' h2⟩)
theorem L_call {f : FuncId} {fn : Func} {xs : Array Operand} {ts : Array TypeId} {args : List Value} {R : Value → World → Prop} (hf : P.funcs[f]? = some fn) (hname : (fn.name == "runtime.NumGoroutine") = false) (hb : fn.body.isSome = true)
    (hargs : xs.toList.map (evE N env) = args) (H : Runs P f args w R) (hk : ∀ v w', R v w' → Ls P N ops l k (upd env d v) w') : Ls P N ops (⟨some d, .call { callee := .value (.func f), args := xs, argTypes := ts }, t, p, af, none⟩ :: l) k env w := by
  refine L_step (fun K hK => ?_)
  unfold Oper.wp
  have hrun : (execOp (act N env).eval ⟨some d, .call { callee := .value (.func f), args := xs, argTypes := ts }, t, p, af, none⟩).run P w = .ok (.enter f args.toArray) w := by
    rw [eval_act]
    unfold execOp
    have hb' : ¬ fn.body = none := by
      intro hn
      rw [hn] at hb
      cases hb
    have hn' : ¬ fn.name = "runtime.NumGoroutine" := by simpa using hname
    have ha : xs.map (evE N env) = args.toArray := by rw [← hargs, ← Array.toList_map]
    simp [resolve, Deferred.ofValue, evE, invoke, callFunc, hf, hn', hb', ha]
  rw [hrun, Oper.upon_enter]
  refine Calls.mono H (fun e w' he => ?_)
  obtain ⟨v, rfl, h2⟩ := he
  show K ((act N env).put (some d) v) w'
  rw [put_act]
  exact hK _ _ (hk v w' h2)
/-- What a function hands back. -/
def Ret (P : Program) (fn : Func) (N : Nat) (R : Value → World → Prop) (e : Env) (w : World) : Prop := ∃ v, (results fn (act N e).tmps).run P w = .ok v w ∧ R v w
theorem Runs_of {f : FuncId} {fn : Func} {c : Code} {args : List Value} {R : Value → World → Prop} (hf : P.funcs[f]? = some fn) (hb : fn.body = some c) (hN : fn.ntmps = N) (hl : args.length ≤ N) (h : W P N c (Ret P fn N R) noX (Ret P fn N R) (argE args) w) : Runs P f args w R := by
  refine calls_of_wp hf hb ?_
  have he := enter_act N args hl
  rw [hN]
  simp only [List.size_toArray]
  rw [he]
  refine wp_mono h.out (fun x a w hq => ?_)
  cases x with
  | normal =>
    obtain ⟨e, rfl, v, h1, h2⟩ := hq
    exact ⟨rfl, v, h1, v, rfl, h2⟩
  | ret =>
    obtain ⟨e, rfl, v, h1, h2⟩ := hq
    exact ⟨rfl, v, h1, v, rfl, h2⟩
  | exit i => obtain ⟨e, rfl, h1⟩ := hq; exact h1.elim
  | goto l => exact hq.elim
  | panic c => exact hq.elim
  | outgrown => exact hq.elim
section ret
variable {fn : Func} {R : Value → World → Prop} {e : Env} {v1 v2 v3 : Value} {a b c : Tmp}
theorem tmps_act {t : Nat} : (act N e).tmps[t]?.getD undef = evE N e (.tmp t) := by
  have := congrFun (eval_act N e) (.tmp t)
  simpa [Act.eval] using this
theorem Ret0 (hr : fn.results = #[]) (h : R (.tuple #[]) w) : Ret P fn N R e w := ⟨_, by simp [results, hr], h⟩
theorem Ret1 (hr : fn.results = #[.tmp a]) (h1 : evE N e (.tmp a) = v1) (h : R v1 w) : Ret P fn N R e w := ⟨v1, by simp only [results, hr]; simp [tmps_act, h1], h⟩
theorem Ret2 (hr : fn.results = #[.tmp a, .tmp b]) (h1 : evE N e (.tmp a) = v1) (h2 : evE N e (.tmp b) = v2) (h : R (.tuple #[v1, v2]) w) : Ret P fn N R e w := ⟨.tuple #[v1, v2], by simp only [results, hr]; simp [tmps_act, h1, h2], h⟩
theorem Ret3 (hr : fn.results = #[.tmp a, .tmp b, .tmp c]) (h1 : evE N e (.tmp a) = v1) (h2 : evE N e (.tmp b) = v2) (h3 : evE N e (.tmp c) = v3) (h : R (.tuple #[v1, v2, v3]) w) : Ret P fn N R e w := ⟨.tuple #[v1, v2, v3], by simp only [results, hr]; simp [tmps_act, h1, h2, h3], h⟩
/-- Results in whatever form: each by its run. -/
theorem RetV (h1 : (results fn (act N e).tmps).run P w = .ok v1 w) (h : R v1 w) : Ret P fn N R e w := ⟨v1, h1, h⟩
end ret
end Go.Fw
