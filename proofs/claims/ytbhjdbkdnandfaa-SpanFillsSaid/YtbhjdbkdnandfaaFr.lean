/- Rows of bytes, and rows of these: made, and read. -/
import Derived.Test.YtbhjdbkdnandfaaFx
namespace Go.Fw
open Go Go.RowKit Asn
theorem has_i64' {a : Int} (h : -9223372036854775808 ≤ a ∧ a ≤ 9223372036854775807) : IntKind.i64.has a := has_i64 h.1 h.2
/-- Whole numbers of a kind, as cells. -/
def ints (k : IntKind) (xs : List Int) : List Value := xs.map (Value.int k)
abbrev bys (xs : List Int) : List Value := ints .u8 xs
theorem ints_length {k : IntKind} (xs : List Int) : (ints k xs).length = xs.length := by simp [ints]
theorem bys_length (xs : List Int) : (bys xs).length = xs.length := ints_length xs
theorem ints_one {k : IntKind} (xs : List Int) : ∀ u ∈ ints k xs, u.oneCell' = true := by
  intro u hu
  obtain ⟨x, _, rfl⟩ := List.mem_map.1 hu
  rfl
theorem bys_one (xs : List Int) : ∀ u ∈ bys xs, u.oneCell' = true := ints_one xs
theorem ints_append {k : IntKind} (xs ys : List Int) : ints k (xs ++ ys) = ints k xs ++ ints k ys := by simp [ints]
theorem bys_append (xs ys : List Int) : bys (xs ++ ys) = bys xs ++ bys ys := ints_append xs ys
theorem ints_take {k : IntKind} (xs : List Int) (n : Nat) : ints k (xs.take n) = (ints k xs).take n := by simp [ints]
theorem ints_drop {k : IntKind} (xs : List Int) (n : Nat) : ints k (xs.drop n) = (ints k xs).drop n := by simp [ints]
theorem ints_get {k : IntKind} {xs : List Int} {j : Nat} {x : Int} (h : xs[j]? = some x) : (ints k xs)[j]? = some (.int k x) := by simp [ints, h]
theorem ints_set {k : IntKind} (xs : List Int) (j : Nat) (x : Int) : (ints k xs).set j (.int k x) = ints k (xs.set j x) := by simp [ints, List.map_set]
section
variable {w w' w0 : World} {F : Nat → Prop} {L : List Asn} {A : Option Addr} {e E n c i j : Nat} {v : Value} {xs : List Int} {k : IntKind} {rows : List (List Int)} {vs : List Value}
theorem cell_keep {a : Addr} (h : w.cell? a = some v) (hb : Below w.heap.size w w') : w'.cell? a = some v := (hb.cell (World.block_lt_of_cell? w a h)).trans h
theorem Rd.keep {vs : List Value} (h : Rd w A vs) (hb : Below w.heap.size w w') : Rd w' A vs := by
  rcases h with rfl | ⟨a, rfl, h⟩
  · exact .inl rfl
  · exact .inr ⟨a, rfl, fun j u hj => cell_keep (h j u hj) hb⟩
/-- The cell of an element that is read. -/
theorem Rd.cell {a : Addr} {u : Value} {vs : List Value} (h : Rd w (some a) vs) (hj : vs[j]? = some u) : w.cell? (a.add j) = some u := by
  rcases h with rfl | ⟨a', h1, h⟩
  · simp at hj
  · injection h1 with h1
    subst h1
    exact h j u hj
theorem Rd.addr {vs : List Value} (h : Rd w A vs) (hn : 0 < vs.length) : ∃ a, A = some a := by
  rcases h with rfl | ⟨a, rfl, _⟩
  · simp at hn
  · exact ⟨a, rfl⟩
theorem Rd.lt {vs : List Value} (h : Rd w A vs) (hj : j < vs.length) : ∃ a, A = some a ∧ w.cell? (a.add j) = some vs[j] := by
  obtain ⟨a, rfl⟩ := h.addr (by omega)
  exact ⟨a, rfl, h.cell (List.getElem?_eq_getElem hj)⟩
/-- The bytes' rows, each a block of its own. -/
def zr (e : Nat) (vs : List Value) (rows : List (List Int)) : List Asn := List.zipWith (fun v xs => row e 1 v xs.length (bys xs)) vs rows
theorem zr_snoc {ys : List Int} (hl : vs.length = rows.length) : zr e (vs ++ [v]) (rows ++ [ys]) = zr e vs rows ++ [row e 1 v ys.length (bys ys)] := by
  unfold zr
  rw [List.zipWith_append hl]
  rfl
/-- A row of rows of bytes of one's own. -/
def rowsA (E e : Nat) (v : Value) (rows : List (List Int)) : Asn := ex fun vs : List Value => pur (vs.length = rows.length) (stars (row E 1 v vs.length vs :: zr e vs rows))
theorem rows_open (h : St w0 F (rowsA E e v rows :: L) w) : ∃ vs, vs.length = rows.length ∧ St w0 F (row E 1 v vs.length vs :: (zr e vs rows ++ L)) w := by
  obtain ⟨x, h1⟩ := h.unex
  obtain ⟨h2, h3⟩ := h1.unpur
  exact ⟨_, h2, h3.unstars⟩
theorem rows_close (hl : vs.length = rows.length) (h : St w0 F (row E 1 v vs.length vs :: (zr e vs rows ++ L)) w) : St w0 F (rowsA E e v rows :: L) w :=
  St.ex (f := fun vs : List Value => pur (vs.length = rows.length) (stars (row E 1 v vs.length vs :: zr e vs rows))) vs (St.pur hl (St.stars (L1 := row E 1 v vs.length vs :: zr e vs rows) h))
theorem rows_nil (E e : Nat) (h : St w0 F L w) : St w0 F (rowsA E e (.slice none 0 0) [] :: L) w := rows_close (vs := []) rfl (h.push_nil E 1)
/-- One more behind them. -/
theorem rows_snoc {v1 u : Value} {ys : List Int} (hl : vs.length = rows.length) (h : St w0 F (row E 1 v1 (vs.length + 1) (vs ++ [u]) :: row e 1 u ys.length (bys ys) :: (zr e vs rows ++ L)) w) : St w0 F (rowsA E e v1 (rows ++ [ys]) :: L) w := by
  refine rows_close (vs := vs ++ [u]) (by simp [hl]) ?_
  rw [zr_snoc hl, List.length_append, List.length_singleton, List.append_assoc, List.singleton_append]
  exact h.perm (List.Perm.cons _ List.perm_middle.symm)
/-- Rows of bytes that are read at A. -/
def RowsRd (w : World) (A : Option Addr) (rows : List (List Int)) : Prop := ∀ j xs, rows[j]? = some xs → ∃ a A' c, A = some a ∧ w.cell? (a.add j) = some (.slice A' xs.length c) ∧ xs.length ≤ c ∧ Rd w A' (bys xs)
theorem RowsRd.keep (h : RowsRd w A rows) (hb : Below w.heap.size w w') : RowsRd w' A rows := fun j xs hj => by
  obtain ⟨a, A', c, h1, h2, h3, h4⟩ := h j xs hj
  exact ⟨a, A', c, h1, cell_keep h2 hb, h3, h4.keep hb⟩
def FRows (F : Nat → Prop) (w0 : World) (A : Option Addr) (rows : List (List Int)) : Prop := ∀ w : World, (∀ k, F k → w.heap[k]? = w0.heap[k]?) → RowsRd w A rows
theorem FRows.at (hr : FRows F w0 A rows) (h : St w0 F L w) : RowsRd w A rows := hr w h.fix
theorem zr_get : ∀ {vs : List Value} {rows : List (List Int)} {j : Nat} {xs : List Int}, vs.length = rows.length → rows[j]? = some xs → ∃ u, vs[j]? = some u ∧ (zr e vs rows)[j]? = some (row e 1 u xs.length (bys xs))
  | [], [], j, xs, _, h => by simp at h
  | u :: vs, r :: rows, 0, xs, _, h => ⟨u, rfl, by simp at h; subst h; rfl⟩
  | u :: vs, r :: rows, j + 1, xs, hl, h => by
    obtain ⟨u', h1, h2⟩ := zr_get (vs := vs) (rows := rows) (j := j) (xs := xs) (by simpa using hl) (by simpa using h)
    exact ⟨u', by simpa using h1, by simpa [zr] using h2⟩
/-- What is owned may be read. -/
theorem rows_rd {n' : Nat} (hl : vs.length = rows.length) (h : St w0 F (row E 1 (.slice A n' c) vs.length vs :: (zr e vs rows ++ L)) w) : RowsRd w A rows := by
  intro j xs hj
  obtain ⟨u, h1, h2⟩ := zr_get (e := e) hl hj
  have hlt : j < (zr e vs rows).length := (List.getElem?_eq_some_iff.1 h2).1
  have hr := (h.rowAt (i := 0) rfl).rd
  have hjv : j < vs.length := (List.getElem?_eq_some_iff.1 h1).1
  obtain ⟨a, rfl⟩ := hr.addr (by omega)
  have ho := h.rowAt (i := j + 1) (e := e) (sz := 1) (v := u) (n := xs.length) (cs := bys xs) (by
    rw [List.getElem?_cons_succ, List.getElem?_append_left hlt]
    exact h2)
  obtain ⟨A', c', rfl, h3, _⟩ := ho.slice
  exact ⟨a, A', c', rfl, hr.cell h1, h3, ho.rd⟩
end
section
variable {P : Program} {ρ : Operand → Value} {w : World} {D : Option Nat} {t : TypeId} {p : String} {af : Array Edge} {g : Option (Nat × Bool)} {x y : Operand} {xt yt el : TypeId} {sz n c : Nat} {A : Option Addr}
/-- xs == nil -/
theorem d_eqlNil (h : sliceOk P xt el sz = true) (hx : ρ x = .slice A n c) (hy : ρ y = .slice none 0 0) : Does P ρ ⟨D, .binOp .eql xt x y yt, t, p, af, g⟩ w (.bool A.isNone) := by
  unfold Does execOp
  simp only [hx, hy]
  cases A with
  | none => exact does_v (by have := Lib.run_eql_slice_nil (P := P) w xt el none n c 0 0 (sliceOk_u h).1; simpa [eqGuard] using this)
  | some a => exact does_v (by have := Lib.run_eql_slice_nil (P := P) w xt el (some a) n c 0 0 (sliceOk_u h).1; simpa [eqGuard] using this)
theorem d_neqNil (h : sliceOk P xt el sz = true) (hx : ρ x = .slice A n c) (hy : ρ y = .slice none 0 0) : Does P ρ ⟨D, .binOp .neq xt x y yt, t, p, af, g⟩ w (.bool (!A.isNone)) := by
  unfold Does execOp
  simp only [hx, hy]
  exact does_v (by have := run_neq_slice_nil_any (P := P) w xt el A n c 0 0 (sliceOk_u h).1; simpa [eqGuard] using this)
end
end Go.Fw
