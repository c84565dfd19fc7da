/- Writers of volumes: what they own. -/
import Derived.Test.YtbhjdbkdnandfaaFc
import Derived.Test.YtbhjdbkdnandfaaFr
import Derived.Test.YtbhjdbkdnandfaaFq
namespace Go.Proofs.Ytbhjdbkdnandfaa.Sp
open Go Go.RowKit Go.Fw Go.Fw.Asn Go.Proofs
def wrL (gp : Nat) (size : Int) (gr c : Nat) (vi : List Value) (vl : Value) (ini : List (List Int)) (lst : List Int) : List Asn :=
  blk gp 61 [.int .i64 size, .slice (some ⟨gr, 0, none⟩) (vi.length + 1) c] :: row 33 1 (.slice (some ⟨gr, 0, none⟩) (vi.length + 1) c) (vi.length + 1) (vi ++ [vl]) :: row 5 1 vl lst.length (bys lst) :: zr 5 vi ini
/-- A writer at block gp: its volumes are ini, and lst behind them. -/
def wrA (gp : Nat) (size : Int) (ini : List (List Int)) (lst : List Int) : Asn :=
  ex fun x : Nat × Nat × List Value × Value => pur (x.2.2.1.length = ini.length) (stars (wrL gp size x.1 x.2.1 x.2.2.1 x.2.2.2 ini lst))
section
variable {w0 w : World} {F : Nat → Prop} {L : List Asn} {gp : Nat} {size : Int} {ini : List (List Int)} {lst : List Int}
theorem wr_open (h : St w0 F (wrA gp size ini lst :: L) w) : ∃ gr c vi vl, vi.length = ini.length ∧ St w0 F (wrL gp size gr c vi vl ini lst ++ L) w := by
  obtain ⟨x, h1⟩ := h.unex
  obtain ⟨h2, h3⟩ := h1.unpur
  exact ⟨_, _, _, _, h2, h3.unstars⟩
theorem wr_close {gr c : Nat} {vi : List Value} {vl : Value} (hl : vi.length = ini.length) (h : St w0 F (wrL gp size gr c vi vl ini lst ++ L) w) : St w0 F (wrA gp size ini lst :: L) w :=
  St.ex (f := fun x : Nat × Nat × List Value × Value => pur (x.2.2.1.length = ini.length) (stars (wrL gp size x.1 x.2.1 x.2.2.1 x.2.2.2 ini lst))) (gr, c, vi, vl) (St.pur hl h.stars)
/-- What stands there, to be read. -/
theorem wr_facts {gr c : Nat} {vi : List Value} {vl : Value} (h : St w0 F (wrL gp size gr c vi vl ini lst ++ L) w) :
    w.heap[gp]? = some (.cells [.int .i64 size, .slice (some ⟨gr, 0, none⟩) (vi.length + 1) c].toArray 61 (0, 0)) ∧ w.cell? ⟨gr, vi.length, none⟩ = some vl ∧ ∃ A k, vl = .slice A lst.length k ∧ lst.length ≤ k := by
  refine ⟨h.blkAt (i := 0) rfl, (h.rowAt (i := 1) rfl).cell (by simp), ?_⟩
  obtain ⟨A, k, h1, h2, _⟩ := (h.rowAt (i := 2) rfl).slice
  exact ⟨A, k, h1, h2⟩
end
theorem perm_lay {α : Type} (N B R r : α) (Z L : List α) : (N :: B :: R :: r :: (Z ++ L)).Perm (B :: R :: N :: (Z ++ [r] ++ L)) := by
  rw [List.append_assoc, List.singleton_append]
  exact ((List.Perm.swap B N _).trans (List.Perm.cons B (List.Perm.swap R N _))).trans (List.Perm.cons B (List.Perm.cons R (List.Perm.cons N List.perm_middle.symm)))
/-- A new volume, nothing in it yet. -/
theorem wr_grow {w0 w : World} {F : Nat → Prop} {L : List Asn} {gp : Nat} {size : Int} {ini : List (List Int)} {lst : List Int} {vi : List Value} {vl v : Value} (hl : vi.length = ini.length)
    (h : St w0 F (blk gp 61 [.int .i64 size, v] :: row 33 1 v (vi.length + 1 + 1) (vi ++ [vl] ++ [.slice none 0 0]) :: row 5 1 vl lst.length (bys lst) :: (zr 5 vi ini ++ L)) w) : St w0 F (wrA gp size (ini ++ [lst]) [] :: L) w := by
  obtain ⟨g, cap, rfl⟩ := (h.rowAt (i := 1) rfl).form (by omega)
  refine wr_close (gr := g) (c := cap) (vi := vi ++ [vl]) (vl := .slice none 0 0) (by simp [hl]) ?_
  have h1 := (h.push_nil 5 1).perm (perm_lay _ _ _ _ _ _)
  unfold wrL
  rw [zr_snoc hl]
  simpa [ints] using h1
theorem wr_last {w0 w : World} {F : Nat → Prop} {L : List Asn} {gp c gr : Nat} {size : Int} {ini : List (List Int)} {lst : List Int} {vi : List Value} {v : Value} (hl : vi.length = ini.length)
    (h : St w0 F (blk gp 61 [.int .i64 size, .slice (some ⟨gr, 0, none⟩) (vi.length + 1) c] :: row 33 1 (.slice (some ⟨gr, 0, none⟩) (vi.length + 1) c) (vi.length + 1) (vi ++ [v]) :: row 5 1 v lst.length (bys lst) :: (zr 5 vi ini ++ L)) w) : St w0 F (wrA gp size ini lst :: L) w := wr_close hl h
theorem wr_reads {w0 w : World} {F : Nat → Prop} {L : List Asn} {gp : Nat} {size : Int} {ini : List (List Int)} {lst : List Int} {i : Nat} (h : St w0 F L w) (hi : L[i]? = some (wrA gp size ini lst)) :
    ∃ gr c A k, w.heap[gp]? = some (.cells [.int .i64 size, .slice (some ⟨gr, 0, none⟩) (ini.length + 1) c].toArray 61 (0, 0)) ∧ w.cell? ⟨gr, ini.length, none⟩ = some (.slice A lst.length k) ∧ lst.length ≤ k := by
  obtain ⟨gr, c, vi, vl, hvi, h⟩ := wr_open (h.front hi)
  obtain ⟨h1, h2, A, k, rfl, h3⟩ := wr_facts h
  rw [hvi] at h1 h2
  exact ⟨gr, c, A, k, h1, h2, h3⟩
/-- What lay does. -/
def layI (size : Int) (ini : List (List Int)) (lst xs : List Int) : List (List Int) := if size - lst.length < xs.length then ini ++ [lst] else ini
def layL (size : Int) (lst xs : List Int) : List Int := if size - lst.length < xs.length then xs else lst ++ xs
/-- Where so many would stand. -/
def placeD (size : Int) (ini : List (List Int)) (lst : List Int) (n : Int) : Int := if size - lst.length < n then ini.length + 1 else ini.length
def placeA (size : Int) (lst : List Int) (n : Int) : Int := if size - lst.length < n then 0 else lst.length
/-- What Record does. -/
def recI (size : Int) (ini : List (List Int)) (lst xs : List Int) : List (List Int) := if xs.length = 0 ∨ (xs.length : Int) > size then ini else layI size ini lst xs
def recL (size : Int) (lst xs : List Int) : List Int := if xs.length = 0 ∨ (xs.length : Int) > size then lst else layL size lst xs
def recE (size : Int) (xs : List Int) : Int := if xs.length = 0 ∨ (xs.length : Int) > size then 50 else 0
def recD (size : Int) (ini : List (List Int)) (lst xs : List Int) : Int := if xs.length = 0 ∨ (xs.length : Int) > size then 0 else placeD size ini lst xs.length
def recA (size : Int) (lst xs : List Int) : Int := if xs.length = 0 ∨ (xs.length : Int) > size then 0 else placeA size lst xs.length
abbrev Vol := List (List Int) × List Int
/-- A byte more, as data. -/
def putB (size : Int) (s : Vol) (c : Int) : Vol := if (s.2.length : Int) = size then (s.1 ++ [s.2], [c]) else (s.1, s.2 ++ [c])
theorem fold_fit {size : Int} : ∀ (xs : List Int) (ini : List (List Int)) (lst : List Int), (lst.length : Int) + xs.length ≤ size → xs.foldl (putB size) (ini, lst) = (ini, lst ++ xs)
  | [], ini, lst, _ => by simp
  | c :: xs, ini, lst, h => by
    have h1 : ¬ (lst.length : Int) = size := by simp at h; omega
    rw [List.foldl_cons, putB, if_neg h1, fold_fit xs ini (lst ++ [c]) (by simp at h ⊢; omega)]
    simp
theorem lay_fold {size : Int} {ini : List (List Int)} {lst xs : List Int} (h : (xs.length : Int) ≤ size - lst.length ∨ ((lst.length : Int) = size ∧ xs ≠ [] ∧ (xs.length : Int) ≤ size)) :
    (layI size ini lst xs, layL size lst xs) = xs.foldl (putB size) (ini, lst) := by
  rcases h with h | ⟨h1, h2, h3⟩
  · rw [fold_fit _ _ _ (by omega)]
    have h4 : ¬ (size - lst.length < (xs.length : Int)) := by omega
    rw [layI, layL, if_neg h4, if_neg h4]
  · cases xs with
    | nil => exact absurd rfl h2
    | cons c xs =>
      have h4 : size - lst.length < (((c :: xs).length : Nat) : Int) := by simp; omega
      rw [layI, layL, if_pos h4, if_pos h4, List.foldl_cons, putB, if_pos h1, fold_fit _ _ _ (by simp at h3 ⊢; omega)]
      simp
theorem fold_drop {size : Int} {s : Vol} {xs : List Int} (n : Nat) (t : Vol) (h : t = (xs.take n).foldl (putB size) s) : (xs.drop n).foldl (putB size) t = xs.foldl (putB size) s := by
  rw [h, ← List.foldl_append, List.take_append_drop]
theorem layL_le {size : Int} {lst xs : List Int} (h1 : (lst.length : Int) ≤ size) (h2 : (xs.length : Int) ≤ size) : ((layL size lst xs).length : Int) ≤ size := by
  unfold layL
  split
  · exact h2
  · simp
    omega
theorem layI_le {size : Int} {ini : List (List Int)} {lst xs : List Int} : (layI size ini lst xs).length ≤ ini.length + 1 := by
  unfold layI
  split <;> simp
/-- b[n:] of what is read. -/
theorem rd_from {F : Nat → Prop} {w0 : World} {A : Option Addr} {xs : List Int} {n c : Nat} (h : FRd F w0 A (bys xs)) (hl : xs.length ≤ c) : FRd F w0 (if c = n then A else A.map (·.add (n * 1))) (bys (xs.drop n)) := by
  split
  · rename_i e
    have : xs.drop n = [] := by simp; omega
    rw [this]
    exact FRd.nil _ _ _
  · have := h.drop n
    rw [Nat.mul_one]
    rwa [← ints_drop] at this
section
variable {w0 w : World} {F : Nat → Prop} {L : List Asn} {gp g : Nat} {size : Int} {ini : List (List Int)} {lst : List Int} {v : Value}
theorem snoc_split {α : Type} (vs : List α) (n : Nat) (h : vs.length = n + 1) : ∃ vi vl, vs = vi ++ [vl] ∧ vi.length = n := by
  have hne : vs ≠ [] := by intro e; subst e; simp at h
  exact ⟨vs.dropLast, vs.getLast hne, (List.dropLast_concat_getLast hne).symm, by simp [h]⟩
/-- A writer out of its parts. -/
theorem wr_of (h : St w0 F (blk g 61 [.int .i64 size, v] :: rowsA 33 5 v (ini ++ [lst]) :: L) w) : St w0 F (wrA g size ini lst :: L) w := by
  obtain ⟨vs, hvs, h1⟩ := rows_open h.up1
  obtain ⟨vi, vl, rfl, hvi⟩ := snoc_split vs ini.length (by simpa using hvs)
  rw [zr_snoc hvi] at h1
  obtain ⟨gr, c, rfl⟩ := (h1.rowAt (i := 0) rfl).form (by simp)
  refine wr_close (gr := gr) (c := c) (vl := vl) hvi ?_
  unfold wrL
  have e : (vi ++ [vl]).length = vi.length + 1 := by simp
  rw [e] at h1
  refine h1.perm ?_
  simp only [List.append_assoc, List.singleton_append, List.cons_append, List.nil_append]
  generalize zr 5 vi ini = Z
  generalize row 33 1 _ _ _ = R
  generalize row 5 1 _ _ _ = q
  generalize blk g 61 _ = B
  -- R :: (Z ++ q :: B :: L)  ~  B :: R :: q :: (Z ++ L)
  have e1 : (Z ++ q :: B :: L).Perm (q :: B :: (Z ++ L)) := List.perm_middle.trans (List.Perm.cons q List.perm_middle)
  exact ((List.Perm.cons R e1).trans (List.Perm.cons R (List.Perm.swap B q _))).trans (List.Perm.swap B R _)
/-- A writer's parts. -/
theorem wr_parts (h : St w0 F (wrA g size ini lst :: L) w) : ∃ v, St w0 F (blk g 61 [.int .i64 size, v] :: rowsA 33 5 v (ini ++ [lst]) :: L) w := by
  obtain ⟨gr, c, vi, vl, hvi, h1⟩ := wr_open h
  refine ⟨.slice (some ⟨gr, 0, none⟩) (vi.length + 1) c, (rows_snoc (L := blk g 61 [.int .i64 size, .slice (some ⟨gr, 0, none⟩) (vi.length + 1) c] :: L) (u := vl) hvi ?_).up1⟩
  refine h1.perm ?_
  unfold wrL
  simp only [List.cons_append]
  generalize zr 5 vi ini = Z
  generalize row 33 1 _ _ _ = R
  generalize row 5 1 _ _ _ = q
  generalize blk g 61 _ = B
  have e1 : (B :: (Z ++ L)).Perm (Z ++ B :: L) := List.perm_middle.symm
  exact (List.Perm.swap R B _).trans ((List.Perm.cons R (List.Perm.swap q B _)).trans (List.Perm.cons R (List.Perm.cons q e1)))
/-- What of a writer is read: its head, its volumes. -/
theorem wr_rd {i : Nat} (h : St w0 F L w) (hi : L[i]? = some (wrA g size ini lst)) : ∃ A c, w.heap[g]? = some (.cells [.int .i64 size, .slice A (ini ++ [lst]).length c].toArray 61 (0, 0)) ∧ RowsRd w A (ini ++ [lst]) := by
  obtain ⟨v, h1⟩ := wr_parts (h.front hi)
  obtain ⟨vs, hvs, h2⟩ := rows_open h1.up1
  obtain ⟨A, c, rfl, _⟩ := (h2.rowAt (i := 0) rfl).slice
  refine ⟨A, c, ?_, rows_rd hvs h2⟩
  rw [← hvs]
  exact h1.blkAt (i := 0) rfl
end
/-- A number's lowest bytes. -/
def leB : Nat → Int → List Int
  | 0, _ => []
  | k + 1, n => n % 256 :: leB k (n / 256)
/-- What put does. -/
def putI (nx : Bool) (ini : List (List Int)) (lst : List Int) : List (List Int) := if nx then ini ++ [lst] else ini
def putL (nx : Bool) (lst : List Int) : List Int := if nx then [] else lst
theorem putI_len {nx : Bool} {ini : List (List Int)} {lst : List Int} : (putI nx ini lst).length ≤ ini.length + 1 := by
  unfold putI
  split <;> simp
theorem putL_len {nx : Bool} {lst : List Int} : (putL nx lst).length ≤ lst.length := by
  unfold putL
  split <;> simp
theorem putB_eq (size : Int) (I : List (List Int)) (l : List Int) (x : Int) : putB size (I, l) x = (putI (decide ((l.length : Int) = size)) I l, putL (decide ((l.length : Int) = size)) l ++ [x]) := by
  unfold putB putI putL
  by_cases h : (l.length : Int) = size <;> simp [h]
theorem fold_snoc {size : Int} {s D : Vol} {xs : List Int} {i : Nat} (hi : i < xs.length) (h : (xs.take i).foldl (putB size) s = D) : (xs.take (i + 1)).foldl (putB size) s = putB size D xs[i] := by
  rw [← List.take_append_getElem hi, List.foldl_append, h]
  rfl
theorem fold_le {size : Int} : ∀ (xs : List Int) (s : Vol), ((xs.foldl (putB size) s).1.length ≤ s.1.length + xs.length) ∧ (xs.foldl (putB size) s).2.length ≤ s.2.length + xs.length
  | [], s => by simp
  | x :: xs, s => by
    have h1 := fold_le (size := size) xs (putB size s x)
    have h2 : (putB size s x).1.length ≤ s.1.length + 1 ∧ (putB size s x).2.length ≤ s.2.length + 1 := by
      unfold putB
      split <;> simp
    rw [List.foldl_cons, List.length_cons]
    omega
/-- The document's Record, on its way. -/
def rrI (nx : Bool) (ini : List (List Int)) (lst : List Int) (i : Nat) : List (List Int) := if i = 0 then ini else putI nx ini lst
def rrL (nx : Bool) (lst xs : List Int) (i : Nat) : List Int := if i = 0 then lst else putL nx lst ++ xs.take i
theorem rr_stepI {nx b : Bool} {ini : List (List Int)} {lst xs : List Int} {i : Nat} (hb : b = (decide (i = 0) && nx)) : putI b (rrI nx ini lst i) (rrL nx lst xs i) = rrI nx ini lst (i + 1) := by
  subst hb
  by_cases h : i = 0 <;> simp [h, rrI, rrL, putI]
theorem rr_stepL {nx b : Bool} {lst xs : List Int} {i : Nat} (hi : i < xs.length) (hb : b = (decide (i = 0) && nx)) : putL b (rrL nx lst xs i) ++ [xs[i]] = rrL nx lst xs (i + 1) := by
  subst hb
  by_cases h : i = 0
  · subst h
    cases xs with
    | nil => simp at hi
    | cons x xs => simp [rrL]
  · simp [h, rrL, putL]
theorem rr_endI {size : Int} {ini : List (List Int)} {lst xs : List Int} (hg : ¬ (xs.length = 0 ∨ (xs.length : Int) > size)) : rrI (decide (size - lst.length < xs.length)) ini lst xs.length = recI size ini lst xs := by
  have h0 : ¬ xs.length = 0 := fun e => hg (.inl e)
  rw [rrI, recI, if_neg h0, if_neg hg, putI, layI]
  simp
theorem rr_endL {size : Int} {lst xs : List Int} (hg : ¬ (xs.length = 0 ∨ (xs.length : Int) > size)) : rrL (decide (size - lst.length < xs.length)) lst xs xs.length = recL size lst xs := by
  have h0 : ¬ xs.length = 0 := fun e => hg (.inl e)
  rw [rrL, recL, if_neg h0, if_neg hg, putL, layL]
  by_cases h : size - (lst.length : Int) < xs.length <;> simp [h]
theorem rrI_len {nx : Bool} {ini : List (List Int)} {lst : List Int} {i : Nat} : (rrI nx ini lst i).length ≤ ini.length + 1 := by
  unfold rrI
  split
  · omega
  · exact putI_len
theorem rrL_len {nx : Bool} {lst xs : List Int} {i : Nat} : (rrL nx lst xs i).length ≤ lst.length + xs.length := by
  unfold rrL
  split
  · omega
  · have := putL_len (nx := nx) (lst := lst)
    simp
    omega
/-! steps: a kind and bytes, each -/
abbrev OpL := List (Int × List Int)
/-- What lies at A, in every world that has w0's blocks of F. -/
def FOps (F : Nat → Prop) (w0 : World) (A : Option Addr) (ops : OpL) : Prop := ∀ (j : Nat) (o : Int × List Int), ops[j]? = some o → ∃ a B c, A = some a ∧ o.2.length ≤ c ∧ FRd F w0 B (bys o.2) ∧ ∀ w : World, (∀ k, F k → w.heap[k]? = w0.heap[k]?) → ∀ (q : Nat) (v : Value), [Value.int .i64 o.1, .slice B o.2.length c][q]? = some v → w.cell? ((a.add (j * 2)).add q) = some v
theorem FOps.get {F : Nat → Prop} {w0 : World} {A : Option Addr} {ops : OpL} (h : FOps F w0 A ops) {j : Nat} (hj : j < ops.length) : ∃ a B c, A = some a ∧ ops[j].2.length ≤ c ∧ FRd F w0 B (bys ops[j].2) ∧ ∀ {L : List Asn} {w : World}, St w0 F L w → ∀ (q : Nat) (v : Value), [Value.int .i64 ops[j].1, .slice B ops[j].2.length c][q]? = some v → w.cell? ((a.add (j * 2)).add q) = some v := by
  obtain ⟨a, B, c, h1, h2, h3, h4⟩ := h j ops[j] (List.getElem?_eq_getElem hj)
  exact ⟨a, B, c, h1, h2, h3, fun hs q v hv => h4 _ hs.fix q v hv⟩
/-- Are they few, of few bytes each? -/
def fewB (ops : OpL) : Bool := decide (∀ o ∈ ops, o.2.length ≤ 60) && decide (ops.length ≤ 20)
theorem fewB_iff {ops : OpL} : fewB ops = true ↔ (∀ o ∈ ops, o.2.length ≤ 60) ∧ ops.length ≤ 20 := by
  simp [fewB]
end Go.Proofs.Ytbhjdbkdnandfaa.Sp
