/- What was written stands: volumes grow at their end alone. -/
import Derived.Test.YtbhjdbkdnandfaaSpp
namespace Go.Proofs.Ytbhjdbkdnandfaa.Sp
open Go
/-- The volumes s go on as t. -/
def Ext (s t : Vol) : Prop := ∀ (k : Nat) (r : List Int), (s.1 ++ [s.2])[k]? = some r → ∃ r', (t.1 ++ [t.2])[k]? = some (r ++ r')
theorem Ext.refl (s : Vol) : Ext s s := fun k r h => ⟨[], by simpa using h⟩
theorem Ext.trans {s t u : Vol} (h1 : Ext s t) (h2 : Ext t u) : Ext s u := fun k r h => by
  obtain ⟨r1, h3⟩ := h1 k r h
  obtain ⟨r2, h4⟩ := h2 k _ h3
  exact ⟨r1 ++ r2, by rw [h4, List.append_assoc]⟩
theorem Ext.snoc (ini : List (List Int)) (lst ys : List Int) : Ext (ini, lst) (ini ++ [lst], ys) := fun k r h => ⟨[], by
  have hlt := (List.getElem?_eq_some_iff.1 h).1
  rw [List.append_nil]
  dsimp only at h hlt ⊢
  rw [List.getElem?_append_left hlt]
  exact h⟩
theorem Ext.more (ini : List (List Int)) (lst ys : List Int) : Ext (ini, lst) (ini, lst ++ ys) := fun k r h => by
  dsimp only at h ⊢
  rcases Nat.lt_or_ge k ini.length with hk | hk
  · rw [List.getElem?_append_left hk] at h ⊢
    exact ⟨[], by simpa using h⟩
  · have hlt := (List.getElem?_eq_some_iff.1 h).1
    have : k = ini.length := by simp at hlt; omega
    subst this
    have : lst = r := by simpa using h
    subst this
    exact ⟨ys, by simp⟩
theorem Ext.lay {size : Int} {ini : List (List Int)} {lst xs : List Int} : Ext (ini, lst) (recI size ini lst xs, recL size lst xs) := by
  unfold recI recL
  split
  · exact Ext.refl _
  · unfold layI layL
    split
    · exact Ext.snoc _ _ _
    · exact Ext.more _ _ _
theorem Ext.put {size : Int} : ∀ {xs : List Int} {s : Vol}, Ext s (xs.foldl (putB size) s)
  | [], s => Ext.refl s
  | x :: xs, s => by
    refine Ext.trans (t := putB size s x) ?_ Ext.put
    unfold putB
    split
    · exact Ext.snoc _ _ _
    · exact Ext.more _ _ _
/-- One behind the other. -/
theorem flat_put {size : Int} : ∀ (xs : List Int) (s : Vol), ((xs.foldl (putB size) s).1 ++ [(xs.foldl (putB size) s).2]).flatten = (s.1 ++ [s.2]).flatten ++ xs
  | [], s => by simp
  | x :: xs, s => by
    rw [List.foldl_cons, flat_put xs (putB size s x)]
    unfold putB
    split <;> simp
theorem flat_lay {size : Int} {ini : List (List Int)} {lst xs : List Int} (hg : ¬ (xs.length = 0 ∨ (xs.length : Int) > size)) : (recI size ini lst xs ++ [recL size lst xs]).flatten = (ini ++ [lst]).flatten ++ xs := by
  rw [recI, recL, if_neg hg, if_neg hg, layI, layL]
  split <;> simp
/-- What was told: a record's volume, its place there, its bytes. -/
abbrev Told := List (Int × Int × List Int)
def TellsOne (s : Vol) (t : Int × Int × List Int) : Prop := 0 ≤ t.1 ∧ 0 ≤ t.2.1 ∧ ∃ r, (s.1 ++ [s.2])[t.1.toNat]? = some r ∧ t.2.1.toNat + t.2.2.length ≤ r.length ∧ (r.drop t.2.1.toNat).take t.2.2.length = t.2.2
def Tells (s : Vol) (tl : Told) : Prop := ∀ t ∈ tl, TellsOne s t
theorem TellsOne.ext {s u : Vol} {t : Int × Int × List Int} (he : Ext s u) (h : TellsOne s t) : TellsOne u t := by
  obtain ⟨h1, h2, r, h3, h4, h5⟩ := h
  obtain ⟨r', h6⟩ := he _ _ h3
  refine ⟨h1, h2, r ++ r', h6, by simp; omega, ?_⟩
  rw [List.drop_append_of_le_length (by omega), List.take_append_of_le_length (by rw [List.length_drop]; omega)]
  exact h5
theorem Tells.ext {s u : Vol} {tl : Told} (he : Ext s u) (h : Tells s tl) : Tells u tl := fun t ht => (h t ht).ext he
theorem Tells.snoc {s : Vol} {tl : Told} {t : Int × Int × List Int} (h : Tells s tl) (h1 : TellsOne s t) : Tells s (tl ++ [t]) := fun u hu => by
  rcases List.mem_append.1 hu with hu | hu
  · exact h u hu
  · have : u = t := by simpa using hu
    subst this
    exact h1
theorem tells_rec {size : Int} {ini : List (List Int)} {lst xs : List Int} (hg : ¬ (xs.length = 0 ∨ (xs.length : Int) > size)) : TellsOne (recI size ini lst xs, recL size lst xs) (recD size ini lst xs, recA size lst xs, xs) := by
  unfold TellsOne
  rw [recI, recL, recD, recA, if_neg hg, if_neg hg, if_neg hg, if_neg hg, layI, layL, placeD, placeA]
  by_cases h : size - (lst.length : Int) < xs.length
  · rw [if_pos h, if_pos h, if_pos h, if_pos h]
    refine ⟨by dsimp only; omega, Int.le_refl _, xs, ?_, by simp, by simp⟩
    have e : ((ini.length : Int) + 1).toNat = (ini ++ [lst]).length := by rw [List.length_append, List.length_singleton]; omega
    dsimp only
    rw [e]
    simp
  · rw [if_neg h, if_neg h, if_neg h, if_neg h]
    refine ⟨by dsimp only; omega, by dsimp only; omega, lst ++ xs, ?_, by simp, by simp⟩
    dsimp only
    rw [Int.toNat_natCast]
    simp
/-- The first volume holds the mark. -/
def Head4 (s : Vol) : Prop := ∃ r, (s.1 ++ [s.2])[0]? = some r ∧ 4 ≤ r.length
theorem Head4.ext {s u : Vol} (he : Ext s u) (h : Head4 s) : Head4 u := by
  obtain ⟨r, h1, h2⟩ := h
  obtain ⟨r', h3⟩ := he _ _ h1
  exact ⟨r ++ r', h3, by simp; omega⟩
/-- The records' slices. -/
def RecOk (F : Nat → Prop) (w0 : World) (rs : List Value) (tl : Told) : Prop := rs.length = tl.length ∧ ∀ (j : Nat) (t : Int × Int × List Int), tl[j]? = some t → ∃ B c, rs[j]? = some (Value.slice B t.2.2.length c) ∧ t.2.2.length ≤ c ∧ Go.Fw.FRd F w0 B (Go.Fw.bys t.2.2)
theorem RecOk.snoc {F : Nat → Prop} {w0 : World} {rs : List Value} {tl : Told} {d p : Int} {xs : List Int} {B : Option Addr} {c : Nat} (h : RecOk F w0 rs tl) (hc : xs.length ≤ c) (hr : Go.Fw.FRd F w0 B (Go.Fw.bys xs)) : RecOk F w0 (rs ++ [Value.slice B xs.length c]) (tl ++ [(d, p, xs)]) := by
  refine ⟨by simp [h.1], fun j t hj => ?_⟩
  rcases Nat.lt_or_ge j tl.length with hlt | hge
  · rw [List.getElem?_append_left hlt] at hj
    obtain ⟨B', c', h1, h2⟩ := h.2 j t hj
    exact ⟨B', c', by rw [List.getElem?_append_left (by rw [h.1]; exact hlt)]; exact h1, h2⟩
  · have hlt := (List.getElem?_eq_some_iff.1 hj).1
    have : j = tl.length := by simp at hlt; omega
    subst this
    have : (d, p, xs) = t := by simpa using hj
    subst this
    exact ⟨B, c, by rw [← h.1]; simp, hc, hr⟩
theorem d_sliceN {P : Program} {ρ : Operand → Value} {w : World} {D : Option Nat} {t : TypeId} {p : String} {af : Array Edge} {g : Option (Nat × Bool)} {x y z : Operand} {kd ky : IntKind} {xt : TypeId} {el N c pn n : Nat} {ad : Option Addr} {i j : Int} (h : Go.Fw.sliceOk P xt el 1 = true) (hx : ρ x = .slice ad N c) (hy : ρ y = .int kd i) (hz : ρ z = .int ky j) (hi : i = (pn : Int)) (hj : j = (pn : Int) + (n : Int)) (h2 : pn + n ≤ c) :
    Go.Fw.Does P ρ ⟨D, .slice xt x (some y) (some z) none, t, p, af, g⟩ w (.slice (if c = pn then ad else ad.map (·.add (pn * 1))) n (c - pn)) := by
  subst hi
  subst hj
  have h3 := Go.Fw.d_sliceB (w := w) (D := D) (t := t) (p := p) (af := af) (g := g) h hx hy hz (by omega) (by omega) (by omega)
  have e : ((pn : Int) + (n : Int)).toNat - pn = n := by omega
  rw [Int.toNat_natCast, e] at h3
  exact h3
theorem rd_mid {w : World} {A : Option Addr} {r xs : List Int} {pn c : Nat} (h : Go.Fw.Rd w A (Go.Fw.bys r)) (hc : r.length ≤ c) (he : (r.drop pn).take xs.length = xs) (hl : pn + xs.length ≤ r.length) : Go.Fw.Rd w (if c = pn then A else A.map (·.add (pn * 1))) (Go.Fw.bys xs) := by
  split
  · have : xs = [] := List.eq_nil_of_length_eq_zero (by omega)
    subst this
    exact .inl rfl
  · have h1 := (h.drop pn).take xs.length
    rw [Nat.mul_one]
    rw [Go.Fw.bys, ← Go.Fw.ints_drop, ← Go.Fw.ints_take, he] at h1
    exact h1
/-- The places' cells. -/
def pcells (tl : Told) : List Value := tl.flatMap fun t => [Value.int .i64 t.1, Value.int .i64 t.2.1]
theorem pcells_snoc (tl : Told) (d p : Int) (xs : List Int) : pcells (tl ++ [(d, p, xs)]) = pcells tl ++ [Value.int .i64 d, Value.int .i64 p] := by simp [pcells]
theorem pcells_get : ∀ (tl : Told) (j q : Nat) (hj : j < tl.length) (v : Value), [Value.int .i64 tl[j].1, Value.int .i64 tl[j].2.1][q]? = some v → (pcells tl)[j * 2 + q]? = some v
  | [], j, q, hj, v, h => by simp at hj
  | t :: tl, 0, q, hj, v, h => by
    match q, h with
    | 0, h => simpa [pcells] using h
    | 1, h => simpa [pcells] using h
  | t :: tl, j + 1, q, hj, v, h => by
    have ih := pcells_get tl j q (by simpa using hj) v (by simpa using h)
    have e : (j + 1) * 2 + q = (j * 2 + q) + 2 := by omega
    rw [e]
    simpa [pcells] using ih
/-- What is known on the way. -/
structure InvF (F : Nat → Prop) (w0 : World) (size : Int) (i : Nat) (ini : List (List Int)) (lst : List Int) (tl : Told) (rs : List Value) : Prop where
  w : InvW size i ini lst
  g : InvG size ini lst
  h4 : Head4 (ini, lst)
  t : Tells (ini, lst) tl
  r : RecOk F w0 rs tl
  n : tl.length ≤ i
  f : (ini ++ [lst]).flatten.length ≤ 4 + 60 * i
theorem InvF.put {F : Nat → Prop} {w0 : World} {size : Int} {i : Nat} {ini : List (List Int)} {lst xs : List Int} {tl : Told} {rs : List Value} (hs : 1 ≤ size) (h : InvF F w0 size i ini lst tl rs) (hx : xs.length ≤ 60) :
    InvF F w0 size (i + 1) (xs.foldl (putB size) (ini, lst)).1 (xs.foldl (putB size) (ini, lst)).2 tl rs := by
  have he : Ext (ini, lst) (xs.foldl (putB size) (ini, lst)) := Ext.put
  have hn := h.n
  have hf := h.f
  exact ⟨h.w.put hs hx, InvG.put hs (s := (ini, lst)) h.g, h.h4.ext he, h.t.ext he, h.r, by omega, by rw [flat_put, List.length_append]; dsimp only; omega⟩
theorem InvF.bad {F : Nat → Prop} {w0 : World} {size : Int} {i : Nat} {ini : List (List Int)} {lst : List Int} {tl : Told} {rs : List Value} (h : InvF F w0 size i ini lst tl rs) : InvF F w0 size (i + 1) ini lst tl rs := by
  have h1 := h.w.n
  have h2 := h.w.l
  have hn := h.n
  have hf := h.f
  exact ⟨⟨by omega, by omega, h.w.s, fun xs hx => by have := h.w.x xs hx; omega⟩, h.g, h.h4, h.t, h.r, by omega, by omega⟩
theorem InvF.lay {F : Nat → Prop} {w0 : World} {size : Int} {i : Nat} {ini : List (List Int)} {lst xs : List Int} {tl : Told} {rs : List Value} {B : Option Addr} {c : Nat} (h : InvF F w0 size i ini lst tl rs) (hx : xs.length ≤ 60) (hg : ¬ (xs.length = 0 ∨ (xs.length : Int) > size)) (hc : xs.length ≤ c) (hr : Go.Fw.FRd F w0 B (Go.Fw.bys xs)) :
    InvF F w0 size (i + 1) (recI size ini lst xs) (recL size lst xs) (tl ++ [(recD size ini lst xs, recA size lst xs, xs)]) (rs ++ [Value.slice B xs.length c]) := by
  have he : Ext (ini, lst) (recI size ini lst xs, recL size lst xs) := Ext.lay
  have hn := h.n
  have hf := h.f
  exact ⟨h.w.lay hx, h.g.lay, h.h4.ext he, (h.t.ext he).snoc (tells_rec hg), h.r.snoc hc hr, by simp; omega, by rw [flat_lay hg, List.length_append]; omega⟩
theorem InvF.zero {F : Nat → Prop} {w0 : World} {size : Int} (hs : 5 ≤ size) : InvF F w0 size 0 [] [80, 75, 7, 8] [] [] :=
  ⟨InvW.zero hs, InvG.zero hs, ⟨[80, 75, 7, 8], rfl, by decide⟩, (fun t ht => by cases ht), ⟨rfl, (fun j t hj => by simp at hj)⟩, by simp, by simp⟩
end Go.Proofs.Ytbhjdbkdnandfaa.Sp
