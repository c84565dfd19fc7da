/- Memory apart: assertions over blocks of their own (Asn), a list of them that share nothing (Sep), the state of a walk (St). -/
import Derived.Test.YtbhjdbkdnandfaaFw
import Derived.Maps.AppendAt
import Derived.Laws.AppendOwn
namespace Go.Fw
open Go Go.RowKit

/-- What holds of a world by the blocks S alone. -/
structure Asn where
  P : World → (Nat → Prop) → Prop
  loc : ∀ {w w' : World} {S : Nat → Prop}, P w S → (∀ k, S k → w'.heap[k]? = w.heap[k]?) → P w' S

/-- Each assertion has blocks of its own, none of F. -/
def Sep (w : World) : (Nat → Prop) → List Asn → Prop
  | _, [] => True
  | F, A :: L => ∃ S : Nat → Prop, (∀ k, S k → k < w.heap.size ∧ ¬ F k) ∧ A.P w S ∧ Sep w (fun k => F k ∨ S k) L

theorem Sep.step {w w' : World} (hs : w.heap.size ≤ w'.heap.size) : ∀ {L : List Asn} {G G' : Nat → Prop}, Sep w G L → (∀ k, k < w.heap.size → ¬ G k → w'.heap[k]? = w.heap[k]?) → (∀ k, k < w.heap.size → G' k → G k) → Sep w' G' L
  | [], _, _, _, _, _ => trivial
  | A :: L, G, G', ⟨S, hS, hA, hL⟩, hm, hg =>
    ⟨S, fun k hk => ⟨Nat.lt_of_lt_of_le (hS k hk).1 hs, fun h => (hS k hk).2 (hg k (hS k hk).1 h)⟩, A.loc hA (fun k hk => hm k (hS k hk).1 (hS k hk).2),
      Sep.step hs hL (fun k hk hn => hm k hk (fun h => hn (.inl h))) (fun k hk h => h.elim (fun h => .inl (hg k hk h)) .inr)⟩
theorem Sep.anti {w : World} {L : List Asn} {G G' : Nat → Prop} (h : Sep w G L) (hg : ∀ k, G' k → G k) : Sep w G' L := Sep.step (Nat.le_refl _) h (fun _ _ _ => rfl) (fun k _ => hg k)
theorem Sep.perm {w : World} {L L' : List Asn} (hp : L.Perm L') : ∀ {F : Nat → Prop}, Sep w F L → Sep w F L' := by
  induction hp with
  | nil => exact fun h => h
  | cons A _ ih => exact fun ⟨S, h1, h2, h3⟩ => ⟨S, h1, h2, ih h3⟩
  | swap A B L =>
    rintro F ⟨S, h1, h2, T, h3, h4, h5⟩
    refine ⟨T, fun k hk => ⟨(h3 k hk).1, fun h => (h3 k hk).2 (.inl h)⟩, h4, S, fun k hk => ⟨(h1 k hk).1, ?_⟩, h2, h5.anti ?_⟩
    · rintro (h | h)
      · exact (h1 k hk).2 h
      · exact (h3 k h).2 (.inr hk)
    · rintro k ((h | h) | h)
      · exact .inl (.inl h)
      · exact .inr h
      · exact .inl (.inr h)
  | trans _ _ ih1 ih2 => exact fun h => ih2 (ih1 h)
theorem perm_front {α : Type} : ∀ {L : List α} {i : Nat} {A : α}, L[i]? = some A → L.Perm (A :: L.eraseIdx i)
  | B :: L, 0, A, h => by
    have : B = A := by simpa using h
    subst this
    exact List.Perm.refl _
  | B :: L, i + 1, A, h => by
    have h1 := perm_front (L := L) (i := i) (A := A) (by simpa using h)
    exact (List.Perm.cons B h1).trans (List.Perm.swap A B _)
theorem perm_back {α : Type} {L : List α} {i : Nat} {A A' : α} (h : L[i]? = some A) : (A' :: L.eraseIdx i).Perm (L.set i A') := by
  have hl : i < L.length := (List.getElem?_eq_some_iff.1 h).1
  have h1 : (L.set i A')[i]? = some A' := by simp [hl]
  have h2 := perm_front h1
  rw [List.eraseIdx_set_eq] at h2
  exact h2.symm

/-- The world moves on: only blocks of S, and new ones, are turned. -/
structure Gr (w w' : World) (S : Nat → Prop) : Prop where
  os : w'.os = w.os
  tape : w'.tape = w.tape
  output : w'.output = w.output
  size : w.heap.size ≤ w'.heap.size
  block : ∀ k, k < w.heap.size → ¬ S k → w'.heap[k]? = w.heap[k]?
theorem Gr.of_below {w w' : World} (h : Below w.heap.size w w') (S : Nat → Prop) : Gr w w' S := ⟨h.os, h.tape, h.output, h.size, fun k hk _ => h.block k hk⟩
theorem Gr.below {w w' : World} (h : Gr w w' (fun _ => False)) : Below w.heap.size w w' := ⟨h.os, h.tape, h.output, h.size, fun k hk => h.block k hk (fun h => h)⟩
theorem Gr.of_grown {w w' : World} {r : Option Nat} (h : w.grownBy w' r) {S : Nat → Prop} (hr : ∀ k, r = some k → S k) : Gr w w' S := ⟨h.os, h.tape, h.output, h.size, fun k hk hn => h.block k hk (fun e => hn (hr k e.symm))⟩
theorem Gr.mono {w w' : World} {S S' : Nat → Prop} (h : Gr w w' S) (hs : ∀ k, S k → S' k) : Gr w w' S' := ⟨h.os, h.tape, h.output, h.size, fun k hk hn => h.block k hk (fun e => hn (hs k e))⟩
theorem Gr.store (w : World) (a : Addr) (v : Value) : Gr w (w.setCell a v) (fun k => k = a.block) := ⟨rfl, rfl, rfl, by simp, fun k _ hn => Below.heap_setCell w a v k hn⟩
theorem Gr.alloc (w : World) (o : Obj) (S : Nat → Prop) : Gr w (w.alloc o) S := ⟨rfl, rfl, rfl, by simp, fun k hk _ => Below.heap_alloc w o k hk⟩
theorem Gr.drew (w : World) (S : Nat → Prop) : Gr w w.drew S := ⟨rfl, rfl, rfl, Nat.le_refl _, fun _ _ _ => rfl⟩
theorem Gr.refl (w : World) (S : Nat → Prop) : Gr w w S := ⟨rfl, rfl, rfl, Nat.le_refl _, fun _ _ _ => rfl⟩
theorem Gr.trans {w w1 w2 : World} {S : Nat → Prop} (h : Gr w w1 S) (k : Gr w1 w2 S) : Gr w w2 S :=
  ⟨k.os.trans h.os, k.tape.trans h.tape, k.output.trans h.output, Nat.le_trans h.size k.size, fun i hi hn => (k.block i (Nat.lt_of_lt_of_le hi h.size) hn).trans (h.block i hi hn)⟩

/-- Where a walk stands: w0 began it, F is what no one writes, L what it owns. -/
structure St (w0 : World) (F : Nat → Prop) (L : List Asn) (w : World) : Prop where
  os : w.os = w0.os
  tape : w.tape = w0.tape
  output : w.output = w0.output
  size : w0.heap.size ≤ w.heap.size
  fix : ∀ k, F k → w.heap[k]? = w0.heap[k]?
  lt : ∀ k, F k → k < w0.heap.size
  sep : Sep w F L
section
variable {w0 w w' : World} {F : Nat → Prop} {L L' : List Asn} {A A' B C D : Asn} {S S' : Nat → Prop}
theorem St.start (w : World) : St w (fun k => k < w.heap.size) [] w := ⟨rfl, rfl, rfl, Nat.le_refl _, fun _ _ => rfl, fun _ h => h, trivial⟩
theorem St.below (h : St w0 (fun k => k < w0.heap.size) L w) : Below w0.heap.size w0 w := ⟨h.os, h.tape, h.output, h.size, h.fix⟩
theorem St.perm (h : St w0 F L w) (hp : L.Perm L') : St w0 F L' w := { h with sep := h.sep.perm hp }
theorem St.front {i : Nat} (h : St w0 F L w) (hi : L[i]? = some A) : St w0 F (A :: L.eraseIdx i) w := h.perm (perm_front hi)
theorem St.up1 (h : St w0 F (A :: B :: L) w) : St w0 F (B :: A :: L) w := h.perm (List.Perm.swap B A L)
theorem St.up2 (h : St w0 F (A :: B :: C :: L) w) : St w0 F (C :: A :: B :: L) w := h.front (i := 2) rfl
theorem St.up3 (h : St w0 F (A :: B :: C :: D :: L) w) : St w0 F (D :: A :: B :: C :: L) w := h.front (i := 3) rfl
theorem St.drop (h : St w0 F (A :: L) w) : St w0 F L w := { h with sep := by obtain ⟨S, _, _, h3⟩ := h.sep; exact h3.anti (fun k hk => .inl hk) }
theorem St.dropAt {i : Nat} (h : St w0 F L w) (hi : L[i]? = some A) : St w0 F (L.eraseIdx i) w := (h.front hi).drop
/-- What is owned holds. -/
theorem St.at {i : Nat} (h : St w0 F L w) (hi : L[i]? = some A) : ∃ S : Nat → Prop, (∀ k, S k → k < w.heap.size ∧ ¬ F k) ∧ A.P w S := by
  obtain ⟨S, h1, h2, _⟩ := (h.front hi).sep
  exact ⟨S, h1, h2⟩
theorem St.same (h : St w0 F L w) {k : Nat} (hk : F k) : w.heap[k]? = w0.heap[k]? := h.fix k hk
/-- A step that turns nothing that stands. -/
theorem St.keep (h : St w0 F L w) (hb : Below w.heap.size w w') : St w0 F L w' :=
  ⟨hb.os.trans h.os, hb.tape.trans h.tape, hb.output.trans h.output, Nat.le_trans h.size hb.size, fun k hk => (hb.block k (Nat.lt_of_lt_of_le (h.lt k hk) h.size)).trans (h.fix k hk), h.lt,
    h.sep.step hb.size (fun k hk _ => hb.block k hk) (fun _ _ h => h)⟩
/-- A step that makes something new besides. -/
theorem St.new (h : St w0 F L w) (hb : Below w.heap.size w w') (hA : A.P w' S) (hS : ∀ k, S k → w.heap.size ≤ k ∧ k < w'.heap.size) : St w0 F (A :: L) w' := by
  have h1 := h.keep hb
  refine { h1 with sep := ⟨S, fun k hk => ⟨(hS k hk).2, fun hF => ?_⟩, hA, ?_⟩ }
  · have := h.lt k hF
    have := h.size
    have := (hS k hk).1
    omega
  · refine Sep.step (w := w) hb.size h.sep (fun k hk _ => hb.block k hk) (fun k hk h => ?_)
    rcases h with h | h
    · exact h
    · have := (hS k h).1
      omega
/-- A step that turns what one assertion owns. -/
theorem St.turn (h : St w0 F (A :: L) w)
    (hstep : ∀ S : Nat → Prop, (∀ k, S k → k < w.heap.size ∧ ¬ F k) → A.P w S → ∃ S' : Nat → Prop, Gr w w' S ∧ A'.P w' S' ∧ ∀ k, S' k → (S k ∨ w.heap.size ≤ k) ∧ k < w'.heap.size) : St w0 F (A' :: L) w' := by
  obtain ⟨S, h1, h2, h3⟩ := h.sep
  obtain ⟨S', hg, hA, hS⟩ := hstep S h1 h2
  have hF : ∀ k, F k → k < w.heap.size := fun k hk => Nat.lt_of_lt_of_le (h.lt k hk) h.size
  refine ⟨hg.os.trans h.os, hg.tape.trans h.tape, hg.output.trans h.output, Nat.le_trans h.size hg.size, fun k hk => (hg.block k (hF k hk) (fun hs => (h1 k hs).2 hk)).trans (h.fix k hk), h.lt, S', fun k hk => ⟨(hS k hk).2, fun hf => ?_⟩, hA, ?_⟩
  · rcases (hS k hk).1 with h4 | h4
    · exact (h1 k h4).2 hf
    · have := hF k hf
      omega
  · refine Sep.step (w := w) hg.size h3 (fun k hk hn => hg.block k hk (fun hs => hn (.inr hs))) (fun k hk h => ?_)
    rcases h with h | h
    · exact .inl h
    · rcases (hS k h).1 with h4 | h4
      · exact .inr h4
      · omega
theorem St.turnAt {i : Nat} (h : St w0 F L w) (hi : L[i]? = some A)
    (hstep : ∀ S : Nat → Prop, (∀ k, S k → k < w.heap.size ∧ ¬ F k) → A.P w S → ∃ S' : Nat → Prop, Gr w w' S ∧ A'.P w' S' ∧ ∀ k, S' k → (S k ∨ w.heap.size ≤ k) ∧ k < w'.heap.size) : St w0 F (L.set i A') w' :=
  ((h.front hi).turn hstep).perm (perm_back hi)
/-- Told otherwise, in the same world, by the same blocks (or fewer). -/
theorem St.imp {i : Nat} (h : St w0 F L w) (hi : L[i]? = some A) (hstep : ∀ S : Nat → Prop, A.P w S → A'.P w S) : St w0 F (L.set i A') w :=
  h.turnAt hi (fun S h1 h2 => ⟨S, Gr.refl w S, hstep S h2, fun k hk => ⟨.inl hk, (h1 k hk).1⟩⟩)
end

/-- A slice at the head of a block (or nil), n elements of sz cells; none of its cells is marked. -/
def ownG (w : World) (e : TypeId) (sz : Nat) (v : Value) (n : Nat) (cs : List Value) : Prop :=
  cs.length = n * sz ∧ ((v = .slice none 0 0 ∧ n = 0) ∨ ∃ g cap cur fr, v = .slice (some ⟨g, 0, none⟩) n cap ∧ w.heap[g]? = some (.cells cur e fr) ∧ (∀ j, j < cur.size → (decide (fr.1 ≤ j) && decide (j < fr.2)) = false) ∧ n ≤ cap ∧ cap ≤ maxLen ∧ cur.size = cap * sz ∧ cur.toList.take (n * sz) = cs)
/-! ### Assertions -/
namespace Asn
/-- Two that share nothing. -/
def star (A B : Asn) : Asn where
  P := fun w S => ∃ S1 S2 : Nat → Prop, (∀ k, S1 k → S k) ∧ (∀ k, S2 k → S k ∧ ¬ S1 k) ∧ A.P w S1 ∧ B.P w S2
  loc := by
    rintro w w' S ⟨S1, S2, h1, h2, h3, h4⟩ hm
    exact ⟨S1, S2, h1, h2, A.loc h3 (fun k hk => hm k (h1 k hk)), B.loc h4 (fun k hk => hm k (h2 k hk).1)⟩
def ex {α : Type} (f : α → Asn) : Asn where
  P := fun w S => ∃ x, (f x).P w S
  loc := by
    rintro w w' S ⟨x, h⟩ hm
    exact ⟨x, (f x).loc h hm⟩
def pur (p : Prop) (A : Asn) : Asn where
  P := fun w S => p ∧ A.P w S
  loc := fun h hm => ⟨h.1, A.loc h.2 hm⟩
def emp : Asn where
  P := fun _ _ => True
  loc := fun _ _ => trivial
/-- A list of them, as one. -/
def stars : List Asn → Asn
  | [] => emp
  | A :: L => star A (stars L)
/-- A block of cells of its own. -/
def blk (g : Nat) (t : TypeId) (cs : List Value) : Asn where
  P := fun w S => w.heap[g]? = some (.cells cs.toArray t (0, 0)) ∧ S g
  loc := fun h hm => ⟨(hm _ h.2).trans h.1, h.2⟩
/-- A row of its own. -/
def row (e : TypeId) (sz : Nat) (v : Value) (n : Nat) (cs : List Value) : Asn where
  P := fun w S => ownG w e sz v n cs ∧ ∀ k, v.ownBlock = some k → S k
  loc := by
    rintro w w' S ⟨⟨h1, h2⟩, h3⟩ hm
    refine ⟨⟨h1, ?_⟩, h3⟩
    rcases h2 with h2 | ⟨g, cap, cur, fr, rfl, h4, h5⟩
    · exact .inl h2
    · exact .inr ⟨g, cap, cur, fr, rfl, (hm g (h3 g rfl)).trans h4, h5⟩
end Asn
open Asn
section
variable {w0 w w' : World} {F : Nat → Prop} {L L1 L' : List Asn} {A A' B C D : Asn} {S S' : Nat → Prop}
theorem St.split (h : St w0 F (star A B :: L) w) : St w0 F (A :: B :: L) w := by
  obtain ⟨S, h1, ⟨S1, S2, h2, h3, h4, h5⟩, h6⟩ := h.sep
  refine { h with sep := ⟨S1, fun k hk => h1 k (h2 k hk), h4, S2, fun k hk => ⟨(h1 k (h3 k hk).1).1, ?_⟩, h5, h6.anti ?_⟩ }
  · rintro (hF | hS)
    · exact (h1 k (h3 k hk).1).2 hF
    · exact (h3 k hk).2 hS
  · rintro k ((hF | hS) | hS)
    · exact .inl hF
    · exact .inr (h2 k hS)
    · exact .inr (h3 k hS).1
theorem St.join (h : St w0 F (A :: B :: L) w) : St w0 F (star A B :: L) w := by
  obtain ⟨S1, h1, h2, S2, h3, h4, h5⟩ := h.sep
  refine { h with sep := ⟨fun k => S1 k ∨ S2 k, ?_, ⟨S1, S2, fun k hk => .inl hk, fun k hk => ⟨.inr hk, fun hn => (h3 k hk).2 (.inr hn)⟩, h2, h4⟩, h5.anti ?_⟩ }
  · rintro k (hk | hk)
    · exact h1 k hk
    · exact ⟨(h3 k hk).1, fun hF => (h3 k hk).2 (.inl hF)⟩
  · rintro k (hF | hS | hS)
    · exact .inl (.inl hF)
    · exact .inl (.inr hS)
    · exact .inr hS
theorem St.push_emp (h : St w0 F L w) : St w0 F (emp :: L) w := { h with sep := ⟨fun _ => False, fun _ hk => hk.elim, trivial, h.sep.anti (fun k hk => hk.elim (fun h => h) False.elim)⟩ }
theorem St.push_nil (e sz : Nat) (h : St w0 F L w) : St w0 F (row e sz (.slice none 0 0) 0 [] :: L) w :=
  { h with sep := ⟨fun _ => False, fun _ hk => hk.elim, ⟨⟨by simp, .inl ⟨rfl, rfl⟩⟩, fun k hk => by simp [Value.ownBlock] at hk⟩, h.sep.anti (fun k hk => hk.elim (fun h => h) False.elim)⟩ }
theorem St.unstars : ∀ {L1 L : List Asn}, St w0 F (stars L1 :: L) w → St w0 F (L1 ++ L) w
  | [], _, h => h.drop
  | A :: L1, L, h => by
    have h1 := (St.split h).up1
    have h2 := St.unstars (L1 := L1) (L := A :: L) (h1.up1.perm (List.Perm.swap _ _ _))
    exact h2.perm List.perm_middle
theorem St.stars : ∀ {L1 L : List Asn}, St w0 F (L1 ++ L) w → St w0 F (Asn.stars L1 :: L) w
  | [], _, h => h.push_emp
  | A :: L1, L, h => by
    have h1 : St w0 F (L1 ++ (A :: L)) w := h.perm List.perm_middle.symm
    have h2 := St.stars (L1 := L1) (L := A :: L) h1
    exact h2.up1.join
theorem St.unex {α : Type} {f : α → Asn} (h : St w0 F (ex f :: L) w) : ∃ x, St w0 F (f x :: L) w := by
  obtain ⟨S, h1, ⟨x, h2⟩, h3⟩ := h.sep
  exact ⟨x, { h with sep := ⟨S, h1, h2, h3⟩ }⟩
theorem St.ex {α : Type} {f : α → Asn} (x : α) (h : St w0 F (f x :: L) w) : St w0 F (Asn.ex f :: L) w := by
  obtain ⟨S, h1, h2, h3⟩ := h.sep
  exact { h with sep := ⟨S, h1, ⟨x, h2⟩, h3⟩ }
theorem St.unpur {p : Prop} (h : St w0 F (pur p A :: L) w) : p ∧ St w0 F (A :: L) w := by
  obtain ⟨S, h1, h2, h3⟩ := h.sep
  exact ⟨h2.1, { h with sep := ⟨S, h1, h2.2, h3⟩ }⟩
theorem St.pur {p : Prop} (hp : p) (h : St w0 F (A :: L) w) : St w0 F (Asn.pur p A :: L) w := by
  obtain ⟨S, h1, h2, h3⟩ := h.sep
  exact { h with sep := ⟨S, h1, ⟨hp, h2⟩, h3⟩ }
/-- The same list, told otherwise. -/
theorem St.as (h : St w0 F L w) (e : L = L') : St w0 F L' w := e ▸ h

variable {i g : Nat} {t e : TypeId} {sz n cap : Nat} {cs : List Value} {v : Value}
theorem St.blkAt (h : St w0 F L w) (hi : L[i]? = some (blk g t cs)) : w.heap[g]? = some (.cells cs.toArray t (0, 0)) := by
  obtain ⟨S, _, h2, _⟩ := h.at hi
  exact h2
/-- A cell of an owned block. -/
theorem St.cell {j : Nat} {u : Value} (h : St w0 F L w) (hi : L[i]? = some (blk g t cs)) (hu : cs[j]? = some u) : w.cell? ⟨g, j, none⟩ = some u := by
  simp [World.cell?, h.blkAt hi, hu]
theorem St.cells (h : St w0 F L w) (hi : L[i]? = some (blk g t cs)) (o : Nat) {vs : List Value} (hv : (cs.drop o).take vs.length = vs) : ∀ j u, vs[j]? = some u → w.cell? ((⟨g, o, none⟩ : Addr).add j) = some u := by
  intro j u hj
  have hadd : (⟨g, o, none⟩ : Addr).add j = ⟨g, o + j, none⟩ := by unfold Addr.add; split <;> simp_all
  rw [hadd]
  refine h.cell hi ?_
  rw [← hv, List.getElem?_take] at hj
  split at hj
  · rw [List.getElem?_drop] at hj
    exact hj
  · cases hj
theorem St.rowAt (h : St w0 F L w) (hi : L[i]? = some (row e sz v n cs)) : ownG w e sz v n cs := by
  obtain ⟨S, _, h2, _⟩ := h.at hi
  exact h2
theorem ownG.slice (h : ownG w e sz v n cs) : ∃ A c, v = .slice A n c ∧ n ≤ c ∧ c ≤ maxLen := by
  rcases h.2 with ⟨rfl, rfl⟩ | ⟨g, cap, cur, fr, rfl, _, _, h3, h4, _⟩
  · exact ⟨none, 0, rfl, Nat.le_refl _, Nat.zero_le _⟩
  · exact ⟨_, cap, rfl, h3, h4⟩
theorem ownG.len (h : ownG w e sz v n cs) : cs.length = n * sz := h.1
theorem ownG.form (h : ownG w e sz v n cs) (hn : 0 < n) : ∃ g cap, v = .slice (some ⟨g, 0, none⟩) n cap := by
  rcases h.2 with ⟨rfl, rfl⟩ | ⟨g, cap, cur, fr, rfl, _⟩
  · omega
  · exact ⟨g, cap, rfl⟩
theorem ownG.cells {a : Addr} {n' c : Nat} (h : ownG w e sz (.slice (some a) n' c) n cs) : ∀ j u, cs[j]? = some u → w.cell? (a.add j) = some u := by
  intro j u hj
  rcases h.2 with ⟨h1, _⟩ | ⟨g, cap, cur, fr, h1, h2, _, _, _, _, h6⟩
  · cases h1
  · injection h1 with h1 _ _
    injection h1 with h1
    subst h1
    have hadd : (⟨g, 0, none⟩ : Addr).add j = ⟨g, j, none⟩ := by unfold Addr.add; split <;> simp_all
    rw [hadd]
    rw [← h6, List.getElem?_take] at hj
    split at hj
    · simpa [World.cell?, h2] using hj
    · cases hj
theorem ownG.cell {g j c : Nat} {u : Value} (h : ownG w e sz (.slice (some ⟨g, 0, none⟩) n c) n cs) (hj : cs[j]? = some u) : w.cell? ⟨g, j, none⟩ = some u := by
  have := h.cells j u hj
  have hadd : (⟨g, 0, none⟩ : Addr).add j = ⟨g, j, none⟩ := by unfold Addr.add; split <;> simp_all
  rwa [hadd] at this
theorem St.rowCells {a : Addr} {n' c : Nat} (h : St w0 F L w) (hi : L[i]? = some (row e sz (.slice (some a) n' c) n cs)) : ∀ j u, cs[j]? = some u → w.cell? (a.add j) = some u := (h.rowAt hi).cells

/-! stores -/
theorem run_storeG (P : Program) (g o : Nat) (t : TypeId) (fr : Nat × Nat) : ∀ (vs : List Value) (i : Nat) (cur : Array Value) (w : World), w.heap[g]? = some (.cells cur t fr) → (∀ j, j < cur.size → (decide (fr.1 ≤ j) && decide (j < fr.2)) = false) → o + i + vs.length ≤ cur.size → (∀ v ∈ vs, v.oneCell' = true) →
    (storeCells ⟨g, o, none⟩ vs i).run P w = .ok () (w.setRow g (cur.toList.take (o + i) ++ vs ++ cur.toList.drop (o + i + vs.length)).toArray)
  | [], i, cur, w, hg, _, _, _ => by
    simp only [storeCells, List.append_nil, List.length_nil, Nat.add_zero, List.take_append_drop, Array.toArray_toList]
    rw [setRow_self w g cur t fr hg]
    rfl
  | v :: rest, i, cur, w, hg, hf, hl, h1 => by
    have hi : o + i < cur.size := by simp at hl; omega
    have hadd : (⟨g, o, none⟩ : Addr).add i = ⟨g, o + i, none⟩ := by unfold Addr.add; split <;> simp_all
    have hcell : w.cell? ⟨g, o + i, none⟩ = some cur[o + i] := by simp [World.cell?, hg, hi]
    have hfro : w.frozen? ⟨g, o + i, none⟩ = false := by
      obtain ⟨lo, hi'⟩ := fr
      simpa [World.frozen?, hg] using hf (o + i) hi
    have hst : (store ((⟨g, o, none⟩ : Addr).add i) v).run P w = .ok () (w.setRow g (cur.setIfInBounds (o + i) v)) := by
      rw [hadd, run_store P w _ v _ (h1 v (by simp)), hcell]
      simp [hfro, setCell_eq_setRow w g (o + i) cur t fr v hg]
    have ih := run_storeG P g o t fr rest (i + 1) (cur.setIfInBounds (o + i) v) (w.setRow g (cur.setIfInBounds (o + i) v)) (setRow_heap w g cur _ t _ hg) (by simpa using hf) (by simp at hl ⊢; omega) (fun x hx => h1 x (by simp [hx]))
    simp only [storeCells, Sem.run_bind, hst, Result.andThen_ok, ih, setRow_setRow]
    congr 3
    have e := list_seg_step cur.toList (o + i) v rest (by simp at hl ⊢; omega)
    simpa [Array.toList_setIfInBounds, Nat.add_assoc] using e
theorem Gr.setRow (w : World) (g : Nat) (cs : Array Value) : Gr w (w.setRow g cs) (fun k => k = g) := ⟨rfl, rfl, rfl, by simp [World.setRow], fun k _ hn => setRow_other w g k cs hn⟩
/-- What lies at A, cell by cell. -/
def Rd (w : World) (A : Option Addr) (vs : List Value) : Prop := vs = [] ∨ ∃ a, A = some a ∧ ∀ j u, vs[j]? = some u → w.cell? (a.add j) = some u
/-- The same, in every world that has w0's blocks of F. -/
def FRd (F : Nat → Prop) (w0 : World) (A : Option Addr) (vs : List Value) : Prop := ∀ w : World, (∀ k, F k → w.heap[k]? = w0.heap[k]?) → Rd w A vs
theorem FRd.at {A : Option Addr} {vs : List Value} (hr : FRd F w0 A vs) (h : St w0 F L w) : Rd w A vs := hr w h.fix
theorem Rd.nil (w : World) (A : Option Addr) : Rd w A [] := .inl rfl
theorem Addr.add_add (a : Addr) (i j : Nat) : (a.add i).add j = a.add (i + j) := by
  unfold Addr.add
  by_cases hi : i = 0
  · subst hi
    simp
  · by_cases hj : j = 0
    · subst hj
      simp [hi]
    · simp [hi, hj, Nat.add_assoc]
theorem Rd.drop {A : Option Addr} {vs : List Value} (h : Rd w A vs) (i : Nat) : Rd w (A.map (·.add i)) (vs.drop i) := by
  rcases h with rfl | ⟨a, rfl, h⟩
  · exact .inl (by simp)
  · refine .inr ⟨a.add i, rfl, fun j u hj => ?_⟩
    rw [Addr.add_add]
    exact h (i + j) u (by simpa [List.getElem?_drop] using hj)
theorem Rd.take {A : Option Addr} {vs : List Value} (h : Rd w A vs) (i : Nat) : Rd w A (vs.take i) := by
  rcases h with rfl | ⟨a, rfl, h⟩
  · exact .inl (by simp)
  · refine .inr ⟨a, rfl, fun j u hj => h j u ?_⟩
    rw [List.getElem?_take] at hj
    split at hj
    · exact hj
    · cases hj
theorem FRd.drop {A : Option Addr} {vs : List Value} (h : FRd F w0 A vs) (i : Nat) : FRd F w0 (A.map (·.add i)) (vs.drop i) := fun w hw => (h w hw).drop i
theorem FRd.take {A : Option Addr} {vs : List Value} (h : FRd F w0 A vs) (i : Nat) : FRd F w0 A (vs.take i) := fun w hw => (h w hw).take i
theorem FRd.nil (F : Nat → Prop) (w0 : World) (A : Option Addr) : FRd F w0 A [] := fun w _ => Rd.nil w A
theorem ownG.rd {A : Option Addr} {n' c : Nat} (h : ownG w e sz (.slice A n' c) n cs) : Rd w A cs := by
  cases A with
  | none =>
    rcases h.2 with ⟨_, h2⟩ | ⟨g, cap, cur, fr, h1, _⟩
    · exact .inl (List.eq_nil_of_length_eq_zero (by rw [h.1, h2, Nat.zero_mul]))
    · injection h1 with h1 _ _
      cases h1
  | some a => exact .inr ⟨a, rfl, h.cells⟩
/-- What is owned is owned no more: it is to be read from now on. -/
theorem St.freeze (h : St w0 F (A :: L) w) : ∃ S : Nat → Prop, A.P w S ∧ St w (fun k => F k ∨ S k) L w ∧ ∀ k, F k → w.heap[k]? = w0.heap[k]? := by
  obtain ⟨S, h1, h2, h3⟩ := h.sep
  refine ⟨S, h2, ⟨rfl, rfl, rfl, Nat.le_refl _, fun _ _ => rfl, fun k hk => ?_, h3⟩, h.fix⟩
  rcases hk with hk | hk
  · exact Nat.lt_of_lt_of_le (h.lt k hk) h.size
  · exact (h1 k hk).1
end
end Go.Fw
