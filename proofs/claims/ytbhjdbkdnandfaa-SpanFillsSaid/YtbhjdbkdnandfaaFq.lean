/- Rows of bytes that are read only, and share. -/
import Derived.Test.YtbhjdbkdnandfaaFr
namespace Go.Fw
open Go Go.RowKit Asn
/-! rows of bytes that are read only, and share -/
def roIn (S : Nat → Prop) (w : World) (vs : List Value) (rows : List (List Int)) : Prop := vs.length = rows.length ∧ ∀ (j : Nat) (xs : List Int), rows[j]? = some xs → ∃ A' c, vs[j]? = some (Value.slice A' xs.length c) ∧ xs.length ≤ c ∧ FRd S w A' (bys xs)
theorem FRd.of_same {S S' : Nat → Prop} {w w' : World} {A : Option Addr} {vs : List Value} (h : FRd S w A vs) (hs : ∀ k, S k → w'.heap[k]? = w.heap[k]?) (hS : ∀ k, S k → S' k) : FRd S' w' A vs := fun w2 h2 => h w2 (fun k hk => (h2 k (hS k hk)).trans (hs k hk))
theorem FRd.now {S : Nat → Prop} {w : World} {A : Option Addr} {vs : List Value} (h : FRd S w A vs) : Rd w A vs := h w (fun _ _ => rfl)
theorem roIn.of_same {S S' : Nat → Prop} {w w' : World} {vs : List Value} {rows : List (List Int)} (h : roIn S w vs rows) (hs : ∀ k, S k → w'.heap[k]? = w.heap[k]?) (hS : ∀ k, S k → S' k) : roIn S' w' vs rows :=
  ⟨h.1, fun j xs hj => by obtain ⟨A', c, h1, h2, h3⟩ := h.2 j xs hj; exact ⟨A', c, h1, h2, FRd.of_same h3 hs hS⟩⟩
def roV (vs : List Value) (rows : List (List Int)) : Asn where
  P := fun w S => roIn S w vs rows
  loc := fun h hs => h.of_same hs (fun _ h => h)
def roA (A : Option Addr) (rows : List (List Int)) : Asn where
  P := fun w S => ∃ vs, FRd S w A vs ∧ roIn S w vs rows
  loc := by
    rintro w w' S ⟨vs, h1, h2⟩ hs
    exact ⟨vs, FRd.of_same h1 hs (fun _ h => h), h2.of_same hs (fun _ h => h)⟩
section
variable {w0 w : World} {F : Nat → Prop} {L : List Asn} {A : Option Addr} {n c : Nat} {v u : Value} {vs : List Value} {rows : List (List Int)} {xs : List Int} {E : Nat}
theorem roIn.rd {S : Nat → Prop} (h : roIn S w vs rows) (hA : Rd w A vs) : RowsRd w A rows := by
  intro j xs hj
  obtain ⟨A', c, h1, h2, h3⟩ := h.2 j xs hj
  obtain ⟨a, rfl⟩ := hA.addr (by have := (List.getElem?_eq_some_iff.1 h1).1; omega)
  exact ⟨a, A', c, rfl, hA.cell h1, h2, h3.now⟩
theorem ro_rd {i : Nat} (h : St w0 F L w) (hi : L[i]? = some (roA A rows)) : RowsRd w A rows := by
  obtain ⟨S, _, vs, h1, h2⟩ := h.at hi
  exact h2.rd h1.now
/-- Two lumps in one. -/
theorem St.merge {B C D : Asn} (h : St w0 F (B :: C :: L) w) (hm : ∀ S1 S2 : Nat → Prop, B.P w S1 → C.P w S2 → D.P w (fun k => S1 k ∨ S2 k)) : St w0 F (D :: L) w := by
  obtain ⟨S1, h1, h2, S2, h3, h4, h5⟩ := h.sep
  refine { h with sep := ⟨fun k => S1 k ∨ S2 k, ?_, hm S1 S2 h2 h4, h5.anti ?_⟩ }
  · rintro k (hk | hk)
    · exact h1 k hk
    · exact ⟨(h3 k hk).1, fun hF => (h3 k hk).2 (.inl hF)⟩
  · rintro k (hF | hS | hS)
    · exact .inl (.inl hF)
    · exact .inl (.inr hS)
    · exact .inr hS
theorem row_frd {S : Nat → Prop} {cs : List Value} {e sz n' : Nat} (h : (row e sz (.slice A n' c) n cs).P w S) : FRd S w A cs := fun w2 h2 => by
  have h3 := (row e sz (.slice A n' c) n cs).loc h h2
  exact h3.1.rd
theorem frd_or {S : Nat → Prop} {cs : List Value} (h : FRd S w A cs) : FRd (fun k => F k ∨ S k) w A cs := FRd.of_same h (fun _ _ => rfl) (fun _ h => .inr h)
/-- Lent for a while: what is done beside it leaves it as it is. -/
theorem St.borrow {B : Asn} (h : St w0 F (B :: L) w) : ∃ S : Nat → Prop, B.P w S ∧ St w (fun k => F k ∨ S k) L w ∧ ∀ L' w', St w (fun k => F k ∨ S k) L' w' → St w0 F (B :: L') w' := by
  obtain ⟨S, h2, h3, h4⟩ := h.freeze
  obtain ⟨S1, k1, k2, k3⟩ := h.sep
  refine ⟨S1, k2, ⟨rfl, rfl, rfl, Nat.le_refl _, fun _ _ => rfl, fun k hk => ?_, k3⟩, fun L' w' h' => ⟨h'.os.trans h.os, h'.tape.trans h.tape, h'.output.trans h.output, Nat.le_trans h.size h'.size, fun k hk => (h'.fix k (.inl hk)).trans (h.fix k hk), h.lt, S1, fun k hk => ⟨Nat.lt_of_lt_of_le (k1 k hk).1 h'.size, (k1 k hk).2⟩, B.loc k2 (fun k hk => h'.fix k (.inr hk)), h'.sep⟩⟩
  rcases hk with hk | hk
  · exact Nat.lt_of_lt_of_le (h.lt k hk) h.size
  · exact (k1 k hk).1
theorem roV_snoc {e n' : Nat} (hn : xs.length ≤ n') (h : St w0 F (roV vs rows :: row e 1 (.slice A xs.length n') xs.length (bys xs) :: L) w) : St w0 F (roV (vs ++ [Value.slice A xs.length n']) (rows ++ [xs]) :: L) w :=
  h.merge (fun S1 S2 hB hC => by
    have hB' : roIn S1 w vs rows := hB
    refine ⟨by simp [hB'.1], fun j ys hj => ?_⟩
    rcases Nat.lt_or_ge j rows.length with hlt | hge
    · rw [List.getElem?_append_left hlt] at hj
      obtain ⟨A', c, h1, h2, h3⟩ := hB'.2 j ys hj
      exact ⟨A', c, by rw [List.getElem?_append_left (by rw [hB'.1]; exact hlt)]; exact h1, h2, FRd.of_same h3 (fun _ _ => rfl) (fun _ h => .inl h)⟩
    · have hj0 : j = rows.length := by
        have := (List.getElem?_eq_some_iff.1 hj).1
        simp at this
        omega
      subst hj0
      have : ys = xs := by simpa using hj.symm
      subst this
      exact ⟨A, n', by rw [← hB'.1]; simp, hn, FRd.of_same (row_frd hC) (fun _ _ => rfl) (fun _ h => .inr h)⟩)
theorem roV_init {vi : List Value} {ini : List (List Int)} (hl : vi.length = ini.length) (h : St w0 F (roV (vi ++ [u]) (ini ++ [xs]) :: L) w) : St w0 F (roV vi ini :: L) w :=
  (h.imp (A' := roV vi ini) (i := 0) rfl (fun S hS => by
    have hS' : roIn S w (vi ++ [u]) (ini ++ [xs]) := hS
    refine ⟨hl, fun j ys hj => ?_⟩
    have hlt : j < ini.length := (List.getElem?_eq_some_iff.1 hj).1
    obtain ⟨A', c, h1, h2, h3⟩ := hS'.2 j ys (by rw [List.getElem?_append_left hlt]; exact hj)
    rw [List.getElem?_append_left (by omega)] at h1
    exact ⟨A', c, h1, h2, h3⟩))
theorem roV_last {vi : List Value} {ini : List (List Int)} (hl : vi.length = ini.length) {i : Nat} (h : St w0 F L w) (hi : L[i]? = some (roV (vi ++ [u]) (ini ++ [xs]))) : ∃ A' c, u = .slice A' xs.length c ∧ xs.length ≤ c ∧ Rd w A' (bys xs) := by
  obtain ⟨S, _, h1⟩ := h.at hi
  have h1' : roIn S w (vi ++ [u]) (ini ++ [xs]) := h1
  obtain ⟨A', c, h2, h3, h4⟩ := h1'.2 ini.length xs (by simp)
  rw [← hl] at h2
  exact ⟨A', c, by simpa using h2, h3, h4.now⟩
theorem roV_len {i : Nat} (h : St w0 F L w) (hi : L[i]? = some (roV vs rows)) : vs.length = rows.length := by
  obtain ⟨S, _, h1⟩ := h.at hi
  exact h1.1
theorem roV_one {i : Nat} (h : St w0 F L w) (hi : L[i]? = some (roV vs rows)) : ∀ u ∈ vs, u.oneCell' = true := by
  obtain ⟨S, _, h1⟩ := h.at hi
  intro u hu
  obtain ⟨j, hj, rfl⟩ := List.getElem_of_mem hu
  obtain ⟨A', c, h2, _⟩ := h1.2 j (rows[j]'(by have := h1.1; omega)) (List.getElem?_eq_getElem _)
  rw [List.getElem?_eq_getElem hj] at h2
  injection h2 with h2
  rw [h2]
  rfl
theorem ro_open (h : St w0 F (roA A rows :: L) w) : ∃ vs, vs.length = rows.length ∧ Rd w A vs ∧ St w0 F (roV vs rows :: L) w := by
  obtain ⟨S, h1, ⟨vs, h2, h3⟩, h4⟩ := h.sep
  exact ⟨vs, h3.1, h2.now, { h with sep := ⟨S, h1, h3, h4⟩ }⟩
theorem ro_close {n' : Nat} (h : St w0 F (row E 1 (.slice A n c) n' vs :: roV vs rows :: L) w) : St w0 F (roA A rows :: L) w :=
  h.merge (fun S1 S2 hB hC => ⟨vs, FRd.of_same (row_frd hB) (fun _ _ => rfl) (fun _ h => .inl h), roIn.of_same hC (fun _ _ => rfl) (fun _ h => .inr h)⟩)
/-- What is owned, to be read only from now on. -/
theorem ro_of_rows {e : Nat} : ∀ {vs : List Value} {rows : List (List Int)} {L : List Asn}, vs.length = rows.length → St w0 F (zr e vs rows ++ L) w → St w0 F (roV vs rows :: L) w
  | [], [], L, _, h => by
    have h1 := h.push_emp
    exact h1.imp (A' := roV [] []) (i := 0) rfl (fun S _ => ⟨rfl, fun j xs hj => by simp at hj⟩)
  | u :: vs, r :: rows, L, hl, h => by
    have h0 : St w0 F (row e 1 u r.length (bys r) :: (zr e vs rows ++ L)) w := h
    have h1 : St w0 F (zr e vs rows ++ (row e 1 u r.length (bys r) :: L)) w := h0.perm List.perm_middle.symm
    have h2 := ro_of_rows (vs := vs) (rows := rows) (by simpa using hl) h1
    obtain ⟨A', c, rfl, hc, _⟩ := (h2.rowAt (i := 1) rfl).slice
    refine h2.merge (fun S1 S2 hB hC => ?_)
    have hB' : roIn S1 w vs rows := hB
    refine ⟨by simp [hB'.1], fun j ys hj => ?_⟩
    cases j with
    | zero =>
      have : ys = r := by simpa using hj.symm
      subst this
      exact ⟨A', c, rfl, hc, FRd.of_same (row_frd hC) (fun _ _ => rfl) (fun _ h => .inr h)⟩
    | succ j =>
      obtain ⟨A2, c2, h3, h4, h5⟩ := hB'.2 j ys (by simpa using hj)
      exact ⟨A2, c2, by simpa using h3, h4, FRd.of_same h5 (fun _ _ => rfl) (fun _ h => .inl h)⟩
end
end Go.Fw
