/- Writers of volumes: what their answers are, in plain words. -/
import Derived.Test.YtbhjdbkdnandfaaSp0
namespace Go.Proofs.Ytbhjdbkdnandfaa.Sp
open Go
theorem recI_le {size : Int} {ini : List (List Int)} {lst xs : List Int} : (recI size ini lst xs).length ≤ ini.length + 1 := by
  unfold recI
  split
  · omega
  · exact layI_le
theorem recL_le {size : Int} {lst xs : List Int} : (recL size lst xs).length ≤ lst.length + xs.length := by
  unfold recL layL
  split
  · omega
  · split <;> simp <;> omega
theorem recL_size {size : Int} {lst xs : List Int} (h : (lst.length : Int) ≤ size) : ((recL size lst xs).length : Int) ≤ size := by
  unfold recL
  split
  · exact h
  · exact layL_le h (by omega)
theorem putB_size {size : Int} (hs : 1 ≤ size) {s : Vol} {x : Int} (h : (s.2.length : Int) ≤ size) : ((putB size s x).2.length : Int) ≤ size := by
  unfold putB
  split
  · simpa using hs
  · simp
    omega
theorem fold_size {size : Int} (hs : 1 ≤ size) : ∀ (xs : List Int) (s : Vol), (s.2.length : Int) ≤ size → ((xs.foldl (putB size) s).2.length : Int) ≤ size
  | [], s, h => h
  | x :: xs, s, h => fold_size hs xs (putB size s x) (putB_size hs h)
/-- The two answers where so many would stand. -/
theorem next_same {size n : Int} {k m : Nat} (hs : 1 ≤ size) (hk : (k : Int) ≤ size) :
    (!decide ((if size - (k : Int) < min (max n 1) size then (m : Int) + 1 else m) = (if (k : Int) + max 1 (min n size) > size then (m : Int) + 1 else m) ∧ (if size - (k : Int) < min (max n 1) size then 0 else (k : Int)) = (if (k : Int) + max 1 (min n size) > size then 0 else (k : Int)))) = false := by
  have e : max 1 (min n size) = min (max n 1) size := by omega
  rw [e]
  by_cases h : size - (k : Int) < min (max n 1) size
  · have h2 : (k : Int) + min (max n 1) size > size := by omega
    simp [h, h2]
  · have h2 : ¬ (k : Int) + min (max n 1) size > size := by omega
    simp [h, h2]
theorem place_same {size : Int} {ini : List (List Int)} {lst : List Int} :
    (!decide (placeD size ini lst 1 = (if (lst.length : Int) + 1 > size then (ini.length : Int) + 1 else ini.length) ∧ placeA size lst 1 = (if (lst.length : Int) + 1 > size then 0 else (lst.length : Int)))) = false := by
  unfold placeD placeA
  by_cases h : size - (lst.length : Int) < 1
  · have h2 : (lst.length : Int) + 1 > size := by omega
    simp [h, h2]
  · have h2 : ¬ (lst.length : Int) + 1 > size := by omega
    simp [h, h2]
/-- What is known of a writer behind so many steps. -/
structure InvW (size : Int) (i : Nat) (ini : List (List Int)) (lst : List Int) : Prop where
  n : ini.length ≤ 61 * i
  l : lst.length ≤ 4 + 60 * i
  s : (lst.length : Int) ≤ size
  x : ∀ xs ∈ ini, xs.length ≤ 4 + 60 * i
theorem InvW.zero {size : Int} (hs : 5 ≤ size) : InvW size 0 [] [80, 75, 7, 8] := ⟨by simp, by simp, by simp; omega, by simp⟩
theorem InvW.lay {size : Int} {i : Nat} {ini : List (List Int)} {lst xs : List Int} (h : InvW size i ini lst) (hx : xs.length ≤ 60) : InvW size (i + 1) (recI size ini lst xs) (recL size lst xs) := by
  have h1 := h.n
  have h2 := h.l
  have h3 := @recI_le size ini lst xs
  have h4 := @recL_le size lst xs
  refine ⟨by omega, by omega, recL_size h.s, fun ys hy => ?_⟩
  unfold recI layI at hy
  have hx := h.x ys
  split at hy
  · have := hx hy; omega
  · split at hy
    · rcases List.mem_append.1 hy with hy | hy
      · have := hx hy; omega
      · have : ys = lst := by simpa using hy
        subst this
        omega
    · have := hx hy; omega
theorem fold_x {size : Int} {m : Nat} : ∀ (xs : List Int) (s : Vol), (∀ ys ∈ s.1, ys.length ≤ m) → s.2.length + xs.length ≤ m → ∀ ys ∈ (xs.foldl (putB size) s).1, ys.length ≤ m
  | [], s, h, _ => h
  | x :: xs, s, h, hl => by
    have h0 : xs.length + 1 = (x :: xs).length := by simp
    refine fold_x xs (putB size s x) ?_ ?_
    · unfold putB
      split
      · intro ys hy
        rcases List.mem_append.1 hy with hy | hy
        · exact h ys hy
        · have : ys = s.2 := by simpa using hy
          subst this
          omega
      · exact h
    · unfold putB
      split <;> simp <;> omega
theorem InvW.put {size : Int} {i : Nat} {ini : List (List Int)} {lst xs : List Int} (hs : 1 ≤ size) (h : InvW size i ini lst) (hx : xs.length ≤ 60) : InvW size (i + 1) (xs.foldl (putB size) (ini, lst)).1 (xs.foldl (putB size) (ini, lst)).2 := by
  have h1 := h.n
  have h2 := h.l
  have h3 := fold_le (size := size) xs (ini, lst)
  dsimp only at h3
  refine ⟨by omega, by omega, fold_size hs xs _ h.s, fold_x xs _ (fun ys hy => ?_) (by dsimp only; omega)⟩
  have := h.x ys hy
  omega
/-- All volumes are small. -/
theorem InvW.all {size : Int} {i : Nat} {ini : List (List Int)} {lst : List Int} (h : InvW size i ini lst) : ∀ xs ∈ ini ++ [lst], xs.length ≤ 4 + 60 * i := by
  intro xs hx
  rcases List.mem_append.1 hx with hx | hx
  · exact h.x xs hx
  · have : xs = lst := by simpa using hx
    subst this
    exact h.l
theorem InvW.len {size : Int} {i : Nat} {ini : List (List Int)} {lst : List Int} (h : InvW size i ini lst) : (ini ++ [lst]).length ≤ 61 * i + 1 := by
  have := h.n
  simp
  omega
/-- No volume is empty, none too long. -/
def InvG (size : Int) (ini : List (List Int)) (lst : List Int) : Prop := ∀ xs ∈ ini ++ [lst], 1 ≤ xs.length ∧ (xs.length : Int) ≤ size
theorem InvG.zero {size : Int} (hs : 5 ≤ size) : InvG size [] [80, 75, 7, 8] := by
  intro xs hx
  have : xs = [80, 75, 7, 8] := by simpa using hx
  subst this
  exact ⟨by decide, by simp; omega⟩
theorem InvG.last {size : Int} {ini : List (List Int)} {lst : List Int} (h : InvG size ini lst) : 1 ≤ lst.length ∧ (lst.length : Int) ≤ size := h lst (by simp)
theorem InvG.snoc {size : Int} {ini : List (List Int)} {lst ys : List Int} (h : InvG size ini lst) (h1 : 1 ≤ ys.length) (h2 : (ys.length : Int) ≤ size) : InvG size (ini ++ [lst]) ys := by
  intro xs hx
  rcases List.mem_append.1 hx with hx | hx
  · exact h xs hx
  · have : xs = ys := by simpa using hx
    subst this
    exact ⟨h1, h2⟩
theorem InvG.more {size : Int} {ini : List (List Int)} {lst ys : List Int} (h : InvG size ini lst) (h2 : (lst.length : Int) + ys.length ≤ size) : InvG size ini (lst ++ ys) := by
  intro xs hx
  have hl := h.last
  rcases List.mem_append.1 hx with hx | hx
  · exact h xs (List.mem_append_left _ hx)
  · have : xs = lst ++ ys := by simpa using hx
    subst this
    simp
    omega
theorem InvG.lay {size : Int} {ini : List (List Int)} {lst xs : List Int} (h : InvG size ini lst) : InvG size (recI size ini lst xs) (recL size lst xs) := by
  unfold recI recL
  by_cases hb : xs.length = 0 ∨ (xs.length : Int) > size
  · rw [if_pos hb, if_pos hb]
    exact h
  · rw [if_neg hb, if_neg hb, layI, layL]
    by_cases hc : size - (lst.length : Int) < xs.length
    · rw [if_pos hc, if_pos hc]
      exact h.snoc (by omega) (by omega)
    · rw [if_neg hc, if_neg hc]
      exact h.more (by omega)
theorem InvG.put {size : Int} (hs : 1 ≤ size) : ∀ {xs : List Int} {s : Vol}, InvG size s.1 s.2 → InvG size (xs.foldl (putB size) s).1 (xs.foldl (putB size) s).2
  | [], _, h => h
  | x :: xs, s, h => by
    refine InvG.put hs (xs := xs) (s := putB size s x) ?_
    have hl := h.last
    unfold putB
    by_cases hc : (s.2.length : Int) = size
    · rw [if_pos hc]
      exact h.snoc (by simp) (by simpa using hs)
    · rw [if_neg hc]
      exact h.more (by simp; omega)
theorem InvG.not_bad {size : Int} {ini : List (List Int)} {lst : List Int} (h : InvG size ini lst) : ¬ (ini ++ [lst] = [] ∨ ∃ x ∈ ini ++ [lst], x.length = 0 ∨ (x.length : Int) > size) := by
  rintro (e | ⟨x, hx, e⟩)
  · simp at e
  · have := h x hx
    omega
/-! Next's answer -/
def nxD (size : Int) (ini : List (List Int)) (lst : List Int) (n : Int) : Int := if size - (lst.length : Int) < min (max n 1) size then (ini.length : Int) + 1 else ini.length
def nxA (size : Int) (lst : List Int) (n : Int) : Int := if size - (lst.length : Int) < min (max n 1) size then 0 else lst.length
theorem nx_mono {size n : Int} {ini : List (List Int)} {lst : List Int} (hs : 5 ≤ size) (hn : 0 ≤ n) : decide (nxD size ini lst 1 > nxD size ini lst (n + 1)) = false := by
  refine decide_eq_false ?_
  unfold nxD
  split <;> split <;> omega
theorem nx_at {size n : Int} {ini : List (List Int)} {lst : List Int} (hs : 5 ≤ size) (hn : 0 ≤ n) (h : decide (nxD size ini lst 1 = nxD size ini lst (n + 1)) = true) : decide (nxA size lst 1 ≠ nxA size lst (n + 1)) = false := by
  have h := of_decide_eq_true h
  refine decide_eq_false ?_
  unfold nxD at h
  unfold nxA
  split at h <;> split at h <;> simp_all <;> omega
theorem nx_one {size : Int} {ini : List (List Int)} {lst : List Int} (hs : 5 ≤ size) : (!decide (placeD size ini lst 1 = nxD size ini lst 1 ∧ placeA size lst 1 = nxA size lst 1)) = false := by
  have e : min (max 1 1) size = 1 := by omega
  unfold placeD placeA nxD nxA
  rw [e]
  simp
theorem nx_rec {size : Int} {ini : List (List Int)} {lst xs : List Int} (hs : 5 ≤ size) (hg : ¬ (xs.length = 0 ∨ (xs.length : Int) > size)) : (!decide (recD size ini lst xs = nxD size ini lst xs.length ∧ recA size lst xs = nxA size lst xs.length)) = false := by
  have e : min (max (xs.length : Int) 1) size = xs.length := by omega
  unfold nxD nxA
  rw [e, recD, recA, if_neg hg, if_neg hg, placeD, placeA]
  simp
theorem nx_fits {size : Int} {ini : List (List Int)} {lst xs : List Int} (hs : 5 ≤ size) (hg : ¬ (xs.length = 0 ∨ (xs.length : Int) > size)) : (!(decide ((lst.length : Int) + xs.length ≤ size) == decide (recD size ini lst xs = ((ini ++ [lst]).length : Nat) - 1))) = false := by
  rw [recD, if_neg hg, placeD]
  by_cases h : size - (lst.length : Int) < xs.length
  · have h2 : ¬ (lst.length : Int) + xs.length ≤ size := by omega
    simp [h, h2]
    omega
  · have h2 : (lst.length : Int) + xs.length ≤ size := by omega
    simp [h, h2]
theorem nx_new {size : Int} {lst xs : List Int} (hg : ¬ (xs.length = 0 ∨ (xs.length : Int) > size)) (h : (!decide ((lst.length : Int) + xs.length ≤ size)) = true) : decide (recA size lst xs ≠ 0) = false := by
  refine decide_eq_false ?_
  have h2 : ¬ (lst.length : Int) + xs.length ≤ size := by simpa using h
  rw [recA, if_neg hg, placeA, if_pos (by omega)]
  simp
theorem rowsA_rd {w0 w : World} {F : Nat → Prop} {L : List Go.Fw.Asn} {E e i n c : Nat} {A : Option Addr} {rows : List (List Int)} (h : Go.Fw.St w0 F L w) (hi : L[i]? = some (Go.Fw.rowsA E e (.slice A n c) rows)) : Go.Fw.RowsRd w A rows := by
  obtain ⟨vs, hvs, h1⟩ := Go.Fw.rows_open (h.front hi)
  exact Go.Fw.rows_rd hvs h1
def WrR (w : World) (gp : Nat) (size : Int) (ini : List (List Int)) (lst : List Int) : Prop :=
  ∃ gr c A k, w.heap[gp]? = some (.cells [.int .i64 size, .slice (some ⟨gr, 0, none⟩) (ini.length + 1) c].toArray 61 (0, 0)) ∧ w.cell? ⟨gr, ini.length, none⟩ = some (.slice A lst.length k) ∧ lst.length ≤ k
end Go.Proofs.Ytbhjdbkdnandfaa.Sp
