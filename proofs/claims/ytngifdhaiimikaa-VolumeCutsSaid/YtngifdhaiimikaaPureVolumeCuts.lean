/- VolumeCuts, without memory. -/
import Derived.Test.YtngifdhaiimikaaPureC
import Derived.Test.YtngifdhaiimikaaRowVolumeCuts
namespace Go.Proofs.Ytngifdhaiimikaa.Pure
open Go.RowKit Go.Proofs.Ytngifdhaiimikaa.Q Go.Proofs.YtngifdhaiimikaaW.PrintWords Go.Proofs.YtngifdhaiimikaaW.PrintLast
set_option linter.unusedVariables false
theorem wf_i64 {a : Int} (h : (Lit.int .i64 a).wf = true) : -9223372036854775808 ≤ a ∧ a ≤ 9223372036854775807 := by
  simp [Lit.wf, IntKind.min, IntKind.max, IntKind.bits, IntKind.signed] at h
  omega
theorem cuts_j1 (l0 : List (List Int)) (x1 x2 : Nat) (hl : l0.length ≤ 20) (hb : ∀ x ∈ l0, x.length ≤ 60) (h1 : x1 ≤ 2000) (h2 : x2 ≤ 2000) (k : Nat) (hk : 8000 ≤ k) :
    footlockerlaw21_VolumeCuts.j1 k l0 (x1 : Int) (x2 : Int) (if x1 + x2 ≤ l0.flatten.length then ((l0.flatten.drop x1).take x2, true) else ([], false) : List Int × Bool).1 (if x1 + x2 ≤ l0.flatten.length then ((l0.flatten.drop x1).take x2, true) else ([], false) : List Int × Bool).2 false = some true := by
  obtain ⟨k, rfl⟩ : ∃ m, k = m + 1 := ⟨k - 1, by omega⟩
  have hf := flat_le l0 hb
  have hb' : ∀ x ∈ l0, x.length < 1099511627776 := fun x hx => by have := hb x hx; omega
  obtain ⟨t, e1, e2⟩ := rest_ev l0 (by omega) hb' x1 (by omega) k (by omega)
  have htl : t.length ≤ 1200 := by rcases e2 with e2 | e2 <;> omega
  have hone : ([l0.flatten] : List (List Int)).flatten = l0.flatten := by simp
  have eone := bytes_ev [l0.flatten] (by simp) (fun x hx => by obtain rfl := List.mem_singleton.1 hx; omega) (by rw [hone]; omega) x1 x2 (by omega) (by omega) k (by simp; omega)
  have es1 := size_ev [l0.flatten] (by simp) (by rw [hone]; omega) k (by simp; omega)
  have es2 := size_ev l0 (by omega) (by omega) k (by omega)
  rw [hone] at eone es1
  have hlen : (if x1 + x2 ≤ l0.flatten.length then ((l0.flatten.drop x1).take x2, true) else ([], false) : List Int × Bool).1.length < 4000 := by
    split
    · simp only [List.length_take, List.length_drop]; omega
    · simp
  generalize hB : (if x1 + x2 ≤ l0.flatten.length then ((l0.flatten.drop x1).take x2, true) else ([], false) : List Int × Bool) = B at *
  have es := same_ev B.1 (by omega) k (by omega)
  simp only [footlockerlaw21_VolumeCuts.j1]
  rw [if_neg (by decide), e1, Option.bind_some, bytes_ev l0 (by omega) hb' (by omega) x1 t.length (by omega) (by omega) k (by omega), Option.bind_some,
    join_ev l0 (by omega) (by omega) k (by omega), Option.bind_some, Option.bind_some, eone, Option.bind_some, es1, es2]
  by_cases ht : t.length = 0
  · rw [if_pos (by omega), if_pos (by simp), es]
    simp
  · rcases e2 with e2 | ⟨e2, e3⟩
    · exact absurd e2 ht
    · rw [if_neg (by omega), if_pos e2]
      simp only [e3]
      rw [same_ev t (by omega) k (by omega), es]
      simp
theorem cuts_j0 (l0 : List (List Int)) (x1 x2 x3 : Nat) (hl : l0.length ≤ 20) (hb : ∀ x ∈ l0, x.length ≤ 60) (h1 : x1 ≤ 2000) (h2 : x2 ≤ 2000) (h3 : x3 ≤ 2000) (k : Nat) (hk : 9000 ≤ k) :
    footlockerlaw21_VolumeCuts.j0 k l0 (x1 : Int) (x2 : Int) (x3 : Int) false = some true := by
  obtain ⟨k, rfl⟩ : ∃ m, k = m + 1 := ⟨k - 1, by omega⟩
  have hf := flat_le l0 hb
  have hb' : ∀ x ∈ l0, x.length < 1099511627776 := fun x hx => by have := hb x hx; omega
  have hj := cuts_j1 l0 x1 x2 hl hb h1 h2 k (by omega)
  simp only [footlockerlaw21_VolumeCuts.j0]
  rw [if_neg (by decide), show wrap64 ((x1 : Int) + (x2 : Int)) = ((x1 + x2 : Nat) : Int) from w64 (x1 + x2) (by omega), show wrap64 ((x2 : Int) + (x3 : Int)) = ((x2 + x3 : Nat) : Int) from w64 (x2 + x3) (by omega),
    bytes_ev l0 (by omega) hb' (by omega) x1 x2 (by omega) (by omega) k (by omega), Option.bind_some, bytes_ev l0 (by omega) hb' (by omega) (x1 + x2) x3 (by omega) (by omega) k (by omega), Option.bind_some,
    bytes_ev l0 (by omega) hb' (by omega) x1 (x2 + x3) (by omega) (by omega) k (by omega), Option.bind_some]
  by_cases p : x1 + x2 ≤ l0.flatten.length
  · rw [if_pos p] at hj ⊢
    by_cases q : x1 + x2 + x3 ≤ l0.flatten.length
    · rw [if_pos q, if_pos (show x1 + (x2 + x3) ≤ l0.flatten.length by omega)]
      have he : ([(l0.flatten.drop x1).take x2, (l0.flatten.drop (x1 + x2)).take x3] : List (List Int)).flatten = (l0.flatten.drop x1).take (x2 + x3) := by
        rw [List.take_add, List.drop_drop]; simp
      have hj2 := join_ev ([(l0.flatten.drop x1).take x2, (l0.flatten.drop (x1 + x2)).take x3] : List (List Int)) (by simp) (by rw [he, List.length_take]; omega) k (by simp; omega)
      rw [he] at hj2
      simp only [hj2, Option.bind_some]
      rw [same_ev ((l0.flatten.drop x1).take (x2 + x3)) (by rw [List.length_take]; omega) k (by rw [List.length_take]; omega)]
      simpa using hj
    · rw [if_neg q, if_neg (show ¬ x1 + (x2 + x3) ≤ l0.flatten.length by omega)]
      simpa using hj
  · rw [if_neg p] at hj ⊢
    rw [if_neg (by omega : ¬ x1 + x2 + x3 ≤ l0.flatten.length), if_neg (by omega : ¬ x1 + (x2 + x3) ≤ l0.flatten.length)]
    simpa using hj
theorem VolumeCuts : footlockerlaw21_VolumeCuts.Pure := by
  intro l0 a1 a2 a3 hl hb h1 h2 h3
  obtain ⟨K, hK⟩ := alive_ev
  refine ⟨K + l0.length + 20000, ?_⟩
  unfold footlockerlaw21_VolumeCuts.f
  rw [hK _ (by omega), Option.bind_some, if_pos rfl]
  obtain ⟨b, hf, hb2⟩ := few_ev l0 hl (K + l0.length + 20000) (by omega)
  rw [hf, Option.bind_some]
  have jt : footlockerlaw21_VolumeCuts.j0 (K + l0.length + 20000) l0 a1 a2 a3 true = some true := by
    obtain ⟨k, e⟩ : ∃ m, K + l0.length + 20000 = m + 1 := ⟨K + l0.length + 19999, by omega⟩
    rw [e]; simp [footlockerlaw21_VolumeCuts.j0]
  cases b with
  | false => rw [if_neg (by decide)]; exact jt
  | true =>
    rw [if_pos rfl]
    obtain ⟨g1, g2⟩ := hb2 rfl
    by_cases c1 : a1 < 0
    · rw [if_pos c1]; exact jt
    rw [if_neg c1]
    by_cases c2 : a2 < 0
    · rw [if_pos c2]; exact jt
    rw [if_neg c2]
    by_cases c3 : a3 < 0
    · rw [if_pos c3]; exact jt
    rw [if_neg c3]
    by_cases c4 : a1 > 2000
    · rw [if_pos c4]; exact jt
    rw [if_neg c4]
    by_cases c5 : a2 > 2000
    · rw [if_pos c5]; exact jt
    rw [if_neg c5]
    by_cases c6 : a3 > 2000
    · rw [decide_eq_true c6]; exact jt
    rw [decide_eq_false c6]
    clear jt hf
    obtain ⟨x1, rfl⟩ : ∃ n : Nat, a1 = n := ⟨a1.toNat, by omega⟩
    obtain ⟨x2, rfl⟩ : ∃ n : Nat, a2 = n := ⟨a2.toNat, by omega⟩
    obtain ⟨x3, rfl⟩ : ∃ n : Nat, a3 = n := ⟨a3.toNat, by omega⟩
    exact cuts_j0 l0 x1 x2 x3 g1 g2 (by omega) (by omega) (by omega) _ (by omega)
end Go.Proofs.Ytngifdhaiimikaa.Pure
namespace Go.Proofs.Ytngifdhaiimikaa
/-- The row, under a short name, for the claim. -/
theorem volumeCuts_holds : Rows.VolumeCutsSaid := volumeCuts.over Pure.VolumeCuts
#print axioms volumeCuts_holds
end Go.Proofs.Ytngifdhaiimikaa
