/- CrcAdds: sums of rows that are as long add up; a row and its sum behind it have always one sum: what is left of it without memory. -/
import Derived.Test.YtghnaoppelndkaaDoorQx5
import Derived.Test.YtghnaoppelndkaaDoorPb
import Derived.Laws.BitsAllLaws
namespace Go.Proofs.YtghnaoppelndkaaDoor.Pure
open Go.RowKit Go.Proofs.YtghnaoppelndkaaDoor.Q Go.Proofs.YtghnaoppelndkaaDoorW.PrintWords Go.Proofs.YtghnaoppelndkaaDoorW.PrintLast
set_option linter.unusedVariables false
theorem wf_u8 {a : Int} (h : (Lit.int .u8 a).wf = true) : 0 ≤ a ∧ a < 256 := by
  simp [Lit.wf, IntKind.min, IntKind.max, IntKind.bits, IntKind.signed] at h
  omega
theorem rd_u8 {l : List Int} (h : ∀ x ∈ l, (Lit.int .u8 x).wf = true) (i : Nat) : 0 ≤ rd l (i : Int) ∧ rd l (i : Int) < 256 := by
  unfold rd
  rw [List.getD_eq_getElem?_getD, Int.toNat_natCast]
  rcases Nat.lt_or_ge i l.length with hi | hi
  · rw [List.getElem?_eq_getElem hi, Option.getD_some]; exact wf_u8 (h _ (List.getElem_mem hi))
  · rw [List.getElem?_eq_none hi]; exact ⟨by decide, by decide⟩
theorem toN_small {a : Int} (h0 : 0 ≤ a) (h1 : a < 256) : toN a = a.toNat := by unfold toN; omega
def mixed (l m : List Int) (i : Nat) : List Int := (List.range i).map fun j : Nat => Go.bits .xor .u8 (rd l (j : Int)) (rd m (j : Int))
theorem mixed_toN (l : List Int) : ∀ (m : List Int), l.length = m.length → (∀ x ∈ l, (Lit.int .u8 x).wf = true) → (∀ x ∈ m, (Lit.int .u8 x).wf = true) → (mixed l m l.length).map toN = Crc.xorl (l.map toN) (m.map toN) := by
  induction l with
  | nil => intro m h _ _; cases m with
    | nil => rfl
    | cons => simp at h
  | cons a l ih => intro m h ha hb; cases m with
    | nil => simp at h
    | cons b m =>
      have h1 := wf_u8 (ha a (List.mem_cons_self))
      have h2 := wf_u8 (hb b (List.mem_cons_self))
      have hx := Go.u8_xor a b h1.1 h1.2 h2.1 h2.2
      have hlt : a.toNat ^^^ b.toNat < 256 := Nat.xor_lt_two_pow (n := 8) (by omega) (by omega)
      have := ih m (by simpa using h) (fun x hx => ha x (List.mem_cons_of_mem _ hx)) (fun x hx => hb x (List.mem_cons_of_mem _ hx))
      unfold mixed at this ⊢
      rw [List.length_cons, List.range_succ_eq_map, List.map_cons, List.map_cons, List.map_map]
      simp only [List.map_cons, Crc.xorl]
      rw [← this]
      refine congr (congrArg List.cons ?_) ?_
      rotate_left
      · rw [List.map_map, List.map_map]; rfl
      show toN (Go.bits .xor .u8 a b) = _
      rw [hx, toN_small (by omega) (by omega), toN_small h1.1 h1.2, toN_small h2.1 h2.2]; rfl
theorem adds_l0 (l m : List Int) (hlm : l.length = m.length) (hl : l.length ≤ 300) (R : Option Bool) (K : Nat)
    (hR : ∀ k, K ≤ k → footlockerlaw06_CrcAdds.l0 (k + 1) l m (mixed l m l.length) (l.length : Int) (l.length : Int) = R) (d : Nat) : ∀ i : Nat, i + d = l.length → ∀ k, K + d ≤ k →
    footlockerlaw06_CrcAdds.l0 (k + 1) l m (mixed l m i) (l.length : Int) (i : Int) = R := by
  induction d with
  | zero =>
    intro i hi k hk
    obtain rfl : i = l.length := by omega
    exact hR k (by omega)
  | succ d ih =>
    intro i hi k hk
    obtain ⟨k, rfl⟩ : ∃ q, k = q + 1 := ⟨k - 1, by omega⟩
    simp only [footlockerlaw06_CrcAdds.l0]
    have hlen : (mixed l m i).length = i := by simp [mixed]
    rw [if_pos (by omega), if_pos (by omega), if_pos (by omega), if_pos (by omega), if_pos (by rw [hlen]; omega)]
    have hw : wrap64 ((i : Int) + 1) = ((i + 1 : Nat) : Int) := by unfold wrap64; omega
    rw [hw]
    have := ih (i + 1) (by omega) k (by omega)
    have hs : mixed l m (i + 1) = mixed l m i ++ [Go.bits .xor .u8 (rd l (i : Int)) (rd m (i : Int))] := by simp [mixed, List.range_succ]
    rw [hs] at this
    exact this
theorem bytes4_toN (s : Crc.W) : ([I s % 256, I s / 256 % 256, I s / 65536 % 256, I s / 16777216 % 256] : List Int).map toN = Crc.bytes4 s := by
  unfold Crc.bytes4 I toN
  simp only [List.map_cons, List.map_nil]
  have := s.isLt
  congr 1
  · omega
  congr 1
  · omega
  congr 1
  · omega
  congr 1
  omega
theorem CrcAdds : footlockerlaw06_CrcAdds.Pure := by
  intro l m h0 h1 h2 h3 h4 h5
  obtain ⟨K, hK⟩ := alive_ev
  refine ⟨K + l.length + 10, ?_⟩
  unfold footlockerlaw06_CrcAdds.f
  rw [hK _ (by omega), Option.bind_some, if_pos rfl]
  obtain ⟨k, hk⟩ : ∃ k, K + l.length + 10 = k + 2 := ⟨K + l.length + 8, by omega⟩
  have hkl : l.length ≤ k := by omega
  rw [hk]
  clear h0 h1 h3 h4 hK hk
  by_cases hl : (l.length : Int) > 300
  · rw [if_pos hl]
    simp only [footlockerlaw06_CrcAdds.j0]
    rw [if_pos trivial]
  · rw [if_neg hl]
    simp only [footlockerlaw06_CrcAdds.j0]
    by_cases hlm : (m.length : Int) = (l.length : Int)
    · have hlm' : l.length = m.length := by omega
      have hl' : l.length ≤ 300 := by omega
      rw [if_neg (by simp [hlm])]
      refine adds_l0 l m hlm' hl' (some true) 0 (fun k' _ => ?_) l.length 0 (by omega) k (by omega)
      simp only [footlockerlaw06_CrcAdds.l0]
      rw [if_neg (by omega)]
      simp only [crc_Sum.f, crc_Update.f, Option.bind_some]
      rw [if_pos (by omega), if_pos (by omega)]
      rw [upd_0, upd_0, upd_0, upd_0, mixed_toN l m hlm' h2 h5, Int.toNat_natCast, I_xor, I_xor]
      have hz : (List.replicate l.length (0 : Int)).map toN = List.replicate l.length 0 := by rw [List.map_replicate]; rfl
      have ha := Crc.sum_adds (l.map toN) (m.map toN) (by simpa using hlm')
      rw [List.length_map] at ha
      rw [hz, if_pos (by rw [ha]), upd_I, bytes4_toN, Crc.sum_own]
      rfl
    · rw [if_pos (by simp; exact hlm)]
end Go.Proofs.YtghnaoppelndkaaDoor.Pure
