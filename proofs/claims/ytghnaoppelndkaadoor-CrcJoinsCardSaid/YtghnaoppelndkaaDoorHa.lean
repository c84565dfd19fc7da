/- The contracts of crc.Update and crc.Sum, where the table of nibbles lies in memory. -/
import Derived.Test.YtghnaoppelndkaaDoorQx0
import Derived.Test.YtghnaoppelndkaaDoorCrc
namespace Go.Proofs.YtghnaoppelndkaaDoor.Q
open Go.RowKit Go.Proofs.YtghnaoppelndkaaDoorW.PrintWords Go.Proofs.YtghnaoppelndkaaDoorW.PrintLast Go.Proofs.YtghnaoppelndkaaDoorW.PrintMore
set_option linter.unusedVariables false
set_option linter.unusedSimpArgs false

def nibs : List Int := [0, 498536548, 997073096, 651767980, 1994146192, 1802195444, 1303535960, 1342533948, 3988292384, 4027552580, 3604390888, 3412177804, 2607071920, 2262029012, 2685067896, 3183342108]
structure Tab (w : World) : Prop where
  cell : ∀ i : Nat, i < 16 → w.cell? ⟨0, i, none⟩ = some (.int .u32 (nibs.getD i 0))
  big : 0 < w.heap.size
theorem Tab.below {w w' : World} (h : Tab w) (hb : Below w.heap.size w w') : Tab w' :=
  ⟨fun i hi => (hb.cell (p := ⟨0, i, none⟩) h.big).trans (h.cell i hi), by have := hb.size; have := h.big; omega⟩
theorem Tab.drewN {w : World} {n : Nat} (h : Tab w) : Tab (w.drewN n) := h.below (pw_below_drewN (Below.refl w.heap.size w) n)
abbrev HTab (w : World) : Prop := Aside0 (Tab w)
theorem HTab.below {w w' : World} (h : HTab w) (hb : Below w.heap.size w w') : HTab w' := ⟨h.out.below hb⟩
theorem HTab.drewN {w : World} {n : Nat} (h : HTab w) : HTab (w.drewN n) := ⟨h.out.drewN⟩

def toN (c : Int) : Nat := (c % 4294967296).toNat
def updI (a : Int) (l : List Int) : Int := ((Crc.sum (BitVec.ofInt 32 a) (l.map toN)).toNat : Int)
def crc_Update.f (k : Nat) (a0 : Int) (l1 : List Int) : Option (Int) := some (updI a0 l1)

theorem bits_xor_bv (x y : Int) : Go.bits .xor .u32 x y = ((BitVec.ofInt 32 x ^^^ BitVec.ofInt 32 y).toNat : Int) := by
  show IntKind.u32.wrap _ = _
  rw [IntKind.wrap_u32]
  have := (BitVec.ofInt 32 x ^^^ BitVec.ofInt 32 y).isLt
  show ((BitVec.ofInt 32 x ^^^ BitVec.ofInt 32 y).toNat : Int) % 4294967296 = _
  omega
theorem bits_and_bv (x y : Int) : Go.bits .and .u32 x y = ((BitVec.ofInt 32 x &&& BitVec.ofInt 32 y).toNat : Int) := by
  show IntKind.u32.wrap _ = _
  rw [IntKind.wrap_u32]
  have := (BitVec.ofInt 32 x &&& BitVec.ofInt 32 y).isLt
  show ((BitVec.ofInt 32 x &&& BitVec.ofInt 32 y).toNat : Int) % 4294967296 = _
  omega
theorem ofInt_toNat (r : Crc.W) : BitVec.ofInt 32 (r.toNat : Int) = r := by
  rw [BitVec.ofInt_natCast, BitVec.ofNat_toNat, BitVec.setWidth_eq]
theorem ofInt_toN (c : Int) : BitVec.ofInt 32 (c % 4294967296) = BitVec.ofNat 32 (toN c) := by
  unfold toN
  obtain ⟨n, hn⟩ := Int.eq_ofNat_of_zero_le (show 0 ≤ c % 4294967296 by omega)
  rw [hn, BitVec.ofInt_natCast]; rfl
theorem and15 (s : Crc.W) : Go.bits .and .u32 (s.toNat : Int) 15 = ((s.toNat % 16 : Nat) : Int) := by
  rw [bits_and_bv, ofInt_toNat]
  rw [show BitVec.ofInt 32 15 = 15#32 from rfl, BitVec.toNat_and, show (15#32 : Crc.W).toNat = 2 ^ 4 - 1 from rfl, Nat.and_two_pow_sub_one_eq_mod]
theorem nibs_tab : ∀ i, i < 16 → BitVec.ofInt 32 (nibs.getD i 0) = Crc.tab i := by decide +kernel
theorem nib_int (s : Crc.W) : Go.bits .xor .u32 ((s.toNat : Int) / 16) (nibs.getD (s.toNat % 16) 0) = ((Crc.nib s).toNat : Int) := by
  rw [bits_xor_bv, nibs_tab _ (Nat.mod_lt _ (by decide))]
  unfold Crc.nib
  have : BitVec.ofInt 32 ((s.toNat : Int) / 16) = s >>> 4 := by
    apply BitVec.eq_of_toNat_eq
    rw [show ((s.toNat : Int) / 16) = ((s.toNat / 16 : Nat) : Int) from rfl, BitVec.ofInt_natCast, BitVec.toNat_ofNat, BitVec.toNat_ushiftRight, Nat.shiftRight_eq_div_pow]
    have := s.isLt
    omega
  rw [this]

theorem start_upd (a0 : Int) : Go.bits .xor .u32 IntKind.u32.max a0 = (((~~~(BitVec.ofInt 32 a0)) : Crc.W).toNat : Int) := by
  rw [bits_xor_bv, Crc.not_eq, BitVec.xor_comm]; rfl
set_option maxHeartbeats 8000000 in
set_option maxRecDepth 100000 in
theorem crc_Update.calls0 (k : Nat) (a0 : Int) (A1 : Option Addr) (c1 : Nat) (l1 : List Int) (r : Int) (w : World) (hr1 : Kd.C (Kd.int .u8) w A1 l1.length l1) (hc1 : l1.length ≤ c1) (h : crc_Update.f k a0 l1 = some r) (HT : HTab w) :
    Calls Tryd.prog 9 #[.int .u32 a0, .slice A1 l1.length c1] w fun e w' => e = .returned (.int .u32 r) ∧ Drawn0 w w' := by
  have HR1 := Aside0.mk hr1
  clear hr1 hc1
  obtain rfl := Option.some.inj h
  clear h
  go_enter Tryd.func9, Tryd.ntmps9
  go_wp2
  go_loopg [0, 11] (l1.length + 1) (fun kq v0 v11 w' => ∃ (i : Nat), Aside0 (i ≤ l1.length ∧ kq + i = l1.length + 1) ∧ v0 = .int .u32 ((Crc.reg (~~~(BitVec.ofInt 32 a0)) ((l1.map toN).take i)).toNat : Int) ∧ v11 = .int .i64 (i : Int) ∧ Drawn0 w w')
  case atStart => exact ⟨0, ⟨by omega⟩, by rw [start_upd]; rfl, rfl, by repeat (first | exact Drawn0.refl _ | apply Drawn0.step)⟩
  case round =>
    obtain ⟨i, HI, rfl, rfl, ⟨m1, rfl⟩⟩ := hrel
    have hlen : l1.length ≤ 9223372036854775807 := HR1.out.2.1
    by_cases hlt : i < l1.length
    · obtain ⟨ad, rfl, hx⟩ := Kd.at_int HR1.out (i : Int) (by omega) (by omega)
      rw [Int.toNat_natCast] at hx
      have hnext : Crc.reg (~~~(BitVec.ofInt 32 a0)) ((l1.map toN).take (i + 1)) = Crc.nib (Crc.nib (Crc.reg (~~~(BitVec.ofInt 32 a0)) ((l1.map toN).take i) ^^^ BitVec.ofNat 32 (toN (rd l1 i)))) := by
        rw [Crc.nib2_eq, List.take_succ_eq_append_getElem (by simpa using hlt), Crc.reg_append]
        simp [Crc.reg, rd, List.getD_eq_getElem?_getD, hlt]
      have HN := Aside0.mk hnext
      clear hnext
      generalize (Crc.reg (~~~(BitVec.ofInt 32 a0)) ((l1.map toN).take i)) = s at *
      have hX : Go.bits .xor .u32 (s.toNat : Int) (rd l1 i % 4294967296) = ((s ^^^ BitVec.ofNat 32 (toN (rd l1 i))).toNat : Int) := by rw [bits_xor_bv, ofInt_toNat, ofInt_toN]
      generalize s ^^^ BitVec.ofNat 32 (toN (rd l1 i)) = s1 at *
      have hA := and15 s1
      have ht := HT.out.cell (s1.toNat % 16) (Nat.mod_lt _ (by decide))
      have hN := nib_int s1
      have hp : (0 : Int) ≤ ((s1.toNat % 16 : Nat) : Int) := by omega
      have hq : ((s1.toNat % 16 : Nat) : Int) < 16 := by omega
      generalize nibs.getD (s1.toNat % 16) 0 = T1 at *
      generalize Crc.nib s1 = s2 at *
      have hA2 := and15 s2
      have ht2 := HT.out.cell (s2.toNat % 16) (Nat.mod_lt _ (by decide))
      have hN2 := nib_int s2
      have hp2 : (0 : Int) ≤ ((s2.toNat % 16 : Nat) : Int) := by omega
      have hq2 : ((s2.toNat % 16 : Nat) : Int) < 16 := by omega
      generalize nibs.getD (s2.toNat % 16) 0 = T2 at *
      generalize Crc.nib s2 = s3 at *
      generalize s1.toNat % 16 = i1 at *
      generalize s2.toNat % 16 = i2 at *
      go_wp2
      cases gk with
      | zero => exact absurd HI.out (by omega)
      | succ k1 =>
        go_roundg k1
        case measure => omega
        case rel => exact ⟨i + 1, ⟨by have := HI.out; omega⟩, by rw [HN.out], by first | rfl | go_num, by repeat (first | exact Drawn0.refl _ | apply Drawn0.step)⟩
    · have hi : i = l1.length := by have := HI.out; omega
      subst hi
      rw [List.take_of_length_le (by simp)]
      go_wp2
      go_ret
      refine ⟨?_, by repeat (first | exact Drawn0.refl _ | apply Drawn0.step)⟩
      rw [start_upd, ofInt_toNat]
      rfl
def crc_Sum.f (k : Nat) (l0 : List Int) : Option (Int) := some (updI 0 l0)
set_option maxHeartbeats 1000000 in
theorem crc_Sum.calls0 (k : Nat) (A0 : Option Addr) (c0 : Nat) (l0 : List Int) (r : Int) (w : World) (hr0 : Kd.C (Kd.int .u8) w A0 l0.length l0) (hc0 : l0.length ≤ c0) (h : crc_Sum.f k l0 = some r) (HT : HTab w) :
    Calls Tryd.prog 11 #[.slice A0 l0.length c0] w fun e w' => e = .returned (.int .u32 r) ∧ Drawn0 w w' := by
  have HR0 := Aside0.mk hr0
  have HC0 := Aside0.mk hc0
  clear hr0 hc0
  obtain rfl := Option.some.inj h
  clear h
  go_enter Tryd.func11, Tryd.ntmps11
  go_wp2_with (go_at_call 9; refine (crc_Update.calls0 k 0 _ _ l0 (updI 0 l0) _ HR0.out HC0.out rfl HT).mono ?_; rintro e w' ⟨rfl, ⟨nd, rfl⟩⟩)
  go_ret
  exact ⟨rfl, by repeat (first | exact Drawn0.refl _ | apply Drawn0.step)⟩
theorem below_of_drawn {w w' : World} (h : Drawn0 w w') : Below w.heap.size w w' := by
  obtain ⟨n, rfl⟩ := h
  exact pw_below_drewN (Below.refl _ _) n
theorem crc_Update.calls (k : Nat) (a0 : Int) (A1 : Option Addr) (c1 : Nat) (l1 : List Int) (r : Int) (w : World) (hr1 : Kd.C (Kd.int .u8) w A1 l1.length l1) (hc1 : l1.length ≤ c1) (h : crc_Update.f k a0 l1 = some r) (HT : HTab w) :
    Calls Tryd.prog 9 #[.int .u32 a0, .slice A1 l1.length c1] w fun e w' => e = .returned (.int .u32 r) ∧ Below w.heap.size w w' :=
  (crc_Update.calls0 k a0 A1 c1 l1 r w hr1 hc1 h HT).mono fun _ _ h => ⟨h.1, below_of_drawn h.2⟩
theorem crc_Sum.calls (k : Nat) (A0 : Option Addr) (c0 : Nat) (l0 : List Int) (r : Int) (w : World) (hr0 : Kd.C (Kd.int .u8) w A0 l0.length l0) (hc0 : l0.length ≤ c0) (h : crc_Sum.f k l0 = some r) (HT : HTab w) :
    Calls Tryd.prog 11 #[.slice A0 l0.length c0] w fun e w' => e = .returned (.int .u32 r) ∧ Below w.heap.size w w' :=
  (crc_Sum.calls0 k A0 c0 l0 r w hr0 hc0 h HT).mono fun _ _ h => ⟨h.1, below_of_drawn h.2⟩
theorem crc_Update.mono : ∀ a0 a1 k, LeO (crc_Update.f k a0 a1) (crc_Update.f (k + 1) a0 a1) := fun _ _ _ => LeO.refl _
theorem crc_Sum.mono : ∀ a0 k, LeO (crc_Sum.f k a0) (crc_Sum.f (k + 1) a0) := fun _ _ => LeO.refl _
end Go.Proofs.YtghnaoppelndkaaDoor.Q
