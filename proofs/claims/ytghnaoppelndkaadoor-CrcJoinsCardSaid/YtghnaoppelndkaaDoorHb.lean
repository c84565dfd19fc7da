/- The contract of crc.Blocks, with the library's iterator over chunks. -/
import Derived.Test.YtghnaoppelndkaaDoorHa
import Derived.RangeFuncNested
import Derived.RangeFuncBox
import Derived.RangeFuncBound
import Derived.RangeFuncCalls
import Derived.RangeFuncLeaves
import Derived.Shelf.Abstract
import Derived.Shelf.RegionOpen
import Derived.OwnWalkIn
import Derived.TacticsInMore
import Derived.LoopNIn
import Derived.LoopIn
import Derived.Maps.AppendAt
import Derived.Sort.QuietIn
import Derived.BigRegionIn
import Derived.Stop.RegionWithIn
namespace Go.Proofs.YtghnaoppelndkaaDoor.Q
open Go.RowKit Go.Shelf Go.Proofs.YtghnaoppelndkaaDoorW.PrintWords Go.Proofs.YtghnaoppelndkaaDoorW.PrintLast Go.Proofs.YtghnaoppelndkaaDoorW.PrintMore
set_option linter.unusedVariables false
set_option linter.unusedSimpArgs false
attribute [local go_sem] Oper.semAt_some
attribute [local go_sem] max2_int min2_int max_two min_two max_three min_three max_four min_four

def upto {α : Type} (f : Nat → α) (k : Nat) : List α := (List.range k).map f
theorem upto_succ {α : Type} (f : Nat → α) (k : Nat) : upto f (k + 1) = upto f k ++ [f k] := by simp [upto, List.range_succ]
theorem upto_length {α : Type} (f : Nat → α) (k : Nat) : (upto f k).length = k := by simp [upto]

/-- a chunk: where it begins, how long it is -/
abbrev Ck (len : Nat) := { x : Nat × Nat // x.1 < len ∧ 0 < x.2 ∧ x.1 + x.2 ≤ len }
def cnt (len n : Nat) : Nat := (len + n - 1) / n
theorem cnt_lt {len n k : Nat} (hn : 0 < n) : k < cnt len n ↔ k * n < len := by
  unfold cnt
  rw [← Nat.succ_le_iff, Nat.le_div_iff_mul_le hn, Nat.succ_mul]
  omega
def ck (len n : Nat) (hn : 0 < n) (hl : 0 < len) (k : Nat) : Ck len := if h : k * n < len then ⟨(k * n, min n (len - k * n)), h, by dsimp only; omega, by dsimp only; omega⟩ else ⟨(0, 1), hl, by decide, by dsimp only; omega⟩
theorem ck_val {len n k : Nat} (hn : 0 < n) (hl : 0 < len) (h : k * n < len) : (ck len n hn hl k).1 = (k * n, min n (len - k * n)) := by unfold ck; rw [dif_pos h]

/-- what a round keeps: the iterator's two boxes -/
def KB (Bs Bn : Nat) (sv nv : Value) (W W' : World) : Prop := (Boxed W Bs 23 sv → Boxed W' Bs 23 sv) ∧ (Boxed W Bn 3 nv → Boxed W' Bn 3 nv)
theorem KB.t {Bs Bn : Nat} {sv nv : Value} {A B C : World} (h : KB Bs Bn sv nv A B) (k : KB Bs Bn sv nv B C) : KB Bs Bn sv nv A C := ⟨fun x => k.1 (h.1 x), fun x => k.2 (h.2 x)⟩
theorem KB.b {Bs Bn : Nat} {sv nv : Value} {n : Nat} (hs : Bs < n) (hn : Bn < n) (W : World) (l : Nat) (o o' : Obj) (hl : n ≤ l) (h : W.heap[l]? = some o) (_ : o.isCells = false) (_ : o.isWalk = false) : KB Bs Bn sv nv W (W.putObj l o') :=
  ⟨fun x => x.kept (grownBy_putObj' W l o') (fun e => by cases e; omega), fun x => x.kept (grownBy_putObj' W l o') (fun e => by cases e; omega)⟩
set_option maxRecDepth 100000 in
set_option maxHeartbeats 2000000 in
theorem chunk1_in (F : Fence) (n : Nat) (h7 : F.fn 24) (hro : F.round = none) (hn : 1 ≤ n) (l Bs Bn : Nat) (ad : Addr) (len cap sz : Nat) (hsz : 0 < sz) (hszm : sz ≤ 9223372036854775807) (hlen : 0 < len) (hlenm : len ≤ 1000) (hcap : len ≤ cap) (J Jx : List (Ck len) → World → Prop)
    (hY : ∀ pre (x : Ck len) W, J pre W → pre.length < cnt len sz → YieldAt F (n - 1) Tryd.prog l #[.slice (some (ad.add x.1.1)) x.1.2 x.1.2] W fun e W' =>
      (e = .returned (.bool true) ∧ J (pre ++ [x]) W' ∧ KB Bs Bn (.slice (some ad) len cap) (.int .i64 sz) W W') ∨ (e = .returned (.bool false) ∧ Jx (pre ++ [x]) W'))
    (W : World) (hBs : Boxed W Bs 23 (.slice (some ad) len cap)) (hBn : Boxed W Bn 3 (.int .i64 sz)) (hJd : ∀ s W n, J s W → J s (W.drewN n)) (h0 : J [] W) :
    CallsIn F n Tryd.prog 24 #[.func (.yield l) #[] #[], .pointer (some ⟨Bs, 0, none⟩), .pointer (some ⟨Bn, 0, none⟩)] W fun e W' => (∃ v, e = .returned v) ∧
      ((∃ ys, ys = upto (ck len sz hsz hlen) (cnt len sz) ∧ J ys W') ∨ (∃ pre, (∃ k, k ≤ cnt len sz ∧ pre = upto (ck len sz hsz hlen) k) ∧ Jx pre W')) := by
  refine callsIn_of_wp Tryd.func24 rfl h7 ?_ hro
  simp only [Tryd.ntmps24, List.size_toArray, List.length_cons, List.length_nil, Nat.reduceAdd, Nat.reduceSub, Array.replicate_succ, Array.replicate_zero, List.push_toArray, List.append_toArray, List.nil_append, List.cons_append]
  gi_wp2
  gi_loopw [4] (fun i wr => ∃ k : Nat, k ≤ cnt len sz ∧ i = .int .i64 ((k * sz : Nat) : Int) ∧ J (upto (ck len sz hsz hlen) k) wr ∧ Boxed wr Bs 23 (.slice (some ad) len cap) ∧ Boxed wr Bn 3 (.int .i64 sz))
    (fun i _ => len - (intOf i).toNat)
  case atStart => exact ⟨0, Nat.zero_le _, by simp, h0, hBs, hBn⟩
  case round =>
    obtain ⟨k, hk, rfl, hJs, hxs, hxn⟩ := hrel
    have hs' := hxs.cell
    have hn' := hxn.cell
    by_cases hlt : k * sz < len
    · have hyr := fun nq => hY _ (ck len sz hsz hlen k) (wr.drewN nq) (hJd _ _ nq hJs) (by rw [upto_length]; exact (cnt_lt hsz).2 hlt)
      rw [ck_val hsz hlen hlt] at hyr
      have hov : ((k * sz : Nat) : Int) + sz ≤ 9223372036854775807 := by
        rcases Nat.eq_zero_or_pos k with e | e
        · subst e; omega
        · have := Nat.le_mul_of_pos_left sz e; omega
      have hxt : upto (ck len sz hsz hlen) k ++ [ck len sz hsz hlen k] = upto (ck len sz hsz hlen) (k + 1) := (upto_succ _ _).symm
      rw [hxt] at hyr
      have hk1 : (k + 1) * sz = k * sz + sz := Nat.succ_mul k sz
      have hkc : k + 1 ≤ cnt len sz := (cnt_lt hsz).2 hlt
      generalize hi : k * sz = i at *
      have HI := Aside0.mk (And.intro hi (And.intro hk1 hkc))
      clear hi hk1 hxt hkc
      have hme : (if len - i < sz then ((len - i : Nat) : Int) else (sz : Int)) = ((min sz (len - i) : Nat) : Int) := by split <;> omega
      have hm1 : 0 < min sz (len - i) := by omega
      have hm2 : i + min sz (len - i) ≤ len := by omega
      generalize min sz (len - i) = m at *
      have HME := Aside0.mk hme
      clear hme
      have HYR := Aside0.mk hyr
      clear hyr
      gi_wp2
      refine wpIn_region_quiet_lit hro (by kernel_rfl) (by kernel_rfl) ?_
      repeat (gi_big_quiet_step (fail))
      refine wpQuietIn_nil ?_
      rintro _ ⟨nq, rfl⟩
      rw [HME.out]
      obtain ⟨fn, tmps, assign, body, hy, hR⟩ := HYR.out nq
      have hmm : i + m - i = m := by omega
      have hs3 : (wr.drewN nq).cell? ⟨Bs, 0, none⟩ = some (.slice (some ad) len cap) := hs'
      gi_wp2
      refine hR.mono ?_
      rintro e W3 (⟨rfl, hJ3, hk3⟩ | ⟨rfl, hJx3⟩)
      · have hs3' := hk3.1 hxs
        have hn3' := hk3.2 hxn
        have hn3 := hn3'.cell
        gi_wp2
        go_roundw
        case rel => exact ⟨k + 1, HI.out.2.2, by rw [HI.out.2.1]; go_num, hJ3, hs3', hn3'⟩
        case measure => simp [intOf]; omega
      · gi_wp2
        refine bodyPost_ret (results_none rfl _ _ _) rfl ?_
        exact ⟨⟨_, rfl⟩, .inr ⟨_, ⟨k + 1, HI.out.2.2, rfl⟩, hJx3⟩⟩
    · obtain rfl : k = cnt len sz := by have := (not_congr (cnt_lt (len := len) hsz)).2 hlt; omega
      generalize hi : cnt len sz * sz = i at *
      have HI := Aside0.mk hi
      clear hi
      gi_wp2
      go_end0
      exact ⟨⟨_, rfl⟩, .inl ⟨_, rfl, hJs⟩⟩

set_option maxRecDepth 100000 in
set_option maxHeartbeats 1000000 in
/-- .. of no bytes: no round. -/
theorem chunk0_in (F : Fence) (n : Nat) (h7 : F.fn 24) (hro : F.round = none) (l Bs Bn : Nat) (A0 : Option Addr) (cap : Nat) {α : Type} (J : List α → World → Prop) (W : World) (hBs : W.cell? ⟨Bs, 0, none⟩ = some (.slice A0 0 cap)) (h0 : J [] W) :
    CallsIn F n Tryd.prog 24 #[.func (.yield l) #[] #[], .pointer (some ⟨Bs, 0, none⟩), .pointer (some ⟨Bn, 0, none⟩)] W fun e W' => (∃ v, e = .returned v) ∧ J [] W' := by
  refine callsIn_of_wp Tryd.func24 rfl h7 ?_ hro
  simp only [Tryd.ntmps24, List.size_toArray, List.length_cons, List.length_nil, Nat.reduceAdd, Nat.reduceSub, Array.replicate_succ, Array.replicate_zero, List.push_toArray, List.append_toArray, List.nil_append, List.cons_append]
  gi_wp2
  gi_loopw [4] (fun i wr => i = .int .i64 0 ∧ J [] wr ∧ wr = W) (fun _ _ => 0)
  case atStart => exact ⟨rfl, h0, rfl⟩
  case round =>
    obtain ⟨rfl, hJs, rfl⟩ := hrel
    gi_wp2
    go_end0
    exact ⟨⟨_, rfl⟩, hJs⟩

set_option maxHeartbeats 1000000 in
/-- slices.Chunk: both arguments are boxed; the function value holds the boxes. -/
theorem chunk_in (F : Fence) (n : Nat) (h5 : F.fn 20) (hro : F.round = none) (a : Option Addr) (len cap : Nat) (sz : Int) (hsz : 1 ≤ sz) (w : World) :
    CallsIn F n Tryd.prog 20 #[.slice a len cap, .int .i64 sz] w fun e w' => e = .returned (.func (.func 24) #[] #[.pointer (some ⟨w.heap.size, 0, none⟩), .pointer (some ⟨w.heap.size + 1, 0, none⟩)]) ∧ w' = (w.alloc (.cells #[.slice a len cap] 23)).alloc (.cells #[.int .i64 sz] 3) := by
  refine callsIn_of_wp Tryd.func20 rfl h5 ?_ hro
  simp only [Tryd.ntmps20, List.size_toArray, List.length_cons, List.length_nil, Nat.reduceAdd, Nat.reduceSub, Array.replicate_succ, Array.replicate_zero, List.push_toArray, List.append_toArray, List.nil_append, List.cons_append]
  gi_wp2
  go_ret
  exact ⟨rfl, rfl⟩


def blocksI (l : List Int) (n : Nat) : List Int := (List.range (cnt l.length n)).map fun k => updI 0 ((l.drop (k * n)).take n)
def crc_Blocks.f (k : Nat) (l0 : List Int) (a1 : Int) : Option (List Int) :=
  if a1 < 1 then some [] else if a1 ≤ 9223372036854775807 ∧ l0.length ≤ 1000 then some (blocksI l0 a1.toNat) else none
theorem crc_Blocks.mono : ∀ a0 a1 k, LeO (crc_Blocks.f k a0 a1) (crc_Blocks.f (k + 1) a0 a1) := fun _ _ _ => LeO.refl _

def ckData (l : List Int) (x : Ck l.length) : List Int := (l.drop x.1.1).take x.1.2
theorem ckData_length (l : List Int) (x : Ck l.length) : (ckData l x).length = x.1.2 := by
  obtain ⟨⟨i, m⟩, h1, h2, h3⟩ := x
  simp only [ckData, List.length_take, List.length_drop] at *
  omega
theorem ckData_C {w : World} {ad : Addr} {l : List Int} (h : Kd.C (Kd.int .u8) w (some ad) l.length l) (x : Ck l.length) : Kd.C (Kd.int .u8) w (some (ad.add x.1.1)) (ckData l x).length (ckData l x) := by
  have h1 := Kd.C_drop (m := x.1.1) (c := l.length + 1) h (by have := x.2.1; omega) (by omega)
  rw [if_neg (by have := x.2.1; omega)] at h1
  have h2 := Kd.C_take (m := x.1.2) h1 (by rw [List.length_drop]; have := x.2.2.2; omega)
  have e : x.1.1 * (Kd.int .u8).sz = x.1.1 := Nat.mul_one _
  rw [e] at h2
  exact h2

theorem chunk_stops (F : Fence) (n : Nat) (h7 : F.fn 24) (hro : F.round = none) (hn : 1 ≤ n) (Bs Bn : Nat) (ad : Addr) (len cap sz : Nat) (hsz : 0 < sz) (hszm : sz ≤ 9223372036854775807) (hlen : 0 < len) (hlenm : len ≤ 1000) (hcap : len ≤ cap) (w : World)
    (hcs : Boxed w Bs 23 (.slice (some ad) len cap)) (hcn : Boxed w Bn 3 (.int .i64 sz)) :
    SeqStopsK F n Tryd.prog 24 #[.pointer (some ⟨Bs, 0, none⟩), .pointer (some ⟨Bn, 0, none⟩)] (fun x : Ck len => #[Value.slice (some (ad.add x.1.1)) x.1.2 x.1.2]) (KB Bs Bn (.slice (some ad) len cap) (.int .i64 sz))
      (fun ys => ys = upto (ck len sz hsz hlen) (cnt len sz)) (fun pre => ∃ k, k ≤ cnt len sz ∧ pre = upto (ck len sz hsz hlen) k) (cnt len sz) w := fun l J Jx W hW hJ _ hY h0 =>
  chunk1_in F n h7 hro hn l Bs Bn ad len cap sz hsz hszm hlen hlenm hcap J Jx hY W ((hW.block _ hcs.lt).trans hcs) ((hW.block _ hcn.lt).trans hcn)
    (fun s W n h => hJ s W _ none h ⟨rfl, rfl, rfl, Nat.le_refl _, fun _ _ _ => rfl⟩ (fun r e => by cases e)) h0

theorem any_append_own {F : Fence} {n : Nat} {P : Program} (w : World) {md : Region.Mode} {ops : Array Oper} {fuel : Nat} {listed : Array Bool} {k : Nat} {o : Oper} {a : Act} {Q : Exit → Act → World → Prop}
    (hr : Region.ready md ops listed = [k]) (ho : ops[k]? = some o) (hw : Region.wanted o (yielded ops a.tmps) = true) (s x : Operand) (t : TypeId) (hop : o.op = Op.call { callee := Callee.builtin Builtin.append, args := #[s, x], argTypes := #[t, t] })
    (base : Nat) (e : TypeId) (i : TypeInfo) (z : Value) (size bytes : Nat) (h1 : P.underlying t = some (.slice e)) (h2 : P.info? e = some i) (h3 : i.zero = some z) (h4 : i.size = size) (h5 : i.bytes = bytes) (h6 : z.cells.size = size) (h7 : 0 < size)
    (v : Value) (c0 : Nat) (xs : List Value) (hs : a.eval s = v) (hown : w.ownsRow base e size v c0 xs) (ad : Addr) (m c : Nat) (news : List Value) (hx : a.eval x = .slice (some ad) m c) (hn : news.length = m * size)
    (hc : ∀ j u, news[j]? = some u → w.cell? (ad.add j) = some u) (h1c : ∀ u ∈ news, u.oneCell' = true) (b1 : c0 + m ≤ maxLen) (b2 : (c0 + m) * bytes ≤ 140737488355328) (b3 : base ≤ w.heap.size)
    (hK : ∀ v' w', w'.ownsRow base e size v' (c0 + m) (xs ++ news) → w.grownBy w' v.ownBlock → wpAnyIn F n P md ops Q fuel (listed.setIfInBounds k true) (a.put o.dst v') w') :
    wpAnyIn F n P md ops Q (fuel + 1) listed a w := by
  refine wpAnyIn_ready hr (by simp) (AllReadyIn.cons ho (fun K hK' => ?_) AllReadyIn.nil)
  rw [if_pos hw]
  obtain ⟨v', w', hrun, r1, r2, r3⟩ := run_append_own (P := P) w base t o.type e i z size bytes h1 h2 h3 h4 h5 h6 h7 v c0 xs hown ad m c news hn hc h1c b1 b2 b3
  unfold Oper.wpIn
  refine ⟨?_, ?_⟩
  · simp [Oper.about, hop, resolve, Target.leads, Sem.run_pure]
  · rw [Oper.semAt_plain F _ _ (by rw [hop]; intro c hc'; cases hc')]
    simp [execOp, hop, resolve, invoke, builtin, hs, hx, hrun, Result.andThen]
    exact hK' _ _ (hK v' w' r1 r2)

theorem kb_appended {W w1 : World} {Bs Bn B : Nat} {sv nv : Value} {n₀ size k : Nat} {v : Value} {xs : List Value} {tmp : Obj} (hs : Bs ≠ B) (hn : Bn ≠ B) (hrow : W.ownsRow n₀ 22 size v k xs) (hgrow : (W.alloc tmp).grownBy w1 v.ownBlock) (u : Value) :
    KB Bs Bn sv nv W (w1.setCell ⟨B, 0, none⟩ u) :=
  ⟨fun x => ((x.alloc tmp).kept hgrow (x.not_row (by decide) hrow)).other hs u, fun x => ((x.alloc tmp).kept hgrow (x.not_row (by decide) hrow)).other hn u⟩
theorem keeps_drewN (W : World) (n B : Nat) : KeepsFrom B W (W.drewN n) := KeepsFrom.of_grownBy (row := none) ⟨rfl, rfl, rfl, Nat.le_refl _, fun _ _ _ => rfl⟩ (fun j e => by cases e)

theorem sum_ck {w W : World} {ad : Addr} {l0 : List Int} (h : Kd.C (Kd.int .u8) w (some ad) l0.length l0) (x : Ck l0.length) (HT : HTab w) (hB : Below w.heap.size w W) :
    CallsIn Fence.wide 0 Tryd.prog 11 #[.slice (some (ad.add x.1.1)) x.1.2 x.1.2] W fun e w' => e = .returned (.int .u32 (updI 0 (ckData l0 x))) ∧ Drawn0 W w' := by
  refine callsIn_wide.2 ?_
  have h1 := crc_Sum.calls0 0 _ (ckData l0 x).length (ckData l0 x) _ W (Kd.C_below (ckData_C h x) hB) (Nat.le_refl _) rfl ⟨HT.out.below hB⟩
  rwa [ckData_length] at h1

set_option maxRecDepth 100000 in
set_option maxHeartbeats 4000000 in
theorem blocks_some (ad : Addr) (c0 : Nat) (l0 : List Int) (sz : Nat) (w : World) (hr0 : Kd.C (Kd.int .u8) w (some ad) l0.length l0) (hc0 : l0.length ≤ c0) (hsz : 0 < sz) (hszm : sz ≤ 9223372036854775807) (hlen : 0 < l0.length) (hlenm : l0.length ≤ 1000) (HT : HTab w) :
    Calls Tryd.prog 14 #[.slice (some ad) l0.length c0, .int .i64 sz] w fun e w' => ∃ v0_ : Value, e = .returned (v0_) ∧ Kd.R (Kd.int .u32) 22 w' w.heap.size (fun _ => True) v0_ (blocksI l0 sz) ∧ Below w.heap.size w w' := by
  obtain ⟨i0, hi, hz0, hz1, hz2⟩ := info_parts info22
  have HR0 := Aside0.mk hr0
  clear hr0
  refine (callsIn_wide (n := 3)).1 ?_
  have hro : Fence.wide.round = none := rfl
  refine callsIn_of_wp_marks Tryd.func14 rfl trivial ?_ hro
  simp only [Tryd.ntmps14, List.size_toArray, List.length_cons, List.length_nil, Nat.reduceAdd, Nat.reduceSub, Array.replicate_succ, Array.replicate_zero, List.push_toArray, List.append_toArray, List.nil_append, List.cons_append]
  have hd1 : decide ((sz : Int) < 1) = false := by simp; omega
  gi_wp2_with (refine ⟨trivial, ?_⟩; gi_at_call 20; refine (chunk_in Fence.wide 2 trivial hro _ _ _ (sz : Int) (by omega) _).mono ?_; rintro e w' ⟨rfl, rfl⟩)
  have bO := Boxed.new w 28 (.slice none 0 0)
  have bS := Boxed.new (w.alloc (.cells #[.slice none 0 0] 28)) 23 (.slice (some ad) l0.length c0)
  rw [World.size_alloc] at bS
  have bN := Boxed.new ((w.alloc (.cells #[.slice none 0 0] 28)).alloc (.cells #[.slice (some ad) l0.length c0] 23)) 3 (.int .i64 sz)
  rw [World.size_alloc, World.size_alloc] at bN
  have hB0 : Below w.heap.size w (((w.alloc (.cells #[.slice none 0 0] 28)).alloc (.cells #[.slice (some ad) l0.length c0] 23)).alloc (.cells #[.int .i64 sz] 3)) := (((Below.refl _ w).alloc (Nat.le_refl _) _).alloc (by simp) _).alloc (by simp; omega) _
  refine wpIn_rangeFunc_ownG hro (by decide) (gf := 24) (lb := #[.pointer (some ⟨w.heap.size + 1, 0, none⟩), .pointer (some ⟨w.heap.size + 1 + 1, 0, none⟩)]) rfl trivial (enters_of Tryd.func24 (by kernel_rfl) rfl)
    (chunk_stops Fence.wide 2 trivial hro (by omega) (w.heap.size + 1) (w.heap.size + 1 + 1) ad l0.length c0 sz hsz hszm hlen hlenm hc0 _ (bS.alloc _) bN) KB.t (KB.b (by simp) (by simp)) (Below.refl _ _) (fun _ => rfl)
    (fun pre W => (∃ v, Boxed W w.heap.size 28 v ∧ W.ownsRow w.heap.size 22 1 v pre.length (pre.map fun x => Value.int .u32 (updI 0 (ckData l0 x))) ∧ True) ∧ Below w.heap.size w W)
    (fun _ _ _ => False)
    (OwnFrom.and (Own.from (holdsRow_own w.heap.size w.heap.size 28 22 1 (fun pre : List (Ck l0.length) => pre.length) (fun pre => pre.map fun x => Value.int .u32 (updI 0 (ckData l0 x))) (fun _ _ => True)) _) (ownFrom_below (Nat.le_refl _) (by simp; omega)))
    (fun _ _ _ _ _ hs _ _ => hs)
    ⟨⟨_, (bO.alloc _).alloc _, World.ownsRow_nil _ _ _ _, trivial⟩, hB0⟩
    (fun x => { tmps := #[.slice (some ad) l0.length c0, .int .i64 sz, undef, undef, .slice none 0 0, .pointer (some ⟨w.heap.size, 0, none⟩), .slice (some (ad.add x.1.1)) x.1.2 x.1.2, .int .i64 sz, .bool false, .slice (some ad) l0.length c0, .int .i64 sz, .func (.func 24) #[] #[.pointer (some ⟨w.heap.size + 1, 0, none⟩), .pointer (some ⟨w.heap.size + 1 + 1, 0, none⟩)], .slice (some (ad.add x.1.1)) x.1.2 x.1.2, undef, undef, undef, undef, undef, undef], defers := [] }) ?assign ?body ?done ?stop
  case assign =>
    intro l x W K hK
    gi_wp2
    exact hK
  case body =>
    rintro l pre x W ⟨⟨v, hv, hrow, _⟩, hB⟩ hlt
    have hc := hv.cell
    have HS := Aside0.mk (fun m => sum_ck HR0.out x HT (W := W.drewN m) (pw_below_drewN hB m))
    have hd : 1 ≤ 3 - 1 - 1 := by omega
    have hmx : Tryd.prog.follows .mixedOrders = true := by kernel_rfl
    gi_wp2
    refine wpIn_region_any hmx ?_
    change wpAnyIn _ _ _ _ _ _ _ _ _ (World.drew _)
    have hplen : pre.length < 1000 := by have := cnt_lt (len := l0.length) (n := sz) (k := pre.length) hsz; have := this.1 hlt; have := Nat.le_mul_of_pos_right pre.length hsz; omega
    refine wpAnyIn_ready (rs := [0, 1]) (by kernel_rfl) (by simp) ?_; refine AllReadyIn.cons rfl (fun K hK => ?_) (AllReadyIn.cons rfl (fun K hK => ?_) AllReadyIn.nil)
    · go_simp; refine hK _ _ ?_; clear hK K; refine wpAnyIn_ready (rs := [1]) (by kernel_rfl) (by simp) ?_; refine AllReadyIn.cons rfl (fun K hK => ?_) AllReadyIn.nil; go_simp; refine hK _ _ ?_; clear hK K; refine wpAnyIn_ready (rs := [2]) (by kernel_rfl) (by simp) ?_; refine AllReadyIn.cons rfl (fun K hK => ?_) AllReadyIn.nil; go_simp; refine ⟨trivial, ?_⟩; gi_at_call 11; refine (CallsIn.inRound l (HS.out 1)).mono ?_; rintro e w' ⟨rfl, ⟨nd, rfl⟩⟩; refine hK _ _ ?_; clear hK K; refine wpAnyIn_ready (rs := [3]) (by kernel_rfl) (by simp) ?_; refine AllReadyIn.cons rfl (fun K hK => ?_) AllReadyIn.nil; go_simp; refine hK _ _ ?_; clear hK K
      refine any_append_own (k := 4) ((W.drewN (1 + nd)).alloc (.cells #[.int .u32 (updI 0 (ckData l0 x))] 22)) (by kernel_rfl) rfl rfl (.tmp 13) (.tmp 16) 28 rfl w.heap.size 22 i0 (.int .u32 0) 1 4 Tryd.underlying28 hi hz0 hz1 hz2 rfl (by decide) v pre.length _ rfl ((hrow : (W.drewN (1 + nd)).ownsRow _ _ _ _ _ _).alloc _) ⟨W.heap.size, 0, none⟩ 1 1 [.int .u32 (updI 0 (ckData l0 x))] rfl rfl (cell_one_new (W.drewN (1 + nd)) _ _) (by simp [Value.oneCell']) (by unfold maxLen; omega) (by omega) (by have := hB.size; simp; omega) ?_
      intro v' w1 hown' hgrow
      obtain ⟨g', cap', rfl⟩ := ownsRow_succ hown'
      obtain ⟨hv1, hv2, hr2, hk2, hb2⟩ := Boxed.appended (W := W.drewN (1 + nd)) hv (by decide) hrow hB.size (Nat.le_refl _) hown' hgrow
      have hc1 := hv1.cell
      have hf1 := hv1.frozen
      have hKB := kb_appended (B := w.heap.size) (Bs := w.heap.size + 1) (Bn := w.heap.size + 1 + 1) (sv := .slice (some ad) l0.length c0) (nv := .int .i64 sz) (W := W.drewN (1 + nd)) (by omega) (by omega) hrow hgrow (.slice (some ⟨g', 0, none⟩) (pre.length + 1) cap')
      have hwd : Below w.heap.size W (W.drewN (1 + nd)) := pw_below_drewN (Below.refl _ _) _
      refine wpAnyIn_ready (rs := [5]) (by kernel_rfl) (by simp) ?_; refine AllReadyIn.cons rfl (fun K hK => ?_) AllReadyIn.nil; go_simp; refine hK _ _ ?_; clear hK K
      refine wpAnyIn_done (by kernel_rfl) ?_ _
      refine ⟨?_, ?_, ⟨⟨_, hv2, ?_, trivial⟩, ?_⟩⟩
      · exact (keeps_drewN W (1 + nd) _).trans (hk2.from _)
      · exact hKB
      · simpa using hr2
      · exact (hB.trans hwd).trans hb2
    · go_simp; refine hK _ _ ?_; clear hK K; refine wpAnyIn_ready (rs := [0, 2]) (by kernel_rfl) (by simp) ?_; refine AllReadyIn.cons rfl (fun K hK => ?_) (AllReadyIn.cons rfl (fun K hK => ?_) AllReadyIn.nil)
      · go_simp; refine hK _ _ ?_; clear hK K; refine wpAnyIn_ready (rs := [2]) (by kernel_rfl) (by simp) ?_; refine AllReadyIn.cons rfl (fun K hK => ?_) AllReadyIn.nil; go_simp; refine ⟨trivial, ?_⟩; gi_at_call 11; refine (CallsIn.inRound l (HS.out 1)).mono ?_; rintro e w' ⟨rfl, ⟨nd, rfl⟩⟩; refine hK _ _ ?_; clear hK K; refine wpAnyIn_ready (rs := [3]) (by kernel_rfl) (by simp) ?_; refine AllReadyIn.cons rfl (fun K hK => ?_) AllReadyIn.nil; go_simp; refine hK _ _ ?_; clear hK K
        refine any_append_own (k := 4) ((W.drewN (1 + nd)).alloc (.cells #[.int .u32 (updI 0 (ckData l0 x))] 22)) (by kernel_rfl) rfl rfl (.tmp 13) (.tmp 16) 28 rfl w.heap.size 22 i0 (.int .u32 0) 1 4 Tryd.underlying28 hi hz0 hz1 hz2 rfl (by decide) v pre.length _ rfl ((hrow : (W.drewN (1 + nd)).ownsRow _ _ _ _ _ _).alloc _) ⟨W.heap.size, 0, none⟩ 1 1 [.int .u32 (updI 0 (ckData l0 x))] rfl rfl (cell_one_new (W.drewN (1 + nd)) _ _) (by simp [Value.oneCell']) (by unfold maxLen; omega) (by omega) (by have := hB.size; simp; omega) ?_
        intro v' w1 hown' hgrow
        obtain ⟨g', cap', rfl⟩ := ownsRow_succ hown'
        obtain ⟨hv1, hv2, hr2, hk2, hb2⟩ := Boxed.appended (W := W.drewN (1 + nd)) hv (by decide) hrow hB.size (Nat.le_refl _) hown' hgrow
        have hc1 := hv1.cell
        have hf1 := hv1.frozen
        have hKB := kb_appended (B := w.heap.size) (Bs := w.heap.size + 1) (Bn := w.heap.size + 1 + 1) (sv := .slice (some ad) l0.length c0) (nv := .int .i64 sz) (W := W.drewN (1 + nd)) (by omega) (by omega) hrow hgrow (.slice (some ⟨g', 0, none⟩) (pre.length + 1) cap')
        have hwd : Below w.heap.size W (W.drewN (1 + nd)) := pw_below_drewN (Below.refl _ _) _
        refine wpAnyIn_ready (rs := [5]) (by kernel_rfl) (by simp) ?_; refine AllReadyIn.cons rfl (fun K hK => ?_) AllReadyIn.nil; go_simp; refine hK _ _ ?_; clear hK K
        refine wpAnyIn_done (by kernel_rfl) ?_ _
        refine ⟨?_, ?_, ⟨⟨_, hv2, ?_, trivial⟩, ?_⟩⟩
        · exact (keeps_drewN W (1 + nd) _).trans (hk2.from _)
        · exact hKB
        · simpa using hr2
        · exact (hB.trans hwd).trans hb2
      · go_simp; refine ⟨trivial, ?_⟩; gi_at_call 11; refine (CallsIn.inRound l (HS.out 1)).mono ?_; rintro e w' ⟨rfl, ⟨nd, rfl⟩⟩; refine hK _ _ ?_; clear hK K; refine wpAnyIn_ready (rs := [0, 3]) (by kernel_rfl) (by simp) ?_; refine AllReadyIn.cons rfl (fun K hK => ?_) (AllReadyIn.cons rfl (fun K hK => ?_) AllReadyIn.nil)
        · go_simp; refine hK _ _ ?_; clear hK K; refine wpAnyIn_ready (rs := [3]) (by kernel_rfl) (by simp) ?_; refine AllReadyIn.cons rfl (fun K hK => ?_) AllReadyIn.nil; go_simp; refine hK _ _ ?_; clear hK K
          refine any_append_own (k := 4) ((W.drewN (1 + nd)).alloc (.cells #[.int .u32 (updI 0 (ckData l0 x))] 22)) (by kernel_rfl) rfl rfl (.tmp 13) (.tmp 16) 28 rfl w.heap.size 22 i0 (.int .u32 0) 1 4 Tryd.underlying28 hi hz0 hz1 hz2 rfl (by decide) v pre.length _ rfl ((hrow : (W.drewN (1 + nd)).ownsRow _ _ _ _ _ _).alloc _) ⟨W.heap.size, 0, none⟩ 1 1 [.int .u32 (updI 0 (ckData l0 x))] rfl rfl (cell_one_new (W.drewN (1 + nd)) _ _) (by simp [Value.oneCell']) (by unfold maxLen; omega) (by omega) (by have := hB.size; simp; omega) ?_
          intro v' w1 hown' hgrow
          obtain ⟨g', cap', rfl⟩ := ownsRow_succ hown'
          obtain ⟨hv1, hv2, hr2, hk2, hb2⟩ := Boxed.appended (W := W.drewN (1 + nd)) hv (by decide) hrow hB.size (Nat.le_refl _) hown' hgrow
          have hc1 := hv1.cell
          have hf1 := hv1.frozen
          have hKB := kb_appended (B := w.heap.size) (Bs := w.heap.size + 1) (Bn := w.heap.size + 1 + 1) (sv := .slice (some ad) l0.length c0) (nv := .int .i64 sz) (W := W.drewN (1 + nd)) (by omega) (by omega) hrow hgrow (.slice (some ⟨g', 0, none⟩) (pre.length + 1) cap')
          have hwd : Below w.heap.size W (W.drewN (1 + nd)) := pw_below_drewN (Below.refl _ _) _
          refine wpAnyIn_ready (rs := [5]) (by kernel_rfl) (by simp) ?_; refine AllReadyIn.cons rfl (fun K hK => ?_) AllReadyIn.nil; go_simp; refine hK _ _ ?_; clear hK K
          refine wpAnyIn_done (by kernel_rfl) ?_ _
          refine ⟨?_, ?_, ⟨⟨_, hv2, ?_, trivial⟩, ?_⟩⟩
          · exact (keeps_drewN W (1 + nd) _).trans (hk2.from _)
          · exact hKB
          · simpa using hr2
          · exact (hB.trans hwd).trans hb2
        · go_simp; refine hK _ _ ?_; clear hK K
          have hca := (Boxed.alloc (W := W.drewN (1 + nd)) hv (.cells #[.int .u32 (updI 0 (ckData l0 x))] 22)).cell
          refine wpAnyIn_ready (rs := [0]) (by kernel_rfl) (by simp) ?_; refine AllReadyIn.cons rfl (fun K hK => ?_) AllReadyIn.nil; go_simp; refine hK _ _ ?_; clear hK K; clear hca
          refine any_append_own (k := 4) ((W.drewN (1 + nd)).alloc (.cells #[.int .u32 (updI 0 (ckData l0 x))] 22)) (by kernel_rfl) rfl rfl (.tmp 13) (.tmp 16) 28 rfl w.heap.size 22 i0 (.int .u32 0) 1 4 Tryd.underlying28 hi hz0 hz1 hz2 rfl (by decide) v pre.length _ rfl ((hrow : (W.drewN (1 + nd)).ownsRow _ _ _ _ _ _).alloc _) ⟨W.heap.size, 0, none⟩ 1 1 [.int .u32 (updI 0 (ckData l0 x))] rfl rfl (cell_one_new (W.drewN (1 + nd)) _ _) (by simp [Value.oneCell']) (by unfold maxLen; omega) (by omega) (by have := hB.size; simp; omega) ?_
          intro v' w1 hown' hgrow
          obtain ⟨g', cap', rfl⟩ := ownsRow_succ hown'
          obtain ⟨hv1, hv2, hr2, hk2, hb2⟩ := Boxed.appended (W := W.drewN (1 + nd)) hv (by decide) hrow hB.size (Nat.le_refl _) hown' hgrow
          have hc1 := hv1.cell
          have hf1 := hv1.frozen
          have hKB := kb_appended (B := w.heap.size) (Bs := w.heap.size + 1) (Bn := w.heap.size + 1 + 1) (sv := .slice (some ad) l0.length c0) (nv := .int .i64 sz) (W := W.drewN (1 + nd)) (by omega) (by omega) hrow hgrow (.slice (some ⟨g', 0, none⟩) (pre.length + 1) cap')
          have hwd : Below w.heap.size W (W.drewN (1 + nd)) := pw_below_drewN (Below.refl _ _) _
          refine wpAnyIn_ready (rs := [5]) (by kernel_rfl) (by simp) ?_; refine AllReadyIn.cons rfl (fun K hK => ?_) AllReadyIn.nil; go_simp; refine hK _ _ ?_; clear hK K
          refine wpAnyIn_done (by kernel_rfl) ?_ _
          refine ⟨?_, ?_, ⟨⟨_, hv2, ?_, trivial⟩, ?_⟩⟩
          · exact (keeps_drewN W (1 + nd) _).trans (hk2.from _)
          · exact hKB
          · simpa using hr2
          · exact (hB.trans hwd).trans hb2
  case done =>
    rintro D ys W hD rfl ⟨⟨v, hv, hrow, _⟩, hB⟩ hK
    have hc := hv.cell
    gi_wp2
    refine ⟨by simp, .inl ⟨_, _, rfl, run_takeDeferred hK, ?_⟩⟩
    refine ⟨_, results_tmp rfl _ _ _, v, rfl, ?_, hB.trans (belowK_b (w := w) (Nat.le_refl _) W D _ _ (by simp at hD; omega) hK rfl rfl)⟩
    have ho := ownsRow_putObj hrow (.deferred none) hK rfl
    have he : (upto (ck l0.length sz hsz hlen) (cnt l0.length sz)).map (fun x => Value.int .u32 (updI 0 (ckData l0 x))) = encs (Value.int .u32) (blocksI l0 sz) := by
      unfold upto encs blocksI
      rw [List.map_map, List.map_map]
      refine List.map_congr_left fun k hk => ?_
      have hk' := (cnt_lt hsz).1 (List.mem_range.1 hk)
      simp only [Function.comp, ckData, ck_val hsz hlen hk']
      have e : (l0.drop (k * sz)).take (min sz (l0.length - k * sz)) = (l0.drop (k * sz)).take sz := by
        rcases Nat.le_total sz (l0.length - k * sz) with h | h
        · rw [Nat.min_eq_left h]
        · rw [Nat.min_eq_right h, List.take_of_length_le (by simp), List.take_of_length_le (by simpa using h)]
      rw [e]
    rw [he, upto_length] at ho
    refine Kd.R_of_own ?_ (fun _ _ => trivial)
    rw [show (blocksI l0 sz).length = cnt l0.length sz by simp [blocksI]]
    exact ho
  case stop =>
    rintro D c pre W _ _ h _
    exact h.elim

set_option maxRecDepth 100000 in
set_option maxHeartbeats 4000000 in
theorem blocks_none (A0 : Option Addr) (c0 : Nat) (sz : Int) (w : World) (hsz : 1 ≤ sz) :
    Calls Tryd.prog 14 #[.slice A0 0 c0, .int .i64 sz] w fun e w' => ∃ v0_ : Value, e = .returned (v0_) ∧ Kd.R (Kd.int .u32) 22 w' w.heap.size (fun _ => True) v0_ [] ∧ Below w.heap.size w w' := by
  refine (callsIn_wide (n := 3)).1 ?_
  have hro : Fence.wide.round = none := rfl
  refine callsIn_of_wp_marks Tryd.func14 rfl trivial ?_ hro
  simp only [Tryd.ntmps14, List.size_toArray, List.length_cons, List.length_nil, Nat.reduceAdd, Nat.reduceSub, Array.replicate_succ, Array.replicate_zero, List.push_toArray, List.append_toArray, List.nil_append, List.cons_append]
  have hd1 : decide (sz < 1) = false := by simp; omega
  gi_wp2_with (refine ⟨trivial, ?_⟩; gi_at_call 20; refine (chunk_in Fence.wide 2 trivial hro _ _ _ sz (by omega) _).mono ?_; rintro e w' ⟨rfl, rfl⟩)
  have bO := Boxed.new w 28 (.slice none 0 0)
  have bS := Boxed.new (w.alloc (.cells #[.slice none 0 0] 28)) 23 (.slice A0 0 c0)
  rw [World.size_alloc] at bS
  have hB0 : Below w.heap.size w (((w.alloc (.cells #[.slice none 0 0] 28)).alloc (.cells #[.slice A0 0 c0] 23)).alloc (.cells #[.int .i64 sz] 3)) := (((Below.refl _ w).alloc (Nat.le_refl _) _).alloc (by simp) _).alloc (by simp; omega) _
  refine wpIn_rangeFunc_ownG (α := Unit) (S := fun xs => xs = []) (Sp := fun _ => False) (N := 0) (Kp := fun _ _ => True) (encs := fun _ => #[.slice none 0 0]) hro (by decide) (gf := 24) (lb := #[.pointer (some ⟨w.heap.size + 1, 0, none⟩), .pointer (some ⟨w.heap.size + 1 + 1, 0, none⟩)]) rfl trivial (enters_of Tryd.func24 (by kernel_rfl) rfl)
    (fun l J Jx W hW _ _ _ h0 => (chunk0_in Fence.wide 2 trivial hro l _ _ A0 c0 J W (Boxed.cell ((hW.block _ (bS.alloc _).lt).trans (bS.alloc (.cells #[.int .i64 sz] 3)))) h0).mono fun e W' h => ⟨h.1, .inl ⟨_, rfl, h.2⟩⟩) (fun _ _ => trivial) (fun _ _ _ _ _ _ _ _ => trivial) (Below.refl _ _) (fun _ => rfl)
    (fun pre W => Boxed W w.heap.size 28 (.slice none 0 0) ∧ Below w.heap.size w W)
    (fun _ _ _ => False)
    (OwnFrom.and (Own.from (boxed_own w.heap.size 28 (fun _ => .slice none 0 0)) _) (ownFrom_below (Nat.le_refl _) (by simp; omega)))
    (fun _ _ _ _ _ hs _ _ => hs)
    ⟨(bO.alloc _).alloc _, hB0⟩
    (fun x => { tmps := #[.slice A0 0 c0, .int .i64 sz, undef, undef, .slice none 0 0, .pointer (some ⟨w.heap.size, 0, none⟩), .slice none 0 0, .int .i64 sz, .bool false, .slice A0 0 c0, .int .i64 sz, .func (.func 24) #[] #[.pointer (some ⟨w.heap.size + 1, 0, none⟩), .pointer (some ⟨w.heap.size + 1 + 1, 0, none⟩)], .slice none 0 0, undef, undef, undef, undef, undef, undef], defers := [] }) ?assign ?body ?done ?stop
  case assign =>
    intro l x W K hK
    gi_wp2
    exact hK
  case body =>
    intro l pre x W _ hlt
    exact absurd hlt (by omega)
  case done =>
    rintro D ys W hD rfl ⟨hv, hB⟩ hK
    have hc := hv.cell
    gi_wp2
    refine ⟨by simp, .inl ⟨_, _, rfl, run_takeDeferred hK, ?_⟩⟩
    exact ⟨_, results_tmp rfl _ _ _, _, rfl, Kd.R_nil _ _ _ _ _, hB.trans (belowK_b (w := w) (Nat.le_refl _) W D _ _ (by simp at hD; omega) hK rfl rfl)⟩
  case stop =>
    rintro D c pre W _ h _ _
    exact h.elim

set_option maxHeartbeats 1000000 in
theorem crc_Blocks.calls (k : Nat) (A0 : Option Addr) (c0 : Nat) (l0 : List Int) (a1 : Int) (r : List Int) (w : World) (hr0 : Kd.C (Kd.int .u8) w A0 l0.length l0) (hc0 : l0.length ≤ c0) (h : crc_Blocks.f k l0 a1 = some r) (HT : HTab w) :
    Calls Tryd.prog 14 #[.slice A0 l0.length c0, .int .i64 a1] w fun e w' => ∃ v0_ : Value, e = .returned (v0_) ∧ Kd.R (Kd.int .u32) 22 w' w.heap.size (fun _ => True) v0_ r ∧ Below w.heap.size w w' := by
  unfold crc_Blocks.f at h
  by_cases h1 : a1 < 1
  · rw [if_pos h1] at h
    obtain rfl := Option.some.inj h
    clear h hr0
    have hd1 : decide (a1 < 1) = true := decide_eq_true h1
    go_enter Tryd.func14, Tryd.ntmps14
    go_wp2
    go_ret
    exact ⟨_, rfl, Kd.R_nil _ _ _ _ _, Below.refl _ _⟩
  · rw [if_neg h1] at h
    by_cases h2 : a1 ≤ 9223372036854775807 ∧ l0.length ≤ 1000
    · rw [if_pos h2] at h
      obtain rfl := Option.some.inj h
      obtain ⟨n, rfl⟩ := Int.eq_ofNat_of_zero_le (show 0 ≤ a1 by omega)
      rw [Int.toNat_natCast]
      rcases Nat.eq_zero_or_pos l0.length with e | e
      · obtain rfl := List.length_eq_zero_iff.1 e
        have hz : blocksI [] n = [] := by
          unfold blocksI cnt
          rw [List.length_nil, Nat.zero_add, Nat.div_eq_of_lt (by omega)]; rfl
        rw [hz]
        exact blocks_none A0 c0 n w (by omega)
      · obtain ⟨ad, rfl, _⟩ := hr0.2.2 e
        exact blocks_some ad c0 l0 n w hr0 hc0 (by omega) (by omega) e h2.2 HT
    · rw [if_neg h2] at h
      cases h
end Go.Proofs.YtghnaoppelndkaaDoor.Q
