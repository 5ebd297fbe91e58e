/- Lemmas and walks for TableRuns, packed. -/
import Derived.Test.YtjnpkcabkccaoaaGreatQ5
import Derived.Test.YtjnpkcabkccaoaaGreatQ2
import Derived.Test.YtjnpkcabkccaoaaGreatQ1
import Derived.RangeFuncNested
import Derived.RangeFuncBox
import Derived.RangeFuncLeaves
import Derived.Shelf.Abstract
import Derived.OwnWalkIn
import Derived.TacticsInMore
import Derived.LoopNIn
import Derived.LoopIn
set_option maxRecDepth 100000
set_option maxHeartbeats 16000000
namespace Go.Proofs.YtjnpkcabkccaoaaGreat
open Go.RowKit Go.Shelf

attribute [local go_sem] Oper.semAt_some
abbrev IB := { x : Nat × Int // 0 ≤ x.2 ∧ x.2 ≤ 255 }
def upto {α : Type} (f : Nat → α) (k : Nat) : List α := (List.range k).map f
theorem upto_succ {α : Type} (f : Nat → α) (k : Nat) : upto f (k + 1) = upto f k ++ [f k] := by simp [upto, List.range_succ]
theorem upto_length {α : Type} (f : Nat → α) (k : Nat) : (upto f k).length = k := by simp [upto]
def byteAt (bs : List Int) (h : Byt bs) (i : Nat) : { x : Int // 0 ≤ x ∧ x ≤ 255 } :=
 if hi : i < bs.length then ⟨bs[i], h _ (List.getElem_mem hi)⟩ else ⟨0, by omega⟩
theorem byteAt_get (bs : List Int) (h : Byt bs) (i : Nat) (hi : i < bs.length) : bs[i]? = some (byteAt bs h i).1 := by
 simp [byteAt, hi]
def backAt (bs : List Int) (h : Byt bs) (k : Nat) : IB := ⟨(bs.length - 1 - k, (byteAt bs h (bs.length - 1 - k)).1), (byteAt bs h (bs.length - 1 - k)).2⟩
def encIB (x : IB) : Array Value := #[.int .i64 (x.1.1 : Int), .int .u8 x.1.2]

def KpX (X : Nat) (A B : World) : Prop := ∀ i o, i ≠ X → A.heap[i]? = some o → o.isCells = true → B.heap[i]? = some o
theorem KpX.refl (X : Nat) (A : World) : KpX X A A := fun _ _ _ h _ => h
theorem KpX.trans {X : Nat} {A B C : World} (h : KpX X A B) (k : KpX X B C) : KpX X A C := fun i o hi ho hc => k i o hi (h i o hi ho hc) hc
theorem KpX.put {X : Nat} (W : World) (l : Nat) (o o' : Obj) (h : W.heap[l]? = some o) (hc : o.isCells = false) : KpX X W (W.putObj l o') := fun i p hi hp hpc => by
 have hne : i ≠ l := by
  rintro rfl
  rw [h] at hp
  injection hp with hp
  subst hp
  rw [hc] at hpc
  cases hpc
 have hg := grownBy_putObj' W l o'
 exact (hg.block i (Array.getElem?_eq_some_iff.1 hp).1 (fun e => by injection e with e; exact hne e)).trans hp
theorem KpX.cell {X : Nat} {A B : World} (h : KpX X A B) {p : Addr} {v : Value} (hp : p.block ≠ X) (hv : A.cell? p = some v) : B.cell? p = some v := by
 have : ∃ o, A.heap[p.block]? = some o ∧ o.isCells = true := by
  unfold World.cell? at hv
  split at hv
  ·rename_i c t m ho
   exact ⟨_, ho, rfl⟩
  ·cases hv
 obtain ⟨o, ho, hc⟩ := this
 exact (World.cell?_of_block (w := A) ((h p.block o hp ho hc).trans ho.symm)).trans hv
theorem KpX.set (X : Nat) (A : World) (o : Nat) (v : Value) : KpX X A (A.setCell ⟨X, o, none⟩ v) := fun i _ hi hp _ => (Below.heap_setCell A ⟨X, o, none⟩ v i hi).trans hp
theorem back1_in (F : Fence) (n : Nat) (h7 : F.fn 135) (hro : F.round = none) (hn : 1 ≤ n) (l Bs X b off cap : Nat) (bs : List Int) (hby : Byt bs) (hreach : bs.length ≤ 1000000000) (hb : b ≠ X) (J Jx : List IB → World → Prop)
  (hY : ∀ pre x W, J pre W → pre.length < bs.length → YieldAt F (n - 1) Tryz.prog l (encIB x) W fun e W' =>
   (e = .returned (.bool true) ∧ J (pre ++ [x]) W' ∧ KpX X W W') ∨ (e = .returned (.bool false) ∧ Jx (pre ++ [x]) W'))
  (W : World) (hBn : Bs ≠ X) (hBs : W.cell? ⟨Bs, 0, none⟩ = some (.slice (some ⟨b, off, none⟩) bs.length cap)) (hc : ∀ (j : Nat) (v : Int), bs[j]? = some v → W.cell? ⟨b, off + j, none⟩ = some (.int .u8 v)) (h0 : J [] W) :
  CallsIn F n Tryz.prog 135 #[.func (.yield l) #[] #[], .pointer (some ⟨Bs, 0, none⟩)] W fun e W' => (∃ v, e = .returned v) ∧
   ((∃ ys, ys = upto (backAt bs hby) bs.length ∧ J ys W') ∨ (∃ pre, Jx pre W')) := by
 have HC := hide hc
 clear hc
 refine callsIn_of_wp Tryz.func135 rfl h7 ?_ hro
 simp only [Tryz.ntmps135, List.size_toArray, List.length_cons, List.length_nil, Nat.reduceAdd, Nat.reduceSub, Array.replicate_succ, Array.replicate_zero, List.push_toArray, List.append_toArray, List.nil_append, List.cons_append]
 gi_wp2
 gi_loopw [3] (fun i wr => ∃ r : Nat, r ≤ bs.length ∧ i = .int .i64 ((r : Int) - 1) ∧ J (upto (backAt bs hby) (bs.length - r)) wr ∧ KpX X W wr)
  (fun i _ => (intOf i + 1).toNat)
 case atStart => exact ⟨bs.length, Nat.le_refl _, rfl, by simpa [upto] using h0, KpX.refl _ _⟩
 case round =>
  obtain ⟨r, hr, rfl, hJs, hnx⟩ := hrel
  have hBs2 : wr.cell? ⟨Bs, 0, none⟩ = some (.slice (some ⟨b, off, none⟩) bs.length cap) := hnx.cell (p := ⟨Bs, 0, none⟩) hBn hBs
  cases r with
  | zero =>
   have e : (((0 : Nat) : Int) - 1) = -1 := by omega
   rw [e]
   have hJ2 : J (upto (backAt bs hby) bs.length) wr := by simpa using hJs
   gi_wp2
   go_end0
   exact ⟨⟨_, rfl⟩, .inl ⟨_, rfl, hJ2⟩⟩
  | succ r =>
   have e : (((r + 1 : Nat) : Int) - 1) = (r : Int) := by omega
   rw [e]
   have hrl : r < bs.length := by omega
   have hback : backAt bs hby (bs.length - (r + 1)) = ⟨(r, (byteAt bs hby r).1), (byteAt bs hby r).2⟩ := by
    have : bs.length - 1 - (bs.length - (r + 1)) = r := by omega
    simp [backAt, this]
   have hup : upto (backAt bs hby) (bs.length - r) = upto (backAt bs hby) (bs.length - (r + 1)) ++ [⟨(r, (byteAt bs hby r).1), (byteAt bs hby r).2⟩] := by
    rw [← hback, ← upto_succ]; congr 1; omega
   have hcx : wr.cell? ⟨b, off + r, none⟩ = some (.int .u8 (byteAt bs hby r).1) := hnx.cell (p := ⟨b, off + r, none⟩) hb (HC.out r _ (byteAt_get bs hby r hrl))
   obtain ⟨fn, tmps, assign, body, hy, hR⟩ := hY _ ⟨(r, (byteAt bs hby r).1), (byteAt bs hby r).2⟩ wr hJs (by rw [upto_length]; omega)
   dsimp only [encIB] at hy hR
   have HU := hide hup
   generalize byteAt bs hby r = x at *
   have r0 : (0 : Int) ≤ (r : Int) := by omega
   clear hback hup e
   gi_wp2
   refine hR.mono ?_
   rintro e W3 (⟨rfl, hJ3, hk3⟩ | ⟨rfl, hJx3⟩)
   ·have hBs3 : W3.cell? ⟨Bs, 0, none⟩ = some (.slice (some ⟨b, off, none⟩) bs.length cap) := hk3.cell (p := ⟨Bs, 0, none⟩) hBn hBs2
    gi_wp2
    go_roundw
    case rel => exact ⟨r, by omega, rfl, by rw [HU.out]; exact hJ3, hnx.trans hk3⟩
    case measure => simp [intOf]
   ·gi_wp2
    refine bodyPost_ret (results_none rfl _ _ _) rfl ?_
    exact ⟨⟨_, rfl⟩, .inr ⟨_, hJx3⟩⟩
theorem back1_nil_in (F : Fence) (n : Nat) (h7 : F.fn 135) (hro : F.round = none) (l Bs : Nat) (A : Option Addr) (cap : Nat) (J : List IB → World → Prop) (W : World) (hBs : W.cell? ⟨Bs, 0, none⟩ = some (.slice A 0 cap)) (h0 : J [] W) :
  CallsIn F n Tryz.prog 135 #[.func (.yield l) #[] #[], .pointer (some ⟨Bs, 0, none⟩)] W fun e W' => (∃ v, e = .returned v) ∧ J [] W' := by
 refine callsIn_of_wp Tryz.func135 rfl h7 ?_ hro
 simp only [Tryz.ntmps135, List.size_toArray, List.length_cons, List.length_nil, Nat.reduceAdd, Nat.reduceSub, Array.replicate_succ, Array.replicate_zero, List.push_toArray, List.append_toArray, List.nil_append, List.cons_append]
 gi_wp2
 gi_loopw [3] (fun i wr => i = .int .i64 (-1) ∧ J [] wr) (fun _ _ => 0)
 case atStart => exact ⟨by simp, h0⟩
 case round =>
  obtain ⟨rfl, hJs⟩ := hrel
  gi_wp2
  go_end0
  exact ⟨⟨_, rfl⟩, hJs⟩
theorem back_in (F : Fence) (n : Nat) (h5 : F.fn 131) (hro : F.round = none) (a : Option Addr) (len cap : Nat) (w : World) :
  CallsIn F n Tryz.prog 131 #[.slice a len cap] w fun e w' => e = .returned (.func (.func 135) #[] #[.pointer (some ⟨w.heap.size, 0, none⟩)]) ∧ w' = w.alloc (.cells #[.slice a len cap] 23) := by
 refine callsIn_of_wp Tryz.func131 rfl h5 ?_ hro
 simp only [Tryz.ntmps131, List.size_toArray, List.length_cons, List.length_nil, Nat.reduceAdd, Nat.reduceSub, Array.replicate_succ, Array.replicate_zero, List.push_toArray, List.append_toArray, List.nil_append, List.cons_append]
 gi_wp2
 go_ret
 exact ⟨rfl, rfl⟩
theorem back_stops (F : Fence) (n : Nat) (h7 : F.fn 135) (hro : F.round = none) (hn : 1 ≤ n) (Bs X : Nat) (A : Option Addr) (cap : Nat) (bs : List Int) (hby : Byt bs) (hreach : bs.length ≤ 1000000000) (w : World) (hBs : Bs < w.heap.size) (hX : Bs ≠ X)
  (hc : w.cell? ⟨Bs, 0, none⟩ = some (.slice A bs.length cap)) (hI : Bys w A bs.length bs) (hA : 0 < bs.length → ∀ ad, A = some ad → ad.block ≠ X) :
  SeqStopsK F n Tryz.prog 135 #[.pointer (some ⟨Bs, 0, none⟩)] encIB (KpX X) (fun ys => ys = upto (backAt bs hby) bs.length) (fun _ => True) bs.length w := fun l J Jx W hW _ _ hY h0 => by
 have hc' := (hW.cell (p := ⟨Bs, 0, none⟩) hBs).trans hc
 have hI2 := hI.below hW
 by_cases hz : 0 < bs.length
 ·obtain ⟨b, off, rfl, hcs⟩ := hI2.2.2 hz
  refine (back1_in F n h7 hro hn l Bs X b off cap bs hby hreach (hA hz _ rfl) J Jx hY W hX hc' hcs h0).mono ?_
  rintro e W' ⟨he, ⟨ys, rfl, hj⟩ | ⟨pre, hj⟩⟩
  ·exact ⟨he, .inl ⟨_, rfl, hj⟩⟩
  ·exact ⟨he, .inr ⟨_, trivial, hj⟩⟩
 ·have e0 : bs.length = 0 := by omega
  rw [e0] at hc'
  refine (back1_nil_in F n h7 hro l Bs A cap J W hc' h0).mono fun e W' ⟨he, hj⟩ => ⟨he, .inl ⟨_, by rw [e0]; rfl, hj⟩⟩
def bnum : List IB → Nat
 | [] => 0
 | x :: l => x.1.2.toNat * 256 ^ l.length + bnum l
theorem bnum_lt (l : List IB) : bnum l < 256 ^ l.length := by
 induction l with
 | nil => simp [bnum]
 | cons x l ih =>
  simp only [bnum, List.length_cons, Nat.pow_succ]
  have h1 := x.2
  have h2 : x.1.2.toNat ≤ 255 := by omega
  have h3 := Nat.mul_le_mul_right (256 ^ l.length) h2
  omega
theorem bnum_snoc (l : List IB) (x : IB) : bnum (l ++ [x]) = bnum l * 256 + x.1.2.toNat := by
 induction l with
 | nil => simp [bnum]
 | cons y l ih =>
  simp only [List.cons_append, bnum, ih, List.length_append, List.length_cons, List.length_nil, Nat.pow_succ, Nat.add_mul]
  rw [Nat.mul_assoc]; omega
theorem bnum_all (bs : List Int) (h : Byt bs) : bnum (upto (backAt bs h) bs.length) = num bs := by
 have key : ∀ k, k ≤ bs.length → bnum (upto (backAt bs h) k) = num (bs.drop (bs.length - k)) := by
  intro k
  induction k with
  | zero => intro _; simp [upto, bnum, num]
  | succ k ih =>
   intro hk
   rw [upto_succ, bnum_snoc, ih (by omega)]
   have hi : bs.length - (k + 1) < bs.length := by omega
   rw [List.drop_eq_getElem_cons hi, num]
   have e1 : bs.length - (k + 1) + 1 = bs.length - k := by omega
   have e2 : bs.length - 1 - k = bs.length - (k + 1) := by omega
   have e3 := byteAt_get bs h _ hi
   rw [List.getElem?_eq_getElem hi] at e3
   injection e3 with e3
   rw [e1, e3]
   simp only [backAt, e2]
   omega
 have := key bs.length (Nat.le_refl _)
 simpa using this
theorem shl_or (n : Nat) (x : Int) (h0 : 0 ≤ x) (h1 : x ≤ 255) (hn : n < 72057594037927936) : bits .or .u64 (n * 256 : Int) x = ((n * 256 + x.toNat : Nat) : Int) := by
 have e : (n * 256 : Int) = ((n * 256 : Nat) : Int) := by omega
 obtain ⟨m, rfl⟩ : ∃ m : Nat, x = m := ⟨x.toNat, by omega⟩
 rw [e, u64_or_nat _ _ (by omega) (by omega), Int.toNat_natCast]
 congr 1
 rw [show n * 256 = n <<< 8 by rw [Nat.shiftLeft_eq], ← Nat.shiftLeft_add_eq_or_of_lt (by omega)]
theorem number_in (F : Fence) (n : Nat) (h3 : F.fn 124) (h5 : F.fn 131) (h7 : F.fn 135) (hro : F.round = none) (hn : 3 ≤ n) (A : Option Addr) (cap : Nat) (bs : List Int) (w : World) (hB : Bys w A bs.length bs) (hl : bs.length ≤ 8) :
  CallsIn F n Tryz.prog 124 #[.slice A bs.length cap] w fun e W' => e = .returned (.int .u64 (num bs)) ∧ Below w.heap.size w W' := by
 have h1 : 1 ≤ n := by omega
 refine callsIn_of_wp_marks Tryz.func124 rfl h3 ?_ hro
 simp only [Tryz.ntmps124, List.size_toArray, List.length_cons, List.length_nil, Nat.reduceAdd, Nat.reduceSub, Array.replicate_succ, Array.replicate_zero, List.push_toArray, List.append_toArray, List.nil_append, List.cons_append]
 gi_wp2_with (gi_at_call 131; refine (back_in F (n - 1) h5 hro _ _ _ _).mono ?_; rintro e w' ⟨rfl, rfl⟩)
 have bS := Boxed.new w 63 (.int .u64 0)
 have bN := Boxed.new (w.alloc (.cells #[.int .u64 0] 63)) 23 (.slice A bs.length cap)
 rw [World.size_alloc] at bN
 have hB0 : Below w.heap.size w ((w.alloc (.cells #[.int .u64 0] 63)).alloc (.cells #[.slice A bs.length cap] 23)) := ((Below.refl _ w).alloc (Nat.le_refl _) _).alloc (by simp) _
 have hby := hB.2.1
 refine wpIn_rangeFunc_ownG hro h1 (gf := 135) (lb := #[.pointer (some ⟨w.heap.size + 1, 0, none⟩)]) rfl h7 (enters_of Tryz.func135 (by kernel_rfl) rfl)
  (back_stops F (n - 1) h7 hro (by omega) (w.heap.size + 1) w.heap.size A cap bs hby (by omega) _ (by simp) (by omega) bN.cell (hB.below hB0) (fun h0 ad e => by have := hB.lt h0 ad e; omega)) (fun h k => h.trans k) (fun W l o o' _ h hc _ => KpX.put W l o o' h hc) (Below.refl _ _) (fun _ => rfl)
  (fun pre W => (W.cell? ⟨w.heap.size, 0, none⟩ = some (.int .u64 (bnum pre : Int)) ∧ W.frozen? ⟨w.heap.size, 0, none⟩ = false) ∧ Below w.heap.size w W)
  (fun _ _ _ => False)
  (OwnFrom.and (Own.from (fun s A B row hs hg hr => ⟨cell_kept hs.1 hg hr, (frozen_kept hs.1 hg hr).trans hs.2⟩) _) (ownFrom_below (Nat.le_refl _) (by simp; omega)))
  (fun _ _ _ _ _ hs _ _ => hs)
  ⟨⟨(bS.alloc _).cell, (bS.alloc _).frozen⟩, hB0⟩
  (fun x => { tmps := #[.slice A bs.length cap, undef, .int .u64 0, .pointer (some ⟨w.heap.size, 0, none⟩), undef, .int .u8 x.1.2, .slice A bs.length cap, .func (.func 135) #[] #[.pointer (some ⟨w.heap.size + 1, 0, none⟩)], .int .i64 (x.1.1 : Int), .int .u8 x.1.2, undef, undef, undef, undef, undef, undef], defers := [] }) ?assign ?body ?done ?stop
 case assign =>
  intro l x W K hK
  simp only [encIB]
  gi_wp2
  exact hK
 case body =>
  rintro l pre x W ⟨⟨hc, hf⟩, hB⟩ hlen
  have x0 : 0 ≤ x.1.2 := x.2.1
  have x1 : x.1.2 ≤ 255 := x.2.2
  have hu : IntKind.u64.wrap x.1.2 = x.1.2 := by rw [IntKind.wrap_u64]; omega
  have hn7 : bnum pre < 256 ^ 7 := Nat.lt_of_lt_of_le (bnum_lt pre) (Nat.pow_le_pow_right (by decide) (by omega))
  have hs := shl_or (bnum pre) x.1.2 x0 x1 (by simpa using hn7)
  gi_wp2
  refine ⟨(KeepsOthers.setCell _ _ _).from _, KpX.set _ _ _ _, ⟨?_, by rw [World.frozen?_setCell]; exact hf⟩, hB.setCell (p := ⟨w.heap.size, 0, none⟩) (Nat.le_refl _) _⟩
  have e : ((bnum pre : Nat) : Int) * 256 + max x.1.2 0 = ((bnum (pre ++ [x]) : Nat) : Int) := by rw [bnum_snoc]; omega
  rw [e]
  refine World.cell?_setCell_same' _ _ _ (by rw [hc]; rfl)
 case done =>
  rintro D ys W hD rfl ⟨⟨hc, _⟩, hB⟩ hK
  gi_wp2
  refine ⟨by simp, .inl ⟨_, _, rfl, run_takeDeferred hK, ?_⟩⟩
  exact ⟨_, results_tmp rfl _ _ _, by rw [← bnum_all bs hby]; rfl, hB.trans (belowK_b (w := w) (Nat.le_refl _) W D _ _ (by simp at hD; omega) hK rfl rfl)⟩
 case stop =>
  rintro D c pre W _ _ h _
  exact h.elim
theorem number_any (w : World) (A : Option Addr) (n cap : Nat) (bs : List Int) (hB : Bys w A n bs) (hl : n ≤ 8) :
  Calls Tryz.prog 124 #[.slice A n cap] w fun e w' => e = .returned (.int .u64 (num bs)) ∧ Below w.heap.size w w' := by
 have e := hB.1
 subst e
 exact (callsIn_wide (n := 3)).1 (number_in Fence.wide 3 trivial trivial trivial rfl (Nat.le_refl _) A cap bs w hB hl)
end Go.Proofs.YtjnpkcabkccaoaaGreat
namespace Go.Proofs.YtjnpkcabkccaoaaGreat
open Go.RowKit
def U64 (n : Int) : Prop := 0 ≤ n ∧ n < 18446744073709551616
theorem sizes (x : Int) : ((x == 253) = true ∧ Rd.sizeOf x = 2) ∨ ((x == 253) = false ∧ (x == 254) = true ∧ Rd.sizeOf x = 4) ∨
  ((x == 253) = false ∧ (x == 254) = false ∧ (x == 255) = true ∧ Rd.sizeOf x = 8) ∨ ((x == 253) = false ∧ (x == 254) = false ∧ (x == 255) = false ∧ Rd.sizeOf x = 0) := by
 by_cases h1 : x = 253
 ·exact .inl ⟨by simpa using h1, by simp [Rd.sizeOf, h1]⟩
 ·by_cases h2 : x = 254
  ·exact .inr (.inl ⟨by simpa using h1, by simpa using h2, by simp [Rd.sizeOf, h2]⟩)
  ·by_cases h3 : x = 255
   ·exact .inr (.inr (.inl ⟨by simpa using h1, by simpa using h2, by simpa using h3, by simp [Rd.sizeOf, h3]⟩))
   ·exact .inr (.inr (.inr ⟨by simpa using h1, by simpa using h2, by simpa using h3, by simp [Rd.sizeOf, h1, h2, h3]⟩))
def PeekPost (w : World) (p : Nat × Nat × Int) (e : Ending) (w' : World) : Prop :=
 e = .returned (.tuple #[.int .u64 (p.1 : Int), .int .i64 (p.2.1 : Int), .int .i64 p.2.2]) ∧ Below w.heap.size w w'
theorem peek_nil (w : World) (g : Nat) (A : Option Addr) (m c : Nat) (err : Int) (most : Int) (hb : Blk w g 186 [.slice A m c, .int .i64 err]) (hB : Bys w A m []) :
  Calls Tryz.prog 122 #[.pointer (some ⟨g, 0, none⟩), .int .u64 most] w (PeekPost w (Rd.peek [] most.toNat)) := by
 have c0 := hb.c0
 have m0 : m = 0 := hB.1.symm
 subst m0
 go_enter Tryz.func122, Tryz.ntmps122
 go_wp2
 go_ret3
 exact ⟨rfl, Below.refl _ _⟩
theorem peek_short (w : World) (g b off m c : Nat) (err x : Int) (l : List Int) (most : Int) (hb : Blk w g 186 [.slice (some ⟨b, off, none⟩) m c, .int .i64 err]) (hB : Bys w (some ⟨b, off, none⟩) m (x :: l)) (_hc : m ≤ c) (hm : m ≤ 1000000000) (_h0 : 0 ≤ most)
  (hsh : l.length < Rd.sizeOf x) :
  Calls Tryz.prog 122 #[.pointer (some ⟨g, 0, none⟩), .int .u64 most] w (PeekPost w (Rd.peek (x :: l) most.toNat)) := by
 have c0 := hb.c0
 have hcx := hB.2.2 (by have := hB.1; simp at this; omega)
 have cx : w.cell? ⟨b, off, none⟩ = some (.int .u8 x) := by obtain ⟨b2, o2, e, hcs⟩ := hcx; injection e with e; injection e with e1 e2; subst e1; subst e2; exact hcs 0 x rfl
 have hml : m < 1 + Rd.sizeOf x := by have := hB.1; simp at this; omega
 have m1 : (0 : Int) < (m : Int) := by have := hB.1; simp at this; omega
 have m0 : (m == 0) = false := by simp; omega
 have E : Hid (Rd.peek (x :: l) most.toNat = (0, 0, 61)) := hide (by simp [Rd.peek, hsh])
 clear hcx
 rcases sizes x with ⟨t1, hs⟩ | ⟨t1, t2, hs⟩ | ⟨t1, t2, t3, hs⟩ | ⟨t1, t2, t3, hs⟩
 case inr.inr.inr => omega
 all_goals
  rw [hs] at hml
  clear hs hsh
  go_enter Tryz.func122, Tryz.ntmps122
  go_wp2
  go_ret3
  rw [E.out]
  exact ⟨rfl, Below.refl _ _⟩
theorem peek_pos (w : World) (g b off m c : Nat) (err x : Int) (l : List Int) (most : Int) (hb : Blk w g 186 [.slice (some ⟨b, off, none⟩) m c, .int .i64 err]) (hB : Bys w (some ⟨b, off, none⟩) m (x :: l)) (hc : m ≤ c) (hm : m ≤ 1000000000) (h0 : 0 ≤ most)
  (hpos : 0 < Rd.sizeOf x) (hsh : ¬ l.length < Rd.sizeOf x) :
  Calls Tryz.prog 122 #[.pointer (some ⟨g, 0, none⟩), .int .u64 most] w (PeekPost w (Rd.peek (x :: l) most.toNat)) := by
 have c0 := hb.c0
 have hcx := hB.2.2 (by have := hB.1; simp at this; omega)
 have cx : w.cell? ⟨b, off, none⟩ = some (.int .u8 x) := by obtain ⟨b2, o2, e, hcs⟩ := hcx; injection e with e; injection e with e1 e2; subst e1; subst e2; exact hcs 0 x rfl
 have hx := hB.2.1 x (by simp)
 have x0 : 0 ≤ x := hx.1
 have x1 : x ≤ 255 := hx.2
 have hml : 1 + Rd.sizeOf x ≤ m := by have := hB.1; simp at this; omega
 have m0 : (m == 0) = false := by simp; omega
 have m1 : (0 : Int) < (m : Int) := by omega
 obtain ⟨N, hN⟩ : ∃ N : Nat, N = num (l.take (Rd.sizeOf x)) := ⟨_, rfl⟩
 have hz : ¬ Rd.sizeOf x = 0 := by omega
 have E : Hid (Rd.peek (x :: l) most.toNat = if (cnt N).length ≠ 1 + Rd.sizeOf x ∨ most.toNat < N then (0, 0, 62) else (N, 1 + Rd.sizeOf x, 0)) := hide (by simp [Rd.peek, hsh, hz, ← hN])
 have hBl : Bys w (some ⟨b, off + 1, none⟩) (Rd.sizeOf x) (l.take (Rd.sizeOf x)) := by simpa using hB.sub 1 (Rd.sizeOf x) hml
 have HN := hide hN
 have hNlt : N < 18446744073709551616 := by
  rw [hN]
  have h1 := num_lt _ hBl.2.1
  have h2 : (l.take (Rd.sizeOf x)).length ≤ 8 := by rw [hBl.1]; rcases sizes x with h | h | h | h <;> omega
  have h3 := Nat.pow_le_pow_right (show 0 < 256 by decide) h2
  have : (256 : Nat) ^ 8 = 18446744073709551616 := by decide
  omega
 have HNL : U64 N := ⟨by omega, by omega⟩
 have hcl := (cnt_length N).2
 clear hNlt hN hx hcx hpos hsh
 rcases sizes x with ⟨t1, hs⟩ | ⟨t1, t2, hs⟩ | ⟨t1, t2, t3, hs⟩ | ⟨t1, t2, t3, hs⟩
 case inr.inr.inr => exact absurd hs hz
 all_goals
  by_cases hq : (cnt N).length = 1 + Rd.sizeOf x
  ·by_cases hq2 : most.toNat < N
   ·rw [hs] at hml hBl E HN hq
    rw [if_pos (.inr hq2)] at E
    have q2 : most < (N : Int) := by omega
    have HQ := hide hq
    clear hs hz hq hq2
    go_enter Tryz.func122, Tryz.ntmps122
    go_wp2_with (go_at_call 124; refine (number_any w _ _ _ _ hBl (by decide)).mono ?_; rintro e w1 ⟨rfl, hb1⟩; rw [← HN.out]; have c0' := cell_under hb1 c0)
    refine (count_any w1 w1 none 0 0 [] N (Mine.nil (Below.refl _ _) none) HNL.1 HNL.2 (by decide)).mono ?_
    rintro e w2 ⟨A3, n3, c3, rfl, t3, _⟩
    have e3 := t3.len.symm
    rw [List.nil_append, Int.toNat_natCast, HQ.out] at e3
    simp only [Nat.reduceAdd] at e3
    subst e3
    go_wp2
    go_ret3
    rw [E.out]
    exact ⟨rfl, hb1.trans (t3.below.mono hb1.size)⟩
   ·rw [hs] at hml hBl E HN hq
    rw [if_neg (by intro h; rcases h with h | h; exact h hq; exact hq2 h)] at E
    have q2 : (N : Int) ≤ most := by omega
    have HQ := hide hq
    clear hs hz hq hq2
    go_enter Tryz.func122, Tryz.ntmps122
    go_wp2_with (go_at_call 124; refine (number_any w _ _ _ _ hBl (by decide)).mono ?_; rintro e w1 ⟨rfl, hb1⟩; rw [← HN.out]; have c0' := cell_under hb1 c0)
    refine (count_any w1 w1 none 0 0 [] N (Mine.nil (Below.refl _ _) none) HNL.1 HNL.2 (by decide)).mono ?_
    rintro e w2 ⟨A3, n3, c3, rfl, t3, _⟩
    have e3 := t3.len.symm
    rw [List.nil_append, Int.toNat_natCast, HQ.out] at e3
    simp only [Nat.reduceAdd] at e3
    subst e3
    go_wp2
    go_ret3
    rw [E.out]
    exact ⟨rfl, hb1.trans (t3.below.mono hb1.size)⟩
  ·rw [hs] at hml hBl E HN hq
   rw [if_pos (.inl hq)] at E
   have HQ := hide hq
   clear hs hz hq
   go_enter Tryz.func122, Tryz.ntmps122
   go_wp2_with (go_at_call 124; refine (number_any w _ _ _ _ hBl (by decide)).mono ?_; rintro e w1 ⟨rfl, hb1⟩; rw [← HN.out]; have c0' := cell_under hb1 c0)
   refine (count_any w1 w1 none 0 0 [] N (Mine.nil (Below.refl _ _) none) HNL.1 HNL.2 (by decide)).mono ?_
   rintro e w2 ⟨A3, n3, c3, rfl, t3, _⟩
   have e3 := t3.len.symm
   have hn3 : ¬ (n3 = _) := fun h => HQ.out (by rw [List.nil_append, Int.toNat_natCast] at e3; rw [← e3]; exact h)
   simp only [Nat.reduceAdd] at hn3
   first
    | (have q3 : ((n3 : Int) != 3) = true := by rw [bne_iff_ne]; omega)
    | (have q3 : ((n3 : Int) != 5) = true := by rw [bne_iff_ne]; omega)
    | (have q3 : ((n3 : Int) != 9) = true := by rw [bne_iff_ne]; omega)
   clear e3 hn3
   go_wp2
   go_ret3
   rw [E.out]
   exact ⟨rfl, hb1.trans (t3.below.mono hb1.size)⟩
theorem peek_zero (w : World) (g b off m c : Nat) (err x : Int) (l : List Int) (most : Int) (hb : Blk w g 186 [.slice (some ⟨b, off, none⟩) m c, .int .i64 err]) (hB : Bys w (some ⟨b, off, none⟩) m (x :: l)) (hc : m ≤ c) (hm : m ≤ 1000000000) (h0 : 0 ≤ most)
  (hs0 : Rd.sizeOf x = 0) :
  Calls Tryz.prog 122 #[.pointer (some ⟨g, 0, none⟩), .int .u64 most] w (PeekPost w (Rd.peek (x :: l) most.toNat)) := by
 have c0 := hb.c0
 have hcx := hB.2.2 (by have := hB.1; simp at this; omega)
 have cx : w.cell? ⟨b, off, none⟩ = some (.int .u8 x) := by obtain ⟨b2, o2, e, hcs⟩ := hcx; injection e with e; injection e with e1 e2; subst e1; subst e2; exact hcs 0 x rfl
 have hx := hB.2.1 x (by simp)
 have x0 : 0 ≤ x := hx.1
 have x1 : x ≤ 255 := hx.2
 have x2 : x < 253 := by
  rcases sizes x with ⟨_, h⟩ | ⟨_, _, h⟩ | ⟨_, _, _, h⟩ | ⟨t1, t2, t3, h⟩
  all_goals try omega
  simp at t1 t2 t3; omega
 have hml : 1 ≤ m := by have := hB.1; simp at this; omega
 have m0 : (m == 0) = false := by simp; omega
 have m1 : (0 : Int) < (m : Int) := by omega
 have t1 : (x == 253) = false := by simp; omega
 have t2 : (x == 254) = false := by simp; omega
 have t3 : (x == 255) = false := by simp; omega
 have hu : IntKind.u64.wrap x = x := by rw [IntKind.wrap_u64]; omega
 have hcn : cnt x.toNat = [x] := cnt1 x x0 x2
 have E : Hid (Rd.peek (x :: l) most.toNat = if most.toNat < x.toNat then (0, 0, 62) else (x.toNat, 1, 0)) := hide (by simp [Rd.peek, hs0, hcn])
 have HC := hide hcn
 clear hcx hx hs0 hcn
 by_cases hq2 : most < x
 ·rw [if_pos (by omega)] at E
  go_enter Tryz.func122, Tryz.ntmps122
  go_wp2_with (go_at_call 124; refine (number_any w _ _ _ _ (Bys.nil _ _) (by decide)).mono ?_; rintro e w1 ⟨rfl, hb1⟩; have c0' := cell_under hb1 c0; have cx' := cell_under hb1 cx)
  all_goals
   refine (count_any _ _ none 0 0 [] x (Mine.nil (Below.refl _ _) none) x0 (by omega) (by decide)).mono ?_
   rintro e w2 ⟨A3, n3, c3, rfl, t3, _⟩
   have e3 := t3.len.symm
   rw [List.nil_append, HC.out] at e3
   simp only [List.length_cons, List.length_nil, Nat.zero_add] at e3
   subst e3
   go_wp2
   go_ret3
   rw [E.out]
   exact ⟨rfl, hb1.trans (t3.below.mono hb1.size)⟩
 ·rw [if_neg (by omega)] at E
  have q2 : x ≤ most := by omega
  have ex : ((x.toNat : Nat) : Int) = x := by omega
  have EX := hide ex
  clear ex hq2
  go_enter Tryz.func122, Tryz.ntmps122
  go_wp2_with (go_at_call 124; refine (number_any w _ _ _ _ (Bys.nil _ _) (by decide)).mono ?_; rintro e w1 ⟨rfl, hb1⟩; have c0' := cell_under hb1 c0; have cx' := cell_under hb1 cx)
  all_goals
   refine (count_any _ _ none 0 0 [] x (Mine.nil (Below.refl _ _) none) x0 (by omega) (by decide)).mono ?_
   rintro e w2 ⟨A3, n3, c3, rfl, t3, _⟩
   have e3 := t3.len.symm
   rw [List.nil_append, HC.out] at e3
   simp only [List.length_cons, List.length_nil, Nat.zero_add] at e3
   subst e3
   go_wp2
   go_ret3
   rw [E.out]
   refine ⟨?_, hb1.trans (t3.below.mono hb1.size)⟩
   simp only [EX.out]
   rfl
theorem peek_any (w : World) (g h : Nat) (r : Rd) (most : Int) (hR : RdAt 186 w g h r) (h0 : 0 ≤ most) :
  Calls Tryz.prog 122 #[.pointer (some ⟨g, 0, none⟩), .int .u64 most] w (PeekPost w (Rd.peek r.rest most.toNat)) := by
 obtain ⟨rest, err⟩ := r
 obtain ⟨A, m, c, hb, hB, hc, hA, hlt, hm⟩ := hR
 cases rest with
 | nil => exact peek_nil w g A m c err most hb hB
 | cons x l =>
  have hl := hB.1
  obtain ⟨b, off, rfl, hcs⟩ := hB.2.2 (by simp at hl; omega)
  by_cases hsh : l.length < Rd.sizeOf x
  ·exact peek_short w g b off m c err x l most hb hB hc hm h0 hsh
  ·by_cases hz : Rd.sizeOf x = 0
   ·exact peek_zero w g b off m c err x l most hb hB hc hm h0 hz
   ·exact peek_pos w g b off m c err x l most hb hB hc hm h0 (by omega) hsh
section
theorem enc_length (s : Slb) : (enc s).length = s.length := by simp [enc]
theorem enc_one (s : Slb) : ∀ v ∈ enc s, v.oneCell' = true := by
 intro v hv
 simp only [enc, List.mem_map] at hv
 obtain ⟨x, _, rfl⟩ := hv
 rfl
theorem cons_one (n : Int) (s : Slb) : ∀ v ∈ Value.int .i64 n :: enc s, v.oneCell' = true := by
 intro v hv
 rcases List.mem_cons.1 hv with rfl | h
 ·rfl
 ·exact enc_one s v h
theorem rows_length : ∀ (l : List Slb), (∀ s ∈ l, s.length = 128) → (rows l).length = l.length * 128
 | [], _ => rfl
 | s :: l, h => by
  have h1 := h s (by simp)
  have h2 := rows_length l (fun t ht => h t (by simp [ht]))
  have : rows (s :: l) = enc s ++ rows l := rfl
  rw [this, List.length_append, enc_length, h1, h2]; simp; omega
theorem rows_get : ∀ (l : List Slb) (k : Nat) (s : Slb), (∀ s ∈ l, s.length = 128) → l[k]? = some s → ∀ (j : Nat) (v : Value), (enc s)[j]? = some v → (rows l)[k * 128 + j]? = some v
 | [], _, _, _, h => by simp at h
 | t :: l, 0, s, _, h => by
  intro j v hv
  simp at h; subst h
  have : rows (t :: l) = enc t ++ rows l := rfl
  rw [this, Nat.zero_mul, Nat.zero_add, List.getElem?_append_left (List.getElem?_eq_some_iff.1 hv).1, hv]
 | t :: l, k + 1, s, h128, h => by
  intro j v hv
  have h1 := h128 t (by simp)
  have : rows (t :: l) = enc t ++ rows l := rfl
  rw [this, List.getElem?_append_right (by rw [enc_length, h1]; omega), enc_length, h1]
  rw [show (k + 1) * 128 + j - 128 = k * 128 + j by omega]
  exact rows_get l k s (fun t ht => h128 t (by simp [ht])) (by simpa using h) j v hv
theorem rows_take : ∀ (l : List Slb) (k : Nat), (∀ s ∈ l, s.length = 128) → k ≤ l.length → (rows l).take (k * 128) = rows (l.take k)
 | _, 0, _, _ => by simp [rows]
 | [], _ + 1, _, h => by simp at h
 | t :: l, k + 1, h128, h => by
  have h1 := h128 t (by simp)
  have e : rows (t :: l) = enc t ++ rows l := rfl
  have e2 : rows ((t :: l).take (k + 1)) = enc t ++ rows (l.take k) := rfl
  rw [e, e2, List.take_append, enc_length, h1, List.take_of_length_le (by rw [enc_length, h1]; omega), show (k + 1) * 128 - 128 = k * 128 by omega,
   rows_take l k (fun t ht => h128 t (by simp [ht])) (by simpa using h)]
theorem rows_drop : ∀ (l : List Slb) (k : Nat), (∀ s ∈ l, s.length = 128) → k ≤ l.length → (rows l).drop (k * 128) = rows (l.drop k)
 | _, 0, _, _ => by simp
 | [], _ + 1, _, h => by simp at h
 | t :: l, k + 1, h128, h => by
  have h1 := h128 t (by simp)
  have e : rows (t :: l) = enc t ++ rows l := rfl
  have e2 : rows ((t :: l).drop (k + 1)) = rows (l.drop k) := rfl
  rw [e, e2, List.drop_append, enc_length, h1, List.drop_of_length_le (by rw [enc_length, h1]; omega), show (k + 1) * 128 - 128 = k * 128 by omega, List.nil_append,
   rows_drop l k (fun t ht => h128 t (by simp [ht])) (by simpa using h)]
theorem rows_append (a b : List Slb) : rows (a ++ b) = rows a ++ rows b := by simp [rows]
theorem rows_set (l : List Slb) (k : Nat) (s : Slb) (h128 : ∀ s ∈ l, s.length = 128) (hs : s.length = 128) (hk : k < l.length) : lay (rows l) (k * 128) (enc s) = rows (l.set k s) := by
 have hl := rows_length l h128
 rw [lay_eq _ _ _ (by rw [hl, enc_length, hs]; omega), rows_take l k h128 (by omega), enc_length, hs, show k * 128 + 128 = (k + 1) * 128 by omega, rows_drop l (k + 1) h128 (by omega)]
 rw [List.set_eq_take_append_cons_drop, if_pos hk, rows_append, List.append_assoc]
 rfl

theorem wcells_append (a b : List (Nat × Slb)) : wcells (a ++ b) = wcells a ++ wcells b := by simp [wcells]

def Dev.write (d : Dev) (at_ : Int) (s : Slb) : Dev × Int :=
 if d.has at_ then
  if d.stops then (d.after, 132)
  else ({ d.after with seen := d.seen.set at_.toNat s, written := d.written ++ [(at_.toNat, s)] }, 0)
 else (d, 131)
theorem Dev.Good.write {d : Dev} (h : d.Good) (at_ : Int) (s : Slb) (hs : s.length = 128) : (d.write at_ s).1.Good := by
 unfold Dev.write
 split
 ·rename_i hh
  simp only [Dev.has, Bool.and_eq_true, decide_eq_true_eq] at hh
  split
  ·exact h.after
  ·refine ⟨by simpa [Dev.after] using h.seen, h.few, h.k128, ?_, ?_, h.after.lo, h.after.hi⟩
   ·intro t ht
    rcases List.mem_or_eq_of_mem_set ht with h1 | h1
    ·exact h.s128 t h1
    ·subst h1; exact hs
   ·intro p hp
    simp only [List.mem_append, List.mem_singleton] at hp
    rcases hp with hp | rfl
    ·exact h.wat p hp
    ·exact ⟨by show at_.toNat < d.kept.length; omega, hs⟩
 ·exact h

theorem info91 : (Tryz.prog.info? 96).map (fun i => i.zero.map (fun z => z.cells.size)) = some (some 129) := by kernel_rfl
theorem more91 : (Tryz.prog.info? 96).map (fun i => (i.size, i.bytes)) = some (129, 136) := by kernel_rfl
theorem isz91 : (Tryz.prog.info? 96).map (·.size) = some 129 := by kernel_rfl
theorem isz33 : (Tryz.prog.info? 94).map (·.size) = some 128 := by kernel_rfl
theorem iszInt : (Tryz.prog.info? 3).map (·.size) = some 1 := by kernel_rfl
theorem chg_info : ∃ i, Tryz.prog.info? 96 = some i ∧ (∃ z, i.zero = some z ∧ z.cells.size = 129) ∧ i.size = 129 ∧ i.bytes = 136 := by
 obtain ⟨i, z, h1, h2, zs, h3, h4⟩ := zero_parts info91
 have := more91
 rw [h1] at this
 simp at this
 exact ⟨i, h1, ⟨z, h2, by rw [h3]; simpa using h4⟩, this.1, this.2⟩
def mkChange (parts : Array (Nat × Value)) : Sem Value := Instr.build 96 parts
theorem mkChange_fold (parts : Array (Nat × Value)) : Instr.build 96 parts = mkChange parts := rfl
theorem mkChange_run (k : IntKind) (n : Int) (s : Slb) (hs : s.length = 128) (w : World) : (mkChange #[(0, .int k n), (1, .agg (enc s).toArray)]).run Tryz.prog w = .ok (.agg (.int k n :: enc s).toArray) w :=
 run_build_pair 96 _ _ 128 Tryz.underlying96 rfl rfl iszInt isz33 info91 (.int k n) rfl (enc s) (by simp [enc_length, hs]) w
def mkRow (parts : Array (Nat × Value)) : Sem Value := Instr.buildSlice 70 1 parts
theorem mkRow_fold (parts : Array (Nat × Value)) : Instr.buildSlice 70 1 parts = mkRow parts := rfl
theorem mkRow_run (v : Value) (s : Slb) (hs : s.length = 128) (w : World) : (mkRow #[(0, .agg (v :: enc s).toArray)]).run Tryz.prog w = .ok (.slice (some ⟨w.heap.size, 0, none⟩) 1 1) (w.alloc (.cells (v :: enc s).toArray 96)) :=
 run_buildSlice_one 70 96 129 Tryz.underlying70 isz91 info91 (by decide) (by decide) (v :: enc s) (by simp [enc_length, hs]) w
def loadSlab (a : Addr) : Sem Value := loadVar 94 a
theorem loadSlab_fold (a : Addr) : loadVar 94 a = loadSlab a := rfl
theorem loadSlab_run (w : World) (b o : Nat) (s : Slb) (h : w.rangeAt b o (enc s)) (hs : s.length = 128) : (loadSlab ⟨b, o, none⟩).run Tryz.prog w = .ok (.agg (enc s).toArray) w :=
 run_loadVar_mid w b o _ (enc s) _ h Tryz.underlying94 rfl (by rw [isz33, enc_length, hs])
attribute [local go_sem ↓] mkChange_fold mkRow_fold loadSlab_fold
attribute [local go_sem] mkChange_run mkRow_run
theorem write_fin (w w1 w2 w3 : World) (b k s i g cap : Nat) (wv : Value) (F : Nat → Prop) (d : Dev) (sl : Slb) (o : Obj)
  (hG : d.Good) (hh : d.has i = true) (hs : sl.length = 128)
  (hF : F = fun j => j = b ∨ j = k ∨ j = s ∨ wv.ownBlock = some j)
  (ho1 : Only F (w.alloc o) w1) (hi : DevIn w1 b k s wv d.after) (o2 : Only (fun j => j = s) w1 w2)
  (s2 : Blk w2 s 94 (rows (d.seen.set i sl)))
  (own3 : w3.ownsRow 0 96 129 (.slice (some ⟨g, 0, none⟩) (d.written.length + 1) cap) (d.written.length + 1) (wcells d.written ++ (Value.int .i64 (i : Int) :: enc sl)))
  (o3 : Only (fun j => wv.ownBlock = some j) w2 w3) (hat : wv.ownBlock = some g ∨ g = w2.heap.size + 1)
  (hm : d.stops = false) :
  DevPost w b F (d.write i sl).1 (.int .i64 (d.write i sl).2) (.returned (.int .i64 0)) (w3.setCell ⟨b, 2, none⟩ (.slice (some ⟨g, 0, none⟩) (d.written.length + 1) cap)) := by
 have hwr : (d.write i sl).1 = { d.after with seen := d.seen.set i sl, written := d.written ++ [(i, sl)] } ∧ (d.write i sl).2 = 0 := by simp [Dev.write, hh, hm]
 obtain ⟨n1, n2, n3, n4, n5, n6⟩ := hi.ne
 have hlt1 := hi.lt
 have sz2 := o2.size
 have o4 : Only (fun j => j = b) w3 (w3.setCell ⟨b, 2, none⟩ (.slice (some ⟨g, 0, none⟩) (d.written.length + 1) cap)) := (Only.refl (fun j => j = b) w3).setCell (p := ⟨b, 2, none⟩) (.inr rfl) _
 have hgb : g ≠ b := by
  rintro rfl
  rcases hat with h | h
  ·exact n4 h
  ·have := hlt1 g (.inl rfl); omega
 have hgood := hG.write (i : Int) sl hs
 refine ⟨by rw [hwr.2], fun j => j = b ∨ j = k ∨ j = s ∨ Value.ownBlock (.slice (some ⟨g, 0, none⟩) (d.written.length + 1) cap) = some j, ⟨k, s, _, ?_, hgood, rfl⟩, ?_, ?_⟩
 ·rw [hwr.1]
  refine ⟨?_, ?_, ?_, ?_, n1⟩
  ·exact (o3.blk (o2.blk hi.1 n3) n4).set_ 2 _ |> fun h => by simpa [Dev.after] using h
  ·exact o4.blk (o3.blk (o2.blk hi.2.1 n1) n5) (Ne.symm n2)
  ·exact o4.blk (o3.blk s2 n6) (Ne.symm n3)
  ·have := o4.own own3 (fun g' hg' e => by
    have : g = g' := by simpa [Value.ownBlock] using hg'
    exact hgb (this.trans e))
   have e : wcells (d.written ++ [(i, sl)]) = wcells d.written ++ (Value.int .i64 (i : Int) :: enc sl) := by rw [wcells_append]; simp [wcells]
   rw [show (({ d.after with seen := d.seen.set i sl, written := d.written ++ [(i, sl)] } : Dev)).written = d.written ++ [(i, sl)] from rfl, e, List.length_append]
   exact this
 ·have h1 : Only F w w1 := ((Only.refl F w).alloc o).trans ho1 (fun _ _ h => h)
  have h2 : Only F w w2 := h1.trans o2 (fun j _ e => by rw [hF]; exact .inr (.inr (.inl e)))
  have h3 : Only F w w3 := h2.trans o3 (fun j _ e => by rw [hF]; exact .inr (.inr (.inr e)))
  exact h3.trans o4 (fun j _ e => by rw [hF]; exact .inl e)
 ·have hz : w.heap.size ≤ w2.heap.size := by
   have := ho1.size; simp at this; omega
  rintro j (rfl | rfl | rfl | hj)
  ·left; rw [hF]; exact .inl rfl
  ·left; rw [hF]; exact .inr (.inl rfl)
  ·left; rw [hF]; exact .inr (.inr (.inl rfl))
  ·have : g = j := by simpa [Value.ownBlock] using hj
   subst this
   rcases hat with h | h
   ·left; rw [hF]; exact .inr (.inr (.inr h))
   ·right; omega

theorem write_yes (w : World) (b : Nat) (F : Nat → Prop) (d : Dev) (i : Nat) (sl : Slb) (h : DevRep w b F d) (hs : sl.length = 128) (hwl : d.written.length ≤ 1000000)
  (hh : d.has i = true) (hm : d.stops = false) :
  Calls Tryz.prog 87 #[.pointer (some ⟨b, 0, none⟩), .int .i64 i, .agg (enc sl).toArray] w (DevPost w b F (d.write i sl).1 (.int .i64 (d.write i sl).2)) := by
 have hlt := h.lt
 have hG := h.good
 have hb : i < d.kept.length := by simp only [Dev.has, Bool.and_eq_true, decide_eq_true_eq] at hh; omega
 have hwr : (d.write i sl).1 = { d.after with seen := d.seen.set i sl, written := d.written ++ [(i, sl)] } ∧ (d.write i sl).2 = 0 := by simp [Dev.write, hh, hm]
 have i0 : (0 : Int) ≤ (i : Int) := by omega
 have i1 : (i : Int) < (d.kept.length : Int) := by omega
 have HW := hide hwr
 clear hwr
 go_enter Tryz.func87, Tryz.ntmps87
 go_wp2_with (first
  | (go_at_call 115; refine (has_any _ b F d _ (h.alloc _)).mono ?_; rintro e w' ⟨rfl, rfl⟩)
  | (go_at_call 88; refine (may_any _ b F d (h.alloc _)).mono ?_; rintro e w1 ⟨rfl, hr1, ho1⟩))
 obtain ⟨k, s, wv, hi, hg1, hF⟩ := hr1
 have hbox : Blk w1 w.heap.size 94 (enc sl) := ho1.blk (Blk.new w _ _) (fun hf => absurd (hlt _ hf) (by omega))
 have c1 : w1.cell? ⟨b, 1, none⟩ = some (.slice (some ⟨s, 0, none⟩) d.kept.length d.kept.length) := by rw [hi.1.cell]; rfl
 have hrange := hbox.whole
 have hthere : w1.there s (i * 128) 128 := hi.2.2.1.there _ _ (by rw [rows_length _ hg1.s128, hg1.seen]; show i * 128 + 128 ≤ d.kept.length * 128; omega)
 have hu := Tryz.underlying94
 have hsz : (Tryz.prog.info? 94).map (·.size) = some (enc sl).length := by rw [isz33, enc_length, hs]
 have hone := enc_one sl
 have hlen : (enc sl).length = 128 := by rw [enc_length, hs]
 have hne := hi.ne
 have hbs : b ≠ s := hne.2.2.1
 have hws : w.heap.size ≠ s := fun e => by have := hlt s (by rw [hF]; exact .inr (.inr (.inl rfl))); omega
 have HI := hide hi
 clear hne
 have hbox' := hide hbox
 clear hi hbox
 go_region_held3 (fun w' => w'.cell? ⟨b, 1, none⟩ = some (.slice (some ⟨s, 0, none⟩) d.kept.length d.kept.length) ∧ w'.rangeAt w.heap.size 0 (enc sl) ∧ w'.there s (i * 128) 128) (first | go_keep_ranges | (go_split_ands; exact ⟨keep_cell (by assumption) hbs, World.rangeAt_setCells_apart (by assumption) _ _ _ (.inl hws), World.there_setCells (by assumption) _ _ _⟩)) (fail)
 generalize hw2 : w1.drew.setCells s (i * 128) (enc sl) = w2
 have HW2 := hide hw2
 clear hw2 c1 hrange hthere
 have o2 : Only (fun j => j = s) w1 w2 := by rw [← HW2.out]; exact Only.setCells (F := fun j => j = s) (.inr rfl) _ _ _ (Only.refl _ w1).drew
 have b2 : Blk w2 b 72 [.slice (some ⟨k, 0, none⟩) d.kept.length d.kept.length, .slice (some ⟨s, 0, none⟩) d.kept.length d.kept.length, wv, .int .i64 d.after.budget, .bool d.after.down] := o2.blk HI.out.1 hbs
 have s2 : Blk w2 s 94 (rows (d.seen.set i sl)) := by
  have := Blk.cells (enc sl) (i * 128) _ _ (show Blk w1.drew s _ _ from HI.out.2.2.1)
  rw [HW2.out] at this
  rwa [show rows d.after.seen = rows d.seen from rfl, rows_set d.seen i sl hG.s128 hs (by rw [hG.seen]; exact hb)] at this
 have c2 : w2.cell? ⟨b, 2, none⟩ = some wv := by rw [b2.cell]; rfl
 have c2a : ∀ o, (w2.alloc o).cell? ⟨b, 2, none⟩ = some wv := fun o => ((b2.alloc o).cell 2).trans rfl
 have r2 : Blk w2 w.heap.size 94 (enc sl) := o2.blk hbox'.out hws
 have l2 : (loadSlab ⟨w.heap.size, 0, none⟩).run Tryz.prog w2.drew = .ok (.agg (enc sl).toArray) w2.drew := loadSlab_run _ _ _ sl r2.whole hs
 obtain ⟨i91, hi91, hz0, hz1, hz2⟩ : ∃ i, Tryz.prog.info? 96 = some i ∧ (∃ z, i.zero = some z ∧ z.cells.size = 129) ∧ i.size = 129 ∧ i.bytes = 136 := chg_info
 obtain ⟨z91, hz91, hzs91⟩ := hz0
 have n4 := HI.out.ne.2.2.2.1
 have own2 : w2.ownsRow 0 96 129 wv d.written.length (wcells d.written) := o2.own HI.out.2.2.2.1 (fun g hg e => HI.out.ne.2.2.2.2.2 (e ▸ hg))
 clear hu hsz hone hlen
 go_wp2
 go_region_law ((refine step_append_lies _ (by rfl) _ _ _ (by rfl) 0 96 i91 z91 129 136 Tryz.underlying70 hi91 hz91 hz1 hz2 hzs91 (by omega) wv d.written.length (wcells d.written) (by rfl) ((own_drew own2).alloc _) ⟨w2.heap.size, 0, none⟩ 1 1 (Value.int .i64 (i : Int) :: enc sl) (by rfl) (by simp [enc_length, hs]) (World.news_of_block (heap_alloc_new w2.drew _)) (cons_one _ sl) (by omega) (by simp only [maxLen]; omega) (by omega) (Nat.zero_le _) (w2.heap.size + 1) (by simp) ?_; intro g cap w3 own3 hgrow hat hlt3; have o3 : Only (fun j => wv.ownBlock = some j) w2 w3 := (((Only.refl _ w2).drew).alloc _).grown hgrow (fun _ e => .inr e); have c3 : w3.cell? ⟨b, 2, none⟩ = some wv := ((o3.blk b2 n4).cell 2).trans rfl; have f3 : w3.frozen? ⟨b, 2, none⟩ = false := (o3.blk b2 n4).frozen 2))
 all_goals
  go_wp2
  go_ret
  exact write_fin w w1 w2 w3 b k s i g cap wv _ d sl _ hG hh hs hF ho1 HI.out o2 s2 own3 o3 hat hm

theorem write_off (w : World) (b : Nat) (F : Nat → Prop) (d : Dev) (at_ : Int) (sl : Slb) (h : DevRep w b F d) (hh : d.has at_ = true) (hm : d.stops = true) :
  Calls Tryz.prog 87 #[.pointer (some ⟨b, 0, none⟩), .int .i64 at_, .agg (enc sl).toArray] w (DevPost w b F (d.write at_ sl).1 (.int .i64 (d.write at_ sl).2)) := by
 have hwr : (d.write at_ sl).1 = d.after ∧ (d.write at_ sl).2 = 132 := by simp [Dev.write, hh, hm]
 rw [hwr.1, hwr.2]
 clear hwr
 go_enter Tryz.func87, Tryz.ntmps87
 go_wp2_with (first
  | (go_at_call 115; refine (has_any _ b F d _ (h.alloc _)).mono ?_; rintro e w' ⟨rfl, rfl⟩)
  | (go_at_call 88; refine (may_any _ b F d (h.alloc _)).mono ?_; rintro e w1 ⟨rfl, hr1, ho1⟩))
 go_ret
 exact ⟨rfl, F, hr1, ((Only.refl F w).alloc _).trans ho1 (fun _ _ h => h), fun _ h => .inl h⟩
theorem write_no (w : World) (b : Nat) (F : Nat → Prop) (d : Dev) (at_ : Int) (sl : Slb) (h : DevRep w b F d) (hh : d.has at_ = false) :
  Calls Tryz.prog 87 #[.pointer (some ⟨b, 0, none⟩), .int .i64 at_, .agg (enc sl).toArray] w (DevPost w b F (d.write at_ sl).1 (.int .i64 (d.write at_ sl).2)) := by
 have hwr : (d.write at_ sl).1 = d ∧ (d.write at_ sl).2 = 131 := by simp [Dev.write, hh]
 rw [hwr.1, hwr.2]
 clear hwr
 go_enter Tryz.func87, Tryz.ntmps87
 go_wp2_with (go_at_call 115; refine (has_any _ b F d _ (h.alloc _)).mono ?_; rintro e w' ⟨rfl, rfl⟩)
 go_ret
 exact ⟨rfl, F, h.alloc _, (Only.refl F w).alloc _, fun _ h => .inl h⟩
theorem write_any (w : World) (b : Nat) (F : Nat → Prop) (d : Dev) (at_ : Int) (sl : Slb) (h : DevRep w b F d) (hs : sl.length = 128) (hwl : d.written.length ≤ 1000000) :
  Calls Tryz.prog 87 #[.pointer (some ⟨b, 0, none⟩), .int .i64 at_, .agg (enc sl).toArray] w (DevPost w b F (d.write at_ sl).1 (.int .i64 (d.write at_ sl).2)) := by
 cases hh : d.has at_ with
 | false => exact write_no w b F d at_ sl h hh
 | true =>
  cases hm : d.stops with
  | true => exact write_off w b F d at_ sl h hh hm
  | false =>
   obtain ⟨i, rfl⟩ : ∃ i : Nat, at_ = i := by
    simp only [Dev.has, Bool.and_eq_true, decide_eq_true_eq] at hh
    exact ⟨at_.toNat, by omega⟩
   exact write_yes w b F d i sl h hs hwl hh hm
end
section
attribute [local go_sem ↓] loadSlab_fold
theorem repOf {w : World} {b k s : Nat} {wv : Value} {d : Dev} (h : DevIn w b k s wv d) (hG : d.Good) : DevRep w b (fun i => i = b ∨ i = k ∨ i = s ∨ wv.ownBlock = some i) d := ⟨k, s, wv, h, hG, rfl⟩

theorem size_any (w : World) (b : Nat) (F : Nat → Prop) (d : Dev) (h : DevRep w b F d) :
  Calls Tryz.prog 99 #[.pointer (some ⟨b, 0, none⟩)] w fun e w' => e = .returned (.int .i64 (d.kept.length : Int)) ∧ w = w' := by
 obtain ⟨k, s, wv, hi, hG, rfl⟩ := h
 have hc : w.cell? ⟨b, 1, none⟩ = some (.slice (some ⟨s, 0, none⟩) d.kept.length d.kept.length) := by rw [hi.1.cell]; rfl
 clear hi hG
 go_enter Tryz.func99, Tryz.ntmps99
 go_wp2
 go_ret
 exact ⟨rfl, rfl⟩
theorem DevIn.setb {w : World} {b k s : Nat} {wv : Value} {d : Dev} (hi : DevIn w b k s wv d) (n : Int) : DevIn (w.setCell ⟨b, 3, none⟩ (.int .i64 n)) b k s wv { d with budget := n } := by
 have hn := hi.ne
 have ho : Only (fun i => i = b) w (w.setCell ⟨b, 3, none⟩ (.int .i64 n)) := (Only.refl (fun i => i = b) w).setCell (p := ⟨b, 3, none⟩) (.inr rfl) _
 exact ⟨hi.1.set_ 3 _, ho.blk hi.2.1 (Ne.symm hn.2.1), ho.blk hi.2.2.1 (Ne.symm hn.2.2.1), ho.own hi.2.2.2.1 (fun g e hg => hn.2.2.2.1 (hg ▸ e)), hi.2.2.2.2⟩
theorem Dev.Good.budget {d : Dev} (h : d.Good) (n : Int) (hn : n ≤ 9223372036854775807) : ({ d with budget := max n (-1) } : Dev).Good :=
 ⟨h.seen, h.few, h.k128, h.s128, h.wat, by show -1 ≤ max n (-1); omega, by show max n (-1) ≤ _; omega⟩
def Dev.limit (d : Dev) (n : Int) : Dev := { d with budget := max n (-1) }
theorem budget_any (w : World) (b : Nat) (F : Nat → Prop) (d : Dev) (n : Int) (h : DevRep w b F d) (hn : n ≤ 9223372036854775807) :
  Calls Tryz.prog 12 #[.pointer (some ⟨b, 0, none⟩), .int .i64 n] w fun e w' => e = .returned (.tuple #[]) ∧ DevRep w' b F (d.limit n) ∧ Only F w w' := by
 obtain ⟨k, s, wv, hi, hG, rfl⟩ := h
 have hc : w.cell? ⟨b, 3, none⟩ = some (.int .i64 d.budget) := by rw [hi.1.cell]; rfl
 have hf := hi.1.frozen 3
 have HI := hide hi
 clear hi
 go_enter Tryz.func12, Tryz.ntmps12
 go_wp2
 all_goals
  go_end0
  refine ⟨rfl, ?_, (Only.refl _ w).setCell (p := ⟨b, 3, none⟩) (.inr (.inl rfl)) _⟩
  have hm : d.limit n = { d with budget := (d.limit n).budget } := rfl
  have hv : (d.limit n).budget = max n (-1) := rfl
  refine ⟨k, s, wv, ?_, hG.budget n hn, rfl⟩
  rw [hm, hv]
  first
   | (rw [show max n (-1) = n by omega]; exact HI.out.setb n)
   | (rw [show max n (-1) = -1 by omega]; exact HI.out.setb (-1))

def zeroS : Slb := List.replicate 128 0
theorem zeroS_length : zeroS.length = 128 := by simp [zeroS]
theorem zero33 : (Tryz.prog.info? 94).map (·.zero) = some (some (.agg (enc zeroS).toArray)) := by kernel_rfl
def mkSlab (parts : Array (Nat × Value)) : Sem Value := Instr.build 94 parts
theorem mkSlab_fold (parts : Array (Nat × Value)) : Instr.build 94 parts = mkSlab parts := rfl
theorem mkSlab_run (w : World) : (mkSlab #[]).run Tryz.prog w = .ok (.agg (enc zeroS).toArray) w := by kernel_rfl
attribute [local go_sem ↓] mkSlab_fold
attribute [local go_sem] mkSlab_run
end
theorem wpAnyH_2c3 {P : Program} {ops : Array Oper} {Q : Exit → Act → World → Prop} {S : World → Prop} {m : Nat} (L : Bool → Bool → Bool → Bool → Bool → Array Bool) (Φ : Bool → Bool → Bool → Bool → Bool → Act → World → Prop) (i1 i2 i4 i5 i6 : Nat)
  (hr : ∀ b1 b2 b4 b5 b6 : Bool, (b2 = true → b1 = true) → (b2 && b4 && b5 && b6) = false → Region.ready .any ops (L b1 b2 b4 b5 b6) = (if b1 then (if b2 then [] else [i2]) else [i1]) ++ ((if b4 then [] else [i4]) ++ ((if b5 then [] else [i5]) ++ (if b6 then [] else [i6]))))
  (h1 : ∀ b1 b2 b4 b5 b6 : Bool, (L b1 b2 b4 b5 b6).setIfInBounds i1 true = L true b2 b4 b5 b6) (h2 : ∀ b1 b2 b4 b5 b6 : Bool, (L b1 b2 b4 b5 b6).setIfInBounds i2 true = L b1 true b4 b5 b6)
  (h4 : ∀ b1 b2 b4 b5 b6 : Bool, (L b1 b2 b4 b5 b6).setIfInBounds i4 true = L b1 b2 true b5 b6) (h5 : ∀ b1 b2 b4 b5 b6 : Bool, (L b1 b2 b4 b5 b6).setIfInBounds i5 true = L b1 b2 b4 true b6) (h6 : ∀ b1 b2 b4 b5 b6 : Bool, (L b1 b2 b4 b5 b6).setIfInBounds i6 true = L b1 b2 b4 b5 true)
  (s1 : ∀ b4 b5 b6 a w, Φ false false b4 b5 b6 a w → wpOp P ops Q i1 (fun a' w' => S w' ∧ Φ true false b4 b5 b6 a' w') a w)
  (s2 : ∀ b4 b5 b6 a w, Φ true false b4 b5 b6 a w → wpOp P ops Q i2 (fun a' w' => S w' ∧ Φ true true b4 b5 b6 a' w') a w)
  (s4 : ∀ b1 b2 b5 b6 a w, Φ b1 b2 false b5 b6 a w → wpOp P ops Q i4 (fun a' w' => S w' ∧ Φ b1 b2 true b5 b6 a' w') a w)
  (s5 : ∀ b1 b2 b4 b6 a w, Φ b1 b2 b4 false b6 a w → wpOp P ops Q i5 (fun a' w' => S w' ∧ Φ b1 b2 b4 true b6 a' w') a w)
  (s6 : ∀ b1 b2 b4 b5 a w, Φ b1 b2 b4 b5 false a w → wpOp P ops Q i6 (fun a' w' => S w' ∧ Φ b1 b2 b4 b5 true a' w') a w)
  (hend : ∀ a w, Φ true true true true true a w → S w → wpAnyH P .any ops Q S m (L true true true true true) a w) :
  ∀ (k : Nat) (b1 b2 b4 b5 b6 : Bool), (b2 = true → b1 = true) → k = (if b1 then 0 else 1) + (if b2 then 0 else 1) + (if b4 then 0 else 1) + (if b5 then 0 else 1) + (if b6 then 0 else 1) → ∀ a w, Φ b1 b2 b4 b5 b6 a w → S w → wpAnyH P .any ops Q S (m + k) (L b1 b2 b4 b5 b6) a w := by
 intro k
 induction k with
 | zero =>
  intro b1 b2 b4 b5 b6 _ hk a w hΦ hS
  cases b1 <;> cases b2 <;> cases b4 <;> cases b5 <;> cases b6 <;> first | (exfalso; revert hk; decide) | exact hend a w hΦ hS
 | succ k ih =>
  intro b1 b2 b4 b5 b6 hb hk a w hΦ hS
  have hall : (b2 && b4 && b5 && b6) = false := by
   cases b1 <;> cases b2 <;> cases b4 <;> cases b5 <;> cases b6 <;> first | rfl | (exfalso; simp at hk hb)
  refine wpAnyH_all (hr b1 b2 b4 b5 b6 hb hall) ?_ ?_
  ·cases b1 <;> cases b2 <;> cases b4 <;> cases b5 <;> cases b6 <;> simp at hb hall ⊢
  ·intro i hi
   rcases List.mem_append.1 hi with hi | hi
   ·cases b1 with
    | false =>
     simp only [Bool.false_eq_true, if_false, List.mem_singleton] at hi
     subst hi
     have hb2 : b2 = false := by cases b2 <;> simp at hb ⊢
     subst hb2
     refine wpOp_mono (fun a' w' h => ⟨h.1, ?_⟩) (s1 b4 b5 b6 a w hΦ)
     rw [h1]
     exact ih _ _ _ _ _ (by simp) (by simp at hk ⊢; omega) a' w' h.2 h.1
    | true =>
     cases b2 with
     | true => simp at hi
     | false =>
      simp only [Bool.false_eq_true, if_false, if_true, List.mem_singleton] at hi
      subst hi
      refine wpOp_mono (fun a' w' h => ⟨h.1, ?_⟩) (s2 b4 b5 b6 a w hΦ)
      rw [h2]
      exact ih _ _ _ _ _ (by simp) (by simp at hk ⊢; omega) a' w' h.2 h.1
   ·rcases List.mem_append.1 hi with hi | hi
    ·cases b4 with
     | true => simp at hi
     | false =>
      simp only [Bool.false_eq_true, if_false, List.mem_singleton] at hi
      subst hi
      refine wpOp_mono (fun a' w' h => ⟨h.1, ?_⟩) (s4 b1 b2 b5 b6 a w hΦ)
      rw [h4]
      exact ih _ _ _ _ _ hb (by simp at hk ⊢; omega) a' w' h.2 h.1
    ·rcases List.mem_append.1 hi with hi | hi
     ·cases b5 with
      | true => simp at hi
      | false =>
       simp only [Bool.false_eq_true, if_false, List.mem_singleton] at hi
       subst hi
       refine wpOp_mono (fun a' w' h => ⟨h.1, ?_⟩) (s5 b1 b2 b4 b6 a w hΦ)
       rw [h5]
       exact ih _ _ _ _ _ hb (by simp at hk ⊢; omega) a' w' h.2 h.1
     ·cases b6 with
      | true => simp at hi
      | false =>
       simp only [Bool.false_eq_true, if_false, List.mem_singleton] at hi
       subst hi
       refine wpOp_mono (fun a' w' h => ⟨h.1, ?_⟩) (s6 b1 b2 b4 b5 a w hΦ)
       rw [h6]
       exact ih _ _ _ _ _ hb (by simp at hk ⊢; omega) a' w' h.2 h.1
section
variable {P : Program}
theorem wp_store_blk {op : Oper} {a : Act} {w : World} {K : Act → World → Prop} {Q : Exit → Act → World → Prop} (ty : TypeId) (x y : Operand) (ho : op.op = .store ty x y)
  (g o : Nat) (t : TypeId) (cs vs : List Value) (hx : a.eval x = .pointer (some ⟨g, o, none⟩)) (hy : a.eval y = .agg vs.toArray) (hb : Blk w g t cs) (hl : o + vs.length ≤ cs.length)
  (hi : (P.info? ty).map (·.size) = some vs.length) (h1 : ∀ v ∈ vs, v.oneCell' = true)
  (h : ∀ w', Only (fun i => i = g) w w' → w'.heap.size = w.heap.size → Blk w' g t (lay cs o vs) → K (a.put op.dst undef) w') : op.wp P a w K Q := by
 refine wp_store_mid ty x y ho g o vs.toArray hx hy (by simpa using hb.there o vs.length hl) (by simpa using hi) (all_oneCell_toArray h1) ?_
 exact h _ (Only.setCells (F := fun i => i = g) (.inr rfl) _ _ _ (Only.refl _ w)) (by rw [setCells_size]) (by simpa using hb.cells vs o w cs)
end
end Go.Proofs.YtjnpkcabkccaoaaGreat
