/-
  piece.number: the number of bytes, by a range over slices.Backward.
-/
import Derived.RangeFuncNested
import Derived.RangeFuncBox
import Derived.RangeFuncLeaves
import Derived.Shelf.Abstract
import Derived.OwnWalkIn
import Derived.TacticsInMore
import Derived.LoopNIn
import Derived.LoopIn
import Derived.Test.YtfloclamdpageaaPieceC
namespace Go.Proofs.Ytfloclamdpageaa
open Go.RowKit Go.Shelf

attribute [local go_sem] Oper.semAt_some

/-- What slices.Backward gives: a place and a byte. -/
abbrev IB := { x : Nat × Int // 0 ≤ x.2 ∧ x.2 ≤ 255 }
/-- What has come when k rounds are over. -/
def upto {α : Type} (f : Nat → α) (k : Nat) : List α := (List.range k).map f
theorem upto_succ {α : Type} (f : Nat → α) (k : Nat) : upto f (k + 1) = upto f k ++ [f k] := by simp [upto, List.range_succ]
theorem upto_length {α : Type} (f : Nat → α) (k : Nat) : (upto f k).length = k := by simp [upto]
def byteAt (bs : List Int) (h : Byt bs) (i : Nat) : { x : Int // 0 ≤ x ∧ x ≤ 255 } :=
  if hi : i < bs.length then ⟨bs[i], h _ (List.getElem_mem hi)⟩ else ⟨0, by omega⟩
theorem byteAt_get (bs : List Int) (h : Byt bs) (i : Nat) (hi : i < bs.length) : bs[i]? = some (byteAt bs h i).1 := by
  simp [byteAt, hi]
def backAt (bs : List Int) (h : Byt bs) (k : Nat) : IB := ⟨(bs.length - 1 - k, (byteAt bs h (bs.length - 1 - k)).1), (byteAt bs h (bs.length - 1 - k)).2⟩
def encIB (x : IB) : Array Value := #[.int .i64 (x.1.1 : Int), .int .u8 x.1.2]

/-- Whatever lies in cells lies as it lay, but in block X. -/
def KpX (X : Nat) (A B : World) : Prop := ∀ i o, i ≠ X → A.heap[i]? = some o → o.isCells = true → B.heap[i]? = some o
theorem KpX.refl (X : Nat) (A : World) : KpX X A A := fun _ _ _ h _ => h
theorem KpX.trans {X : Nat} {A B C : World} (h : KpX X A B) (k : KpX X B C) : KpX X A C := fun i o hi ho hc => k i o hi (h i o hi ho hc) hc
theorem KpX.put {X : Nat} (W : World) (l : Nat) (o o' : Obj) (h : W.heap[l]? = some o) (hc : o.isCells = false) : KpX X W (W.putObj l o') := fun i p hi hp hpc => by
  have hne : i ≠ l := by
    rintro rfl
    rw [h] at hp
    injection hp with hp
    subst hp
    rw [hc] at hpc
    cases hpc
  have hg := grownBy_putObj' W l o'
  exact (hg.block i (Array.getElem?_eq_some_iff.1 hp).1 (fun e => by injection e with e; exact hne e)).trans hp
theorem KpX.cell {X : Nat} {A B : World} (h : KpX X A B) {p : Addr} {v : Value} (hp : p.block ≠ X) (hv : A.cell? p = some v) : B.cell? p = some v := by
  have : ∃ o, A.heap[p.block]? = some o ∧ o.isCells = true := by
    unfold World.cell? at hv
    split at hv
    · rename_i c t m ho
      exact ⟨_, ho, rfl⟩
    · cases hv
  obtain ⟨o, ho, hc⟩ := this
  exact (World.cell?_of_block (w := A) ((h p.block o hp ho hc).trans ho.symm)).trans hv
theorem KpX.set (X : Nat) (A : World) (o : Nat) (v : Value) : KpX X A (A.setCell ⟨X, o, none⟩ v) := fun i _ hi hp _ => (Below.heap_setCell A ⟨X, o, none⟩ v i hi).trans hp
set_option maxRecDepth 100000 in
set_option maxHeartbeats 2000000 in
theorem back1_in (F : Fence) (n : Nat) (h7 : F.fn 100) (hro : F.round = none) (hn : 1 ≤ n) (l Bs X b off cap : Nat) (bs : List Int) (hby : Byt bs) (hreach : bs.length ≤ 1000000000) (hb : b ≠ X) (J Jx : List IB → World → Prop)
    (hY : ∀ pre x W, J pre W → pre.length < bs.length → YieldAt F (n - 1) Try.prog l (encIB x) W fun e W' =>
      (e = .returned (.bool true) ∧ J (pre ++ [x]) W' ∧ KpX X W W') ∨ (e = .returned (.bool false) ∧ Jx (pre ++ [x]) W'))
    (W : World) (hBn : Bs ≠ X) (hBs : W.cell? ⟨Bs, 0, none⟩ = some (.slice (some ⟨b, off, none⟩) bs.length cap)) (hc : ∀ (j : Nat) (v : Int), bs[j]? = some v → W.cell? ⟨b, off + j, none⟩ = some (.int .u8 v)) (h0 : J [] W) :
    CallsIn F n Try.prog 100 #[.func (.yield l) #[] #[], .pointer (some ⟨Bs, 0, none⟩)] W fun e W' => (∃ v, e = .returned v) ∧
      ((∃ ys, ys = upto (backAt bs hby) bs.length ∧ J ys W') ∨ (∃ pre, Jx pre W')) := by
  have HC := hide hc
  clear hc
  refine callsIn_of_wp Try.func100 rfl h7 ?_ hro
  simp only [Try.ntmps100, List.size_toArray, List.length_cons, List.length_nil, Nat.reduceAdd, Nat.reduceSub, Array.replicate_succ, Array.replicate_zero, List.push_toArray, List.append_toArray, List.nil_append, List.cons_append]
  gi_wp2
  gi_loopw [3] (fun i wr => ∃ r : Nat, r ≤ bs.length ∧ i = .int .i64 ((r : Int) - 1) ∧ J (upto (backAt bs hby) (bs.length - r)) wr ∧ KpX X W wr)
    (fun i _ => (intOf i + 1).toNat)
  case atStart => exact ⟨bs.length, Nat.le_refl _, rfl, by simpa [upto] using h0, KpX.refl _ _⟩
  case round =>
    obtain ⟨r, hr, rfl, hJs, hnx⟩ := hrel
    have hBs2 : wr.cell? ⟨Bs, 0, none⟩ = some (.slice (some ⟨b, off, none⟩) bs.length cap) := hnx.cell (p := ⟨Bs, 0, none⟩) hBn hBs
    cases r with
    | zero =>
      have e : (((0 : Nat) : Int) - 1) = -1 := by omega
      rw [e]
      have hJ2 : J (upto (backAt bs hby) bs.length) wr := by simpa using hJs
      gi_wp2
      go_end0
      exact ⟨⟨_, rfl⟩, .inl ⟨_, rfl, hJ2⟩⟩
    | succ r =>
      have e : (((r + 1 : Nat) : Int) - 1) = (r : Int) := by omega
      rw [e]
      have hrl : r < bs.length := by omega
      have hback : backAt bs hby (bs.length - (r + 1)) = ⟨(r, (byteAt bs hby r).1), (byteAt bs hby r).2⟩ := by
        have : bs.length - 1 - (bs.length - (r + 1)) = r := by omega
        simp [backAt, this]
      have hup : upto (backAt bs hby) (bs.length - r) = upto (backAt bs hby) (bs.length - (r + 1)) ++ [⟨(r, (byteAt bs hby r).1), (byteAt bs hby r).2⟩] := by
        rw [← hback, ← upto_succ]; congr 1; omega
      have hcx : wr.cell? ⟨b, off + r, none⟩ = some (.int .u8 (byteAt bs hby r).1) := hnx.cell (p := ⟨b, off + r, none⟩) hb (HC.out r _ (byteAt_get bs hby r hrl))
      obtain ⟨fn, tmps, assign, body, hy, hR⟩ := hY _ ⟨(r, (byteAt bs hby r).1), (byteAt bs hby r).2⟩ wr hJs (by rw [upto_length]; omega)
      dsimp only [encIB] at hy hR
      have HU := hide hup
      generalize byteAt bs hby r = x at *
      have r0 : (0 : Int) ≤ (r : Int) := by omega
      clear hback hup e
      gi_wp2
      refine hR.mono ?_
      rintro e W3 (⟨rfl, hJ3, hk3⟩ | ⟨rfl, hJx3⟩)
      · have hBs3 : W3.cell? ⟨Bs, 0, none⟩ = some (.slice (some ⟨b, off, none⟩) bs.length cap) := hk3.cell (p := ⟨Bs, 0, none⟩) hBn hBs2
        gi_wp2
        go_roundw
        case rel => exact ⟨r, by omega, rfl, by rw [HU.out]; exact hJ3, hnx.trans hk3⟩
        case measure => simp [intOf]
      · gi_wp2
        refine bodyPost_ret (results_none rfl _ _ _) rfl ?_
        exact ⟨⟨_, rfl⟩, .inr ⟨_, hJx3⟩⟩
set_option maxRecDepth 100000 in
set_option maxHeartbeats 1000000 in
/-- .. at no bytes: no round. -/
theorem back1_nil_in (F : Fence) (n : Nat) (h7 : F.fn 100) (hro : F.round = none) (l Bs : Nat) (A : Option Addr) (cap : Nat) (J : List IB → World → Prop) (W : World) (hBs : W.cell? ⟨Bs, 0, none⟩ = some (.slice A 0 cap)) (h0 : J [] W) :
    CallsIn F n Try.prog 100 #[.func (.yield l) #[] #[], .pointer (some ⟨Bs, 0, none⟩)] W fun e W' => (∃ v, e = .returned v) ∧ J [] W' := by
  refine callsIn_of_wp Try.func100 rfl h7 ?_ hro
  simp only [Try.ntmps100, List.size_toArray, List.length_cons, List.length_nil, Nat.reduceAdd, Nat.reduceSub, Array.replicate_succ, Array.replicate_zero, List.push_toArray, List.append_toArray, List.nil_append, List.cons_append]
  gi_wp2
  gi_loopw [3] (fun i wr => i = .int .i64 (-1) ∧ J [] wr) (fun _ _ => 0)
  case atStart => exact ⟨by simp, h0⟩
  case round =>
    obtain ⟨rfl, hJs⟩ := hrel
    gi_wp2
    go_end0
    exact ⟨⟨_, rfl⟩, hJs⟩
set_option maxHeartbeats 1000000 in
theorem back_in (F : Fence) (n : Nat) (h5 : F.fn 92) (hro : F.round = none) (a : Option Addr) (len cap : Nat) (w : World) :
    CallsIn F n Try.prog 92 #[.slice a len cap] w fun e w' => e = .returned (.func (.func 100) #[] #[.pointer (some ⟨w.heap.size, 0, none⟩)]) ∧ w' = w.alloc (.cells #[.slice a len cap] 22) := by
  refine callsIn_of_wp Try.func92 rfl h5 ?_ hro
  simp only [Try.ntmps92, List.size_toArray, List.length_cons, List.length_nil, Nat.reduceAdd, Nat.reduceSub, Array.replicate_succ, Array.replicate_zero, List.push_toArray, List.append_toArray, List.nil_append, List.cons_append]
  gi_wp2
  go_ret
  exact ⟨rfl, rfl⟩
theorem back_stops (F : Fence) (n : Nat) (h7 : F.fn 100) (hro : F.round = none) (hn : 1 ≤ n) (Bs X : Nat) (A : Option Addr) (cap : Nat) (bs : List Int) (hby : Byt bs) (hreach : bs.length ≤ 1000000000) (w : World) (hBs : Bs < w.heap.size) (hX : Bs ≠ X)
    (hc : w.cell? ⟨Bs, 0, none⟩ = some (.slice A bs.length cap)) (hI : Bys w A bs.length bs) (hA : 0 < bs.length → ∀ ad, A = some ad → ad.block ≠ X) :
    SeqStopsK F n Try.prog 100 #[.pointer (some ⟨Bs, 0, none⟩)] encIB (KpX X) (fun ys => ys = upto (backAt bs hby) bs.length) (fun _ => True) bs.length w := fun l J Jx W hW _ _ hY h0 => by
  have hc' := (hW.cell (p := ⟨Bs, 0, none⟩) hBs).trans hc
  have hI2 := hI.below hW
  by_cases hz : 0 < bs.length
  · obtain ⟨b, off, rfl, hcs⟩ := hI2.2.2 hz
    refine (back1_in F n h7 hro hn l Bs X b off cap bs hby hreach (hA hz _ rfl) J Jx hY W hX hc' hcs h0).mono ?_
    rintro e W' ⟨he, ⟨ys, rfl, hj⟩ | ⟨pre, hj⟩⟩
    · exact ⟨he, .inl ⟨_, rfl, hj⟩⟩
    · exact ⟨he, .inr ⟨_, trivial, hj⟩⟩
  · have e0 : bs.length = 0 := by omega
    rw [e0] at hc'
    refine (back1_nil_in F n h7 hro l Bs A cap J W hc' h0).mono fun e W' ⟨he, hj⟩ => ⟨he, .inl ⟨_, by rw [e0]; rfl, hj⟩⟩
/-- The number of what has come, the highest byte first. -/
def bnum : List IB → Nat
  | [] => 0
  | x :: l => x.1.2.toNat * 256 ^ l.length + bnum l
theorem bnum_lt (l : List IB) : bnum l < 256 ^ l.length := by
  induction l with
  | nil => simp [bnum]
  | cons x l ih =>
    simp only [bnum, List.length_cons, Nat.pow_succ]
    have h1 := x.2
    have h2 : x.1.2.toNat ≤ 255 := by omega
    have h3 := Nat.mul_le_mul_right (256 ^ l.length) h2
    omega
theorem bnum_snoc (l : List IB) (x : IB) : bnum (l ++ [x]) = bnum l * 256 + x.1.2.toNat := by
  induction l with
  | nil => simp [bnum]
  | cons y l ih =>
    simp only [List.cons_append, bnum, ih, List.length_append, List.length_cons, List.length_nil, Nat.pow_succ, Nat.add_mul]
    rw [Nat.mul_assoc]; omega
theorem bnum_all (bs : List Int) (h : Byt bs) : bnum (upto (backAt bs h) bs.length) = num bs := by
  have key : ∀ k, k ≤ bs.length → bnum (upto (backAt bs h) k) = num (bs.drop (bs.length - k)) := by
    intro k
    induction k with
    | zero => intro _; simp [upto, bnum, num]
    | succ k ih =>
      intro hk
      rw [upto_succ, bnum_snoc, ih (by omega)]
      have hi : bs.length - (k + 1) < bs.length := by omega
      rw [List.drop_eq_getElem_cons hi, num]
      have e1 : bs.length - (k + 1) + 1 = bs.length - k := by omega
      have e2 : bs.length - 1 - k = bs.length - (k + 1) := by omega
      have e3 := byteAt_get bs h _ hi
      rw [List.getElem?_eq_getElem hi] at e3
      injection e3 with e3
      rw [e1, e3]
      simp only [backAt, e2]
      omega
  have := key bs.length (Nat.le_refl _)
  simpa using this
theorem shl_or (n : Nat) (x : Int) (h0 : 0 ≤ x) (h1 : x ≤ 255) (hn : n < 72057594037927936) : bits .or .u64 (n * 256 : Int) x = ((n * 256 + x.toNat : Nat) : Int) := by
  have e : (n * 256 : Int) = ((n * 256 : Nat) : Int) := by omega
  obtain ⟨m, rfl⟩ : ∃ m : Nat, x = m := ⟨x.toNat, by omega⟩
  rw [e, u64_or_nat _ _ (by omega) (by omega), Int.toNat_natCast]
  congr 1
  rw [show n * 256 = n <<< 8 by rw [Nat.shiftLeft_eq], ← Nat.shiftLeft_add_eq_or_of_lt (by omega)]
set_option maxRecDepth 100000 in
set_option maxHeartbeats 2000000 in
theorem number_in (F : Fence) (n : Nat) (h3 : F.fn 84) (h5 : F.fn 92) (h7 : F.fn 100) (hro : F.round = none) (hn : 3 ≤ n) (A : Option Addr) (cap : Nat) (bs : List Int) (w : World) (hB : Bys w A bs.length bs) (hl : bs.length ≤ 8) :
    CallsIn F n Try.prog 84 #[.slice A bs.length cap] w fun e W' => e = .returned (.int .u64 (num bs)) ∧ Below w.heap.size w W' := by
  have h1 : 1 ≤ n := by omega
  refine callsIn_of_wp_marks Try.func84 rfl h3 ?_ hro
  simp only [Try.ntmps84, List.size_toArray, List.length_cons, List.length_nil, Nat.reduceAdd, Nat.reduceSub, Array.replicate_succ, Array.replicate_zero, List.push_toArray, List.append_toArray, List.nil_append, List.cons_append]
  gi_wp2_with (gi_at_call 92; refine (back_in F (n - 1) h5 hro _ _ _ _).mono ?_; rintro e w' ⟨rfl, rfl⟩)
  have bS := Boxed.new w 87 (.int .u64 0)
  have bN := Boxed.new (w.alloc (.cells #[.int .u64 0] 87)) 22 (.slice A bs.length cap)
  rw [World.size_alloc] at bN
  have hB0 : Below w.heap.size w ((w.alloc (.cells #[.int .u64 0] 87)).alloc (.cells #[.slice A bs.length cap] 22)) := ((Below.refl _ w).alloc (Nat.le_refl _) _).alloc (by simp) _
  have hby := hB.2.1
  refine wpIn_rangeFunc_ownG hro h1 (gf := 100) (lb := #[.pointer (some ⟨w.heap.size + 1, 0, none⟩)]) rfl h7 (enters_of Try.func100 (by kernel_rfl) rfl)
    (back_stops F (n - 1) h7 hro (by omega) (w.heap.size + 1) w.heap.size A cap bs hby (by omega) _ (by simp) (by omega) bN.cell (hB.below hB0) (fun h0 ad e => by have := hB.lt h0 ad e; omega)) (fun h k => h.trans k) (fun W l o o' _ h hc _ => KpX.put W l o o' h hc) (Below.refl _ _) (fun _ => rfl)
    (fun pre W => (W.cell? ⟨w.heap.size, 0, none⟩ = some (.int .u64 (bnum pre : Int)) ∧ W.frozen? ⟨w.heap.size, 0, none⟩ = false) ∧ Below w.heap.size w W)
    (fun _ _ _ => False)
    (OwnFrom.and (Own.from (fun s A B row hs hg hr => ⟨cell_kept hs.1 hg hr, (frozen_kept hs.1 hg hr).trans hs.2⟩) _) (ownFrom_below (Nat.le_refl _) (by simp; omega)))
    (fun _ _ _ _ _ hs _ _ => hs)
    ⟨⟨(bS.alloc _).cell, (bS.alloc _).frozen⟩, hB0⟩
    (fun x => { tmps := #[.slice A bs.length cap, undef, .int .u64 0, .pointer (some ⟨w.heap.size, 0, none⟩), undef, .int .u8 x.1.2, .slice A bs.length cap, .func (.func 100) #[] #[.pointer (some ⟨w.heap.size + 1, 0, none⟩)], .int .i64 (x.1.1 : Int), .int .u8 x.1.2, undef, undef, undef, undef, undef, undef], defers := [] }) ?assign ?body ?done ?stop
  case assign =>
    intro l x W K hK
    simp only [encIB]
    gi_wp2
    exact hK
  case body =>
    rintro l pre x W ⟨⟨hc, hf⟩, hB⟩ hlen
    have x0 : 0 ≤ x.1.2 := x.2.1
    have x1 : x.1.2 ≤ 255 := x.2.2
    have hu : IntKind.u64.wrap x.1.2 = x.1.2 := by rw [IntKind.wrap_u64]; omega
    have hn7 : bnum pre < 256 ^ 7 := Nat.lt_of_lt_of_le (bnum_lt pre) (Nat.pow_le_pow_right (by decide) (by omega))
    have hs := shl_or (bnum pre) x.1.2 x0 x1 (by simpa using hn7)
    gi_wp2
    refine ⟨(KeepsOthers.setCell _ _ _).from _, KpX.set _ _ _ _, ⟨?_, by rw [World.frozen?_setCell]; exact hf⟩, hB.setCell (p := ⟨w.heap.size, 0, none⟩) (Nat.le_refl _) _⟩
    have e : ((bnum pre : Nat) : Int) * 256 + max x.1.2 0 = ((bnum (pre ++ [x]) : Nat) : Int) := by rw [bnum_snoc]; omega
    rw [e]
    refine World.cell?_setCell_same' _ _ _ (by rw [hc]; rfl)
  case done =>
    rintro D ys W hD rfl ⟨⟨hc, _⟩, hB⟩ hK
    gi_wp2
    refine ⟨by simp, .inl ⟨_, _, rfl, run_takeDeferred hK, ?_⟩⟩
    exact ⟨_, results_tmp rfl _ _ _, by rw [← bnum_all bs hby]; rfl, hB.trans (belowK_b (w := w) (Nat.le_refl _) W D _ _ (by simp at hD; omega) hK rfl rfl)⟩
  case stop =>
    rintro D c pre W _ _ h _
    exact h.elim
theorem number_any (w : World) (A : Option Addr) (n cap : Nat) (bs : List Int) (hB : Bys w A n bs) (hl : n ≤ 8) :
    Calls Try.prog 84 #[.slice A n cap] w fun e w' => e = .returned (.int .u64 (num bs)) ∧ Below w.heap.size w w' := by
  have e := hB.1
  subst e
  exact (callsIn_wide (n := 3)).1 (number_in Fence.wide 3 trivial trivial trivial rfl (Nat.le_refl _) A cap bs w hB hl)
end Go.Proofs.Ytfloclamdpageaa
