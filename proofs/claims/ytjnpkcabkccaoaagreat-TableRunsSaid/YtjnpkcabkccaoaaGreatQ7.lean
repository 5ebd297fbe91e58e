/- Lemmas and walks for TableRuns, packed. -/
import Derived.Test.YtjnpkcabkccaoaaGreatQ4
import Derived.Test.YtjnpkcabkccaoaaGreatQ5
import Derived.StillTailTactics
set_option maxRecDepth 100000
set_option maxHeartbeats 16000000
namespace Go.Proofs.YtjnpkcabkccaoaaGreat
open Go.RowKit
section
theorem u_byte (x : Int) (h0 : 0 ≤ x) (h1 : x ≤ 255) : ∃ X : W32, x = u X ∧ X.toNat = x.toNat := by
 refine ⟨BitVec.ofNat 32 x.toNat, ?_, ?_⟩
 ·unfold u
  rw [BitVec.toNat_ofNat, Nat.mod_eq_of_lt (by omega)]
  omega
 ·rw [BitVec.toNat_ofNat, Nat.mod_eq_of_lt (by omega)]
theorem or_add (a b k : Nat) (h : b < 2 ^ k) : (a * 2 ^ k) ||| b = a * 2 ^ k + b := by
 rw [Nat.mul_comm, ← Nat.two_pow_add_eq_or_of_lt h]
theorem word_nat (x0 x1 x2 x3 : Nat) (h0 : x0 < 256) (h1 : x1 < 256) (h2 : x2 < 256) (h3 : x3 < 256) :
  (((x0 * 16777216 % 4294967296) ||| (x1 * 65536 % 4294967296)) ||| (x2 * 256 % 4294967296)) ||| x3 = (((x0 * 256 + x1) * 256 + x2) * 256 + x3) % 4294967296 := by
 have k1 : x1 * 65536 < 16777216 := Nat.lt_of_lt_of_le (Nat.mul_lt_mul_of_pos_right h1 (by decide)) (by decide)
 have k2 : x2 * 256 < 65536 := Nat.lt_of_lt_of_le (Nat.mul_lt_mul_of_pos_right h2 (by decide)) (by decide)
 have m0 : x0 * 16777216 < 4294967296 := Nat.lt_of_lt_of_le (Nat.mul_lt_mul_of_pos_right h0 (by decide)) (by decide)
 have m1 : x1 * 65536 < 4294967296 := Nat.lt_of_lt_of_le k1 (by decide)
 have m2 : x2 * 256 < 4294967296 := Nat.lt_of_lt_of_le k2 (by decide)
 have e1 : x0 * 16777216 ||| x1 * 65536 = x0 * 16777216 + x1 * 65536 := or_add x0 (x1 * 65536) 24 k1
 have e2 : (x0 * 256 + x1) * 65536 ||| x2 * 256 = (x0 * 256 + x1) * 65536 + x2 * 256 := or_add (x0 * 256 + x1) (x2 * 256) 16 k2
 have e3 : ((x0 * 256 + x1) * 256 + x2) * 256 ||| x3 = ((x0 * 256 + x1) * 256 + x2) * 256 + x3 := or_add ((x0 * 256 + x1) * 256 + x2) x3 8 h3
 have f1 : x0 * 16777216 + x1 * 65536 = (x0 * 256 + x1) * 65536 := by rw [Nat.add_mul, Nat.mul_assoc]
 have f2 : (x0 * 256 + x1) * 65536 + x2 * 256 = ((x0 * 256 + x1) * 256 + x2) * 256 := by rw [Nat.add_mul ((x0 * 256 + x1) * 256), Nat.mul_assoc (x0 * 256 + x1)]
 have m3 : ((x0 * 256 + x1) * 256 + x2) * 256 + x3 < 4294967296 := by
  have a1 : x0 * 256 + x1 < 65536 := by omega
  have a2 : (x0 * 256 + x1) * 256 + x2 < 16777216 := by generalize x0 * 256 + x1 = y at a1; omega
  generalize (x0 * 256 + x1) * 256 + x2 = y at a2
  omega
 rw [Nat.mod_eq_of_lt m0, Nat.mod_eq_of_lt m1, Nat.mod_eq_of_lt m2, Nat.mod_eq_of_lt m3, e1, f1, e2, f2, e3]
theorem word_or (X0 X1 X2 X3 : W32) (h0 : X0.toNat < 256) (h1 : X1.toNat < 256) (h2 : X2.toNat < 256) (h3 : X3.toNat < 256) :
  (((X0 <<< 24) ||| (X1 <<< 16)) ||| (X2 <<< 8)) ||| X3 = BitVec.ofNat 32 (((X0.toNat * 256 + X1.toNat) * 256 + X2.toNat) * 256 + X3.toNat) := by
 apply BitVec.eq_of_toNat_eq
 rw [BitVec.toNat_or, BitVec.toNat_or, BitVec.toNat_or, BitVec.toNat_shiftLeft, BitVec.toNat_shiftLeft, BitVec.toNat_shiftLeft, BitVec.toNat_ofNat]
 rw [Nat.shiftLeft_eq, Nat.shiftLeft_eq, Nat.shiftLeft_eq]
 exact word_nat _ _ _ _ h0 h1 h2 h3
def filled (l : List W32) : List W32 := l ++ List.replicate (64 - l.length) 0
theorem filled_len (l : List W32) (h : l.length ≤ 64) : (filled l).length = 64 := by simp [filled]; omega
theorem filled_set (l : List W32) (x : W32) (h : l.length < 64) : (filled l).set l.length x = filled (l ++ [x]) := by
 unfold filled
 rw [List.set_append_right _ _ (Nat.le_refl _), Nat.sub_self]
 have e : 64 - l.length = (64 - (l ++ [x]).length) + 1 := by simp; omega
 rw [e, List.replicate_succ, List.set_cons_zero, List.append_assoc]
 rfl
theorem filled_get (l : List W32) (i : Nat) (h : i < l.length) : (filled l).getD i 0 = l.getD i 0 := by
 unfold filled
 rw [List.getD_eq_getElem?_getD, List.getElem?_append_left h, List.getD_eq_getElem?_getD]
theorem filled_full (l : List W32) (h : l.length = 64) : filled l = l := by simp [filled, h]
theorem words_succ (b : List Int) (n : Nat) : Sha.words b (n + 1) = Sha.words b n ++ [Sha.word b n] := by simp [Sha.words, List.range_succ]
theorem turn_lit (w : World) (a : W32) (k : Nat) (K : Int) (hK : K = (k : Int)) (h0 : 0 < k) (h1 : k < 32) :
  Calls Tryz.prog 134 #[.int .u32 (u a), .int .i64 K] w fun e w' => e = .returned (.int .u32 (u (a.rotateRight k))) ∧ w' = w := by
 subst hK
 exact turn_any w a k h0 h1
attribute [local go_sem ↓] mkK_fold mkSt_fold loadK_fold loadSt_fold
attribute [local go_sem] u_xor u_and u_or u_not u_add
theorem spread_any (w : World) (A : Option Addr) (n c : Nat) (bs : List Int) (hB : Bys w A n bs) (hn : 64 ≤ n) (hn2 : n ≤ 1000000000) :
  Calls Tryz.prog 132 #[.slice A n c] w fun e w' => e = .returned (.agg (ucells (Sha.spread bs)).toArray) ∧ Below w.heap.size w w' := by
 obtain ⟨b, off, rfl, hcell⟩ := hB.2.2 (by omega)
 have hlen := hB.1
 have hlt : b < w.heap.size := by
  obtain ⟨x, hx⟩ : ∃ x, bs[0]? = some x := ⟨_, List.getElem?_eq_getElem (by omega)⟩
  exact World.block_lt_of_cell? w _ (hcell 0 x hx)
 have hbt := hide hB.2.1
 have HC := hide hcell
 clear hcell hB
 have B0 := hide (show Blk ((w.alloc (.cells (ucells zeroK).toArray 204)).alloc (.cells (ucells zeroK).toArray 204)) w.heap.size 204 (ucells zeroK) from (Blk.new w _ _).alloc _)
 have B1 := hide (show Blk ((w.alloc (.cells (ucells zeroK).toArray 204)).alloc (.cells (ucells zeroK).toArray 204)) (w.heap.size + 1) 204 (ucells zeroK) from Blk.new1 w _ _ _)
 have O0 := hide (show Below w.heap.size w ((w.alloc (.cells (ucells zeroK).toArray 204)).alloc (.cells (ucells zeroK).toArray 204)) from Below.then_ ((Below.refl _ w).alloc (Nat.le_refl _) _) ((Below.refl _ _).alloc (Nat.le_refl _) _))
 have HU := hide Tryz.underlying204
 have lz : (ucells zeroK).length = 64 := by rw [ucells_len]; rfl
 have hI := isK
 go_enter Tryz.func132, Tryz.ntmps132
 go_wp2_with (refine wpList_alloc_agg rfl 204 rfl (ucells zeroK) zeroK_info ?_; simp only [Act.put, List.setIfInBounds_toArray, List.set_cons_zero, List.set_cons_succ, World.size_alloc])
 obtain ⟨w2, hw2⟩ : ∃ w2, w2 = (w.alloc (.cells (ucells zeroK).toArray 204)).alloc (.cells (ucells zeroK).toArray 204) := ⟨_, rfl⟩
 obtain ⟨g, hg⟩ : ∃ g, g = w.heap.size + 1 := ⟨_, rfl⟩
 rw [← hw2] at B0 B1 O0
 rw [← hg] at B1
 rw [← hw2, ← hg]
 clear hw2
 have hgb := hide (show b ≠ g by omega)
 have HG := hide hg
 clear hg
 go_loopw [4, 8, 46] (fun _ i _ wr => ∃ j : Nat, j ≤ 16 ∧ i = .int .i64 j ∧ Blk wr g 204 (ucells (filled (Sha.words bs j))) ∧ Only (fun i => i = g) w2 wr) (fun _ i _ _ => 16 - (intOf i).toNat)
 case atStart => exact ⟨0, by omega, rfl, B1.out, Only.refl _ _⟩
 case round =>
  obtain ⟨j, hj, rfl, hY, ho⟩ := hrel
  have hll : (Sha.words bs j).length = j := Sha.words_len bs j
  by_cases hlt2 : j < 16
  ·have get : ∀ i, i < 64 → ∃ X : W32, X.toNat = (bs.getD i 0).toNat ∧ X.toNat < 256 ∧ wr.cell? ⟨b, off + i, none⟩ = some (.int .u8 (u X)) := fun i hi => by
    obtain ⟨x, hx⟩ : ∃ x, bs[i]? = some x := ⟨_, List.getElem?_eq_getElem (by omega)⟩
    have hr := hbt.out x (List.mem_of_getElem? hx)
    obtain ⟨X, e1, e2⟩ := u_byte x hr.1 hr.2
    refine ⟨X, by rw [e2, List.getD_eq_getElem?_getD, hx]; rfl, by omega, ?_⟩
    have h1 := cell_under O0.out (HC.out i x hx)
    have h2 : wr.cell? ⟨b, off + i, none⟩ = some (.int .u8 x) := (World.cell?_of_block (w := w2) (ho.block b (World.block_lt_of_cell? w2 _ h1) (fun e => hgb.out e))).trans h1
    rw [h2, e1]
   obtain ⟨X0, e0, l0, c0⟩ := get (4 * j) (by omega)
   obtain ⟨X1, e1, l1, c1⟩ := get (4 * j + 1) (by omega)
   obtain ⟨X2, e2, l2, c2⟩ := get (4 * j + 2) (by omega)
   obtain ⟨X3, e3, l3, c3⟩ := get (4 * j + 3) (by omega)
   have hword : (((X0 <<< 24) ||| (X1 <<< 16)) ||| (X2 <<< 8)) ||| X3 = Sha.word bs j := by rw [word_or X0 X1 X2 X3 l0 l1 l2 l3, Sha.word, e0, e1, e2, e3]
   have v0 : IntKind.u32.wrap (u X0) = u X0 := wrap_nat _ X0.isLt
   have v1 : IntKind.u32.wrap (u X1) = u X1 := wrap_nat _ X1.isLt
   have v2 : IntKind.u32.wrap (u X2) = u X2 := wrap_nat _ X2.isLt
   have v3 : IntKind.u32.wrap (u X3) = u X3 := wrap_nat _ X3.isLt
   have s0 : IntKind.u32.wrap (u X0 * 16777216) = u (X0 <<< 24) := u_shl X0 24
   have s1 : IntKind.u32.wrap (u X1 * 65536) = u (X1 <<< 16) := u_shl X1 16
   have s2 : IntKind.u32.wrap (u X2 * 256) = u (X2 <<< 8) := u_shl X2 8
   have i0 : (0 : Int) ≤ (j : Int) := by omega
   have i1 : (j : Int) < 16 := by omega
   have i2 : (64 : Int) ≤ (n : Int) := by omega
   have a0 : IntKind.i64.wrap (4 * (j : Int)) = 4 * (j : Int) := by rw [IntKind.wrap_i64]; omega
   have a1 : IntKind.i64.wrap (4 * (j : Int) + 1) = 4 * (j : Int) + 1 := by rw [IntKind.wrap_i64]; omega
   have a2 : IntKind.i64.wrap (4 * (j : Int) + 2) = 4 * (j : Int) + 2 := by rw [IntKind.wrap_i64]; omega
   have a3 : IntKind.i64.wrap (4 * (j : Int) + 3) = 4 * (j : Int) + 3 := by rw [IntKind.wrap_i64]; omega
   have n0 : (4 * (j : Int)).toNat = 4 * j := by omega
   have n1 : (4 * (j : Int) + 1).toNat = 4 * j + 1 := by omega
   have n2 : (4 * (j : Int) + 2).toNat = 4 * j + 2 := by omega
   have n3 : (4 * (j : Int) + 3).toNat = 4 * j + 3 := by omega
   have p0 : (0 : Int) ≤ 4 * (j : Int) := by omega
   have p1 : (0 : Int) ≤ 4 * (j : Int) + 1 := by omega
   have p2 : (0 : Int) ≤ 4 * (j : Int) + 2 := by omega
   have p3 : (0 : Int) ≤ 4 * (j : Int) + 3 := by omega
   have q0 : 4 * (j : Int) < (n : Int) := by omega
   have q1 : 4 * (j : Int) + 1 < (n : Int) := by omega
   have q2 : 4 * (j : Int) + 2 < (n : Int) := by omega
   have q3 : 4 * (j : Int) + 3 < (n : Int) := by omega
   have HY := hide hY
   have HO := hide ho
   clear get hY ho hbt HC e0 e1 e2 e3 l0 l1 l2 l3
   go_wp2_with fail
   go_still_tail 34, (by kernel_rfl)
   change wpList _ _ _ _ _ wr.drew
   obtain ⟨w3, hw3⟩ : ∃ w3, w3 = wr.drew := ⟨_, rfl⟩
   have hY : Blk w3 g 204 (ucells (filled (Sha.words bs j))) := by rw [hw3]; exact HY.out
   have ho : Only (fun i => i = g) w2 w3 := by rw [hw3]; exact HO.out.drew
   rw [← hw3]
   clear hw3 HY HO c0 c1 c2 c3
   have cg : w3.cell? ⟨g, j, none⟩ = some (.int .u32 (u ((filled (Sha.words bs j)).getD j 0))) := by rw [hY.cell]; exact ucells_get _ _ (by rw [filled_len _ (by omega)]; omega)
   have fg := hY.frozen j
   have hY2 := hide (hY.set_ j (.int .u32 (u (Sha.word bs j))))
   have hS : (filled (Sha.words bs j)).set j (Sha.word bs j) = filled (Sha.words bs (j + 1)) := by
    rw [words_succ]
    have := filled_set (Sha.words bs j) (Sha.word bs j) (by omega)
    rwa [hll] at this
   rw [ucells_set, hS] at hY2
   have HO3 := hide (ho.trans (Only.cell1 w3 g j (.int .u32 (u (Sha.word bs j)))) (fun _ _ h => h))
   clear hY ho hS
   go_wp2_with fail
   exact ⟨⟨j + 1, by omega, by simp, hY2.out, HO3.out⟩, by simp [intOf]; omega⟩
  ·obtain rfl : j = 16 := by omega
   have Bz := hide (ho.blk B0.out (by have := HG.out; omega))
   obtain ⟨w4, hw4⟩ : ∃ w4, w4 = wr := ⟨_, rfl⟩
   rw [← hw4] at hY ho Bz ⊢
   have HY := hide hY
   have HO0 := hide ho
   clear hY ho hbt HC hw4 wr
   go_wp2_with fail
   go_loopw [5] (fun i ws => ∃ m : Nat, m ≤ 48 ∧ i = .int .i64 (16 + (m : Int)) ∧ Blk ws g 204 (ucells (filled (Sha.grow m (Sha.words bs 16)))) ∧ Only (fun i => i = g) w4 ws) (fun i _ => (64 - intOf i).toNat)
   case atStart => exact ⟨0, by omega, rfl, HY.out, Only.refl _ _⟩
   case round =>
    obtain ⟨m, hm, rfl, hY, ho⟩ := hrel
    obtain ⟨l, hl⟩ : ∃ l, l = Sha.grow m (Sha.words bs 16) := ⟨_, rfl⟩
    have hll : l.length = 16 + m := by rw [hl, Sha.grow_len, Sha.words_len]
    have hgs : Sha.grow (m + 1) (Sha.words bs 16) = l ++ [Sha.next l] := by rw [Sha.grow_succ, ← hl]
    rw [← hl] at hY
    have HY := hide hY
    have HO := hide ho
    by_cases hlt : m < 48
    ·have get : ∀ i, i < l.length → wr.cell? ⟨g, i, none⟩ = some (.int .u32 (u (l.getD i 0))) := fun i hi => by
      rw [hY.cell, ucells_get _ _ (by rw [filled_len _ (by omega)]; omega), filled_get _ _ hi]
     have c0 := get m (by omega)
     have c1 := get (m + 1) (by omega)
     have c9 := get (m + 9) (by omega)
     have c14 := get (m + 14) (by omega)
     obtain ⟨J, hJ⟩ : ∃ J : Int, J = 16 + (m : Int) := ⟨_, rfl⟩
     obtain ⟨X, hX⟩ : ∃ X, X = l.getD (m + 1) 0 := ⟨_, rfl⟩
     obtain ⟨Y, hY2⟩ : ∃ Y, Y = l.getD (m + 14) 0 := ⟨_, rfl⟩
     obtain ⟨P, hP⟩ : ∃ P, P = l.getD m 0 := ⟨_, rfl⟩
     obtain ⟨R, hR⟩ : ∃ R, R = l.getD (m + 9) 0 := ⟨_, rfl⟩
     rw [← hX] at c1
     rw [← hY2] at c14
     rw [← hP] at c0
     rw [← hR] at c9
     have hnx : Sha.next l = P + R + (X.rotateRight 7 ^^^ X.rotateRight 18 ^^^ (X >>> 3)) + (Y.rotateRight 17 ^^^ Y.rotateRight 19 ^^^ (Y >>> 10)) := by
      rw [hX, hY2, hP, hR, Sha.next, hll, show 16 + m - 16 = m by omega, show 16 + m - 7 = m + 9 by omega, show 16 + m - 15 = m + 1 by omega, show 16 + m - 2 = m + 14 by omega]
      rfl
     have HN := hide hnx
     have k1 : IntKind.i64.wrap (J - 15) = J - 15 := by rw [IntKind.wrap_i64]; omega
     have k2 : IntKind.i64.wrap (J - 2) = J - 2 := by rw [IntKind.wrap_i64]; omega
     have k3 : IntKind.i64.wrap (J - 16) = J - 16 := by rw [IntKind.wrap_i64]; omega
     have k4 : IntKind.i64.wrap (J - 7) = J - 7 := by rw [IntKind.wrap_i64]; omega
     have k5 : IntKind.i64.wrap (J + 1) = J + 1 := by rw [IntKind.wrap_i64]; omega
     have n1 : (J - 15).toNat = m + 1 := by omega
     have n2 : (J - 2).toNat = m + 14 := by omega
     have n3 : (J - 16).toNat = m := by omega
     have n4 : (J - 7).toNat = m + 9 := by omega
     have n5 : J.toNat = 16 + m := by omega
     have p1 : (15 : Int) ≤ J := by omega
     have p2 : (2 : Int) ≤ J := by omega
     have p3 : (16 : Int) ≤ J := by omega
     have p4 : (7 : Int) ≤ J := by omega
     have p5 : (0 : Int) ≤ J := by omega
     have q1 : J - 15 < 64 := by omega
     have q2 : J - 2 < 64 := by omega
     have q3 : J - 16 < 64 := by omega
     have q4 : J - 7 < 64 := by omega
     have q5 : J < 64 := by omega
     have h8 : u X / (8 : Int) = u (X >>> 3) := u_shr X 3
     have h10 : u Y / (1024 : Int) = u (Y >>> 10) := u_shr Y 10
     have HJ := hide hJ
     rw [← hJ]
     clear hJ hX hY2 hP hR hnx get hY ho hl hm
     go_wp2_with fail
     go_still (by kernel_rfl)
     obtain ⟨w5, hw5⟩ : ∃ w5, w5 = wr.drew := ⟨_, rfl⟩
     change Exit.then _ _ _ _ wr.drew
     have HY5 := hide (show Blk w5 g 204 (ucells (filled l)) by rw [hw5]; exact HY.out)
     have HO5 := hide (show Only (fun i => i = g) w4 w5 by rw [hw5]; exact HO.out.drew)
     rw [← hw5]
     have d0 : w5.cell? ⟨g, m, none⟩ = some (.int .u32 (u P)) := by rw [hw5]; exact c0
     have d9 : w5.cell? ⟨g, m + 9, none⟩ = some (.int .u32 (u R)) := by rw [hw5]; exact c9
     clear hw5 HY HO c0 c1 c9 c14
     go_wp2_with fail
     refine wp_region_still_tail 28 (by kernel_rfl) (by kernel_rfl) ?_
     simp only [List.take_succ_cons, List.take_zero, List.drop_succ_cons, List.drop_zero]
     repeat still_step
     still_call (turn_lit _ X 7 7 rfl (by decide) (by decide))
     repeat still_step
     still_call (turn_lit _ X 18 18 rfl (by decide) (by decide))
     repeat still_step
     still_call (turn_lit _ Y 17 17 rfl (by decide) (by decide))
     repeat still_step
     still_call (turn_lit _ Y 19 19 rfl (by decide) (by decide))
     repeat still_step
     try refine wpStill_nil ?_
     change wpList _ _ _ _ _ w5.drew
     obtain ⟨w6, hw6⟩ : ∃ w6, w6 = w5.drew := ⟨_, rfl⟩
     have hY : Blk w6 g 204 (ucells (filled l)) := by rw [hw6]; exact HY5.out
     have ho : Only (fun i => i = g) w4 w6 := by rw [hw6]; exact HO5.out.drew
     rw [← hw6]
     clear hw6 HY5 HO5 d0 d9
     have cg : w6.cell? ⟨g, 16 + m, none⟩ = some (.int .u32 (u ((filled l).getD (16 + m) 0))) := by rw [hY.cell]; exact ucells_get _ _ (by rw [filled_len _ (by omega)]; omega)
     have fg := hY.frozen (16 + m)
     have hY2 := hide (hY.set_ (16 + m) (.int .u32 (u (Sha.next l))))
     have hS : (filled l).set (16 + m) (Sha.next l) = filled (l ++ [Sha.next l]) := by
      have := filled_set l (Sha.next l) (by omega)
      rwa [hll] at this
     rw [ucells_set, hS, ← hgs] at hY2
     have HO3 := hide (ho.trans (Only.cell1 w6 g (16 + m) (.int .u32 (u (Sha.next l)))) (fun _ _ h => h))
     rw [← HN.out]
     clear hY ho hS
     go_wp2_with fail
     refine ⟨?_, by have := HJ.out; simp [intOf]; omega⟩
     repeat apply Exists.intro
     exact ⟨⟨m + 1, by omega, congrArg (Value.int .i64) (by have := HJ.out; omega), hY2.out, HO3.out⟩, rfl⟩
    ·obtain rfl : m = 48 := by omega
     have hf : filled l = Sha.spread bs := by rw [filled_full l (by omega), hl]; rfl
     rw [hf] at HY
     have ls : (ucells (Sha.spread bs)).length = 64 := by rw [ucells_len, Sha.spread_len]
     have B5 := hide (ho.blk Bz.out (by have := HG.out; omega))
     have BO := hide (show Below w.heap.size w wr from Below.trans O0.out (((HO0.out.trans ho (fun _ _ h => h))).below O0.out.size (fun i hi e => by have := HG.out; have h2 : i = g := e; omega)))
     clear hY ho
     go_wp2_with (first
      | (refine wpList_load_blk rfl 204 _ rfl g 0 204 (ucells (Sha.spread bs)) (ucells (Sha.spread bs)) _ (by rfl) HY.out (fun i v hv => by rw [Nat.zero_add]; exact hv) HU.out rfl (by rw [hI, ls]) ?_; simp only [pU])
      | (refine wpList_store_blk rfl 204 _ _ rfl w.heap.size 0 204 (ucells zeroK) (ucells (Sha.spread bs)) (by rfl) (by rfl) B5.out (by omega) (by rw [hI, ls]) (ucells_one _) ?_; intro w9 o9 z9 b9; simp only [Act.put]))
     rw [lay_all _ _ (by omega)] at b9
     refine bodyPost_ret (results_cell_blk rfl _ _ w.heap.size 204 _ _ (by rfl) b9 HU.out rfl (by rw [hI, ls])) rfl ⟨rfl, ?_⟩
     exact BO.out.trans (o9.below (by exact BO.out.size) (fun i hi => by omega))
end
end Go.Proofs.YtjnpkcabkccaoaaGreat
