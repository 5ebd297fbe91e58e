/- Lemmas and walks for TableRuns, packed. -/
import Derived.Test.YtjnpkcabkccaoaaGreatQ18
import Derived.Test.YtjnpkcabkccaoaaGreatQ9
set_option maxRecDepth 100000
set_option maxHeartbeats 16000000
namespace Go.Proofs.YtjnpkcabkccaoaaGreat
open Go.RowKit
section
theorem slice_both (A : Option Addr) (m c L H : Nat) (hL : L ≤ H) (hH : H ≤ m) (hc : m ≤ c) : ∃ A' : Option Addr, (∀ w : World, (Instr.slice 23 (.slice A m c) (some (.int .i64 (L : Int))) (some (.int .i64 (H : Int))) none).run Tryz.prog w = .ok (.slice A' (H - L) (c - L)) w) ∧
  (∀ w : World, (Instr.sliceAt 23 (.slice A m c) (some (.int .i64 (L : Int))) (some (.int .i64 (H : Int))) none).run Tryz.prog w = .ok (.slice A' (H - L) (c - L)) w) ∧
  (∀ (w : World) (bs : List Int), Bys w A m bs → Bys w A' (H - L) ((bs.drop L).take (H - L))) := by
 have hel : Tryz.prog.elem 23 = 5 := by kernel_rfl
 have hu : Tryz.prog.underlying 23 = some (.slice (Tryz.prog.elem 23)) := by rw [hel]; exact Tryz.underlying23
 have hsz : (Tryz.prog.info? 5).map (·.size) = some 1 := by kernel_rfl
 have h1 : ∀ w : World, (Instr.slice 23 (.slice A m c) (some (.int .i64 (L : Int))) (some (.int .i64 (H : Int))) none).run Tryz.prog w = .ok (.slice (if c = L then A else A.map (·.add L)) (H - L) (c - L)) w := fun w => by
  rw [run_slice_lh w _ A m c hu .i64 .i64 L H (by omega) (by omega) (by omega), hel, run_size hsz w]
  by_cases h : c = L
  ·simp [Result.andThen, sliced, h]
  ·simp [Result.andThen, sliced, h]
 refine ⟨if c = L then A else A.map (·.add L), h1, fun w => ?_, fun w bs hB => ?_⟩
 ·rw [run_sliceAt_slice w _ _ _ _ _ hu]; exact h1 w
 ·rcases Nat.eq_zero_or_pos (H - L) with h0 | h0
  ·exact Bys.zero _ _ _ (by rw [List.length_take, List.length_drop, hB.1]; omega) h0
  ·obtain ⟨b, off, e, _⟩ := hB.2.2 (by omega)
   subst e
   have e2 : (some ⟨b, off, none⟩ : Option Addr).map (fun x => x.add L) = some ⟨b, off + L, none⟩ := by simp only [Option.map_some, Addr.add_mid]
   rw [if_neg (by omega), e2]
   exact (hB.from_ L (by omega)).head (H - L) (by omega)
theorem five_short (b : List Int) (h : b.length < 5) : ((Rd.fixed (Rd.fixed ⟨b.take 5, 0⟩ 4).2 1).2).err ≠ 0 := by
 have ht : b.take 5 = b := List.take_of_length_le (by omega)
 rw [ht]
 have w4 : Rd.within 4 = 4 := by decide
 have w1 : Rd.within 1 = 1 := by decide
 by_cases h4 : b.length < 4
 ·have e1 : Rd.fixed ⟨b, 0⟩ 4 = (0, ⟨b, 61⟩) := by
   unfold Rd.fixed Rd.raw
   rw [w4, if_neg (by simp), if_pos (by simp; omega)]
   rfl
  rw [e1]
  unfold Rd.fixed Rd.raw
  rw [if_pos (by simp)]
  show (61 : Int) ≠ 0
  decide
 ·have e1 : Rd.fixed ⟨b, 0⟩ 4 = (num b, ⟨[], 0⟩) := fixed_all b 4 (by omega) (by decide) (by decide)
  rw [e1]
  unfold Rd.fixed Rd.raw
  rw [w1, if_neg (by simp), if_pos (by simp)]
  show (61 : Int) ≠ 0
  decide
theorem five_long (b : List Int) (h : 5 ≤ b.length) : ∃ x, b[4]? = some x ∧ Rd.fixed ⟨b.take 5, 0⟩ 4 = (num (b.take 4), ⟨[x], 0⟩) ∧ Rd.fixed ⟨[x], 0⟩ 1 = (x.toNat, ⟨[], 0⟩) := by
 match b, h with
 | a0 :: a1 :: a2 :: a3 :: x :: l, _ =>
  refine ⟨x, rfl, ?_, ?_⟩
  ·unfold Rd.fixed Rd.raw
   rw [show Rd.within 4 = 4 by decide, if_neg (by simp), if_neg (by simp)]
   rfl
  ·have := fixed_all [x] 1 rfl (by decide) (by decide)
   rw [show ((1 : Nat) : Int) = 1 from rfl] at this
   rw [this]
   simp [num]
def NextPost (w : World) (b : List Int) (kind : Int) (ahead : List Int) (e : Ending) (w' : World) : Prop :=
 (nextR b kind ahead = none ∧ e = .returned (.tuple #[.slice none 0 0, .agg (bcs zero32).toArray, .bool false]) ∧ Below w.heap.size w w') ∨
 ∃ (body s : List Int) (A1 : Option Addr) (n1 c1 : Nat), nextR b kind ahead = some (body, s) ∧ e = .returned (.tuple #[.slice A1 n1 c1, .agg (bcs s).toArray, .bool true]) ∧ Mine 5 w w' A1 n1 c1 body ∧ Fr w A1
attribute [local go_sem ↓] loadH_fold mkHz_fold
attribute [local go_sem] mkHz_zero
theorem next_any (w : World) (A : Option Addr) (n c : Nat) (b : List Int) (kind : Int) (ahead : List Int) (hB : Bys w A n b) (hc : n ≤ c) (hn : n ≤ 300000) (hk : 0 ≤ kind ∧ kind ≤ 255) (hl : ahead.length = 32) (hab : Byt ahead) :
  Calls Tryz.prog 106 #[.slice A n c, .int .u8 kind, .agg (bcs ahead).toArray] w (NextPost w b kind ahead) := by
 obtain ⟨w1, hw1⟩ : ∃ z, z = (w.alloc (.cells (bcs ahead).toArray 104)).alloc (.cells (bcs zero32).toArray 104) := ⟨_, rfl⟩
 have B1 := hide (show Below w.heap.size w w1 by rw [hw1]; exact below_alloc (below_alloc (Below.refl _ _) _) _)
 have KA := hide (show Blk w1 w.heap.size 104 (bcs ahead) by rw [hw1]; exact (Blk.new w _ _).alloc _)
 have K1 := hide (show Blk w1 (w.heap.size + 1) 104 (bcs zero32) by rw [hw1]; exact Blk.new1 w _ _ _)
 have HSZ := hide (show w1.heap.size = w.heap.size + 2 by rw [hw1]; simp)
 have Y1 := hide (hB.below B1.out)
 have HBL := hide hB.1
 have HBB := hide hB.2.1
 have HC := hide hc
 have HN := hide hn
 have HL := hide hl
 have HAB := hide hab
 have k0 := hk.1
 have k9 := hk.2
 have n0 : (0 : Int) ≤ (n : Int) := by omega
 have n9 : (n : Int) ≤ 300000 := by omega
 clear hB hc hn hk hl hab
 by_cases h5 : n < 5
 ·have HX := hide (show nextR b kind ahead = none by rw [nextR, if_pos (by rw [HBL.out]; exact h5)])
  have HE := hide (five_short b (by rw [HBL.out]; exact h5))
  have i5 : (n : Int) < 5 := by omega
  obtain ⟨A', hs, hsa, hBA, _⟩ := slice_head A n c n (Nat.le_refl _) HC.out
  have Y2 := hide (hBA w1 b Y1.out)
  have H5 := hide h5
  clear hBA h5
  go_enter Tryz.func106, Tryz.ntmps106
  go_wp2_with (refine wpList_alloc_agg rfl 104 rfl (bcs zero32) zero32_info ?_; simp only [Act.put, List.setIfInBounds_toArray, List.set_cons_zero, List.set_cons_succ, World.size_alloc])
  rw [← hw1]
  clear hw1
  refine (New_any w1 A' n c _ Y2.out (by omega)).mono ?_
  rintro e w2 ⟨g, h, rfl, r2, hg, hh, b2⟩
  have RD2 := hide r2
  have B2 := hide (Below.then_ B1.out b2)
  have B12 := hide b2
  have K2 := hide (K1.out.under b2)
  have KA2 := hide (KA.out.under b2)
  have Y2b := hide (Y1.out.below b2)
  have HGN := hide (show w1.heap.size ≤ g from hg)
  clear r2 hg hh b2
  go_wp2_with fail
  refine (RFixed_any w2 g h _ 4 RD2.out).mono ?_
  rintro e w3 ⟨rfl, r3, o3⟩
  rw [show b.take n = b.take 5 by rw [List.take_of_length_le (by rw [HBL.out]; exact Nat.le_refl _), List.take_of_length_le (by rw [HBL.out]; have := H5.out; omega)]] at r3 ⊢
  obtain ⟨N, q1, hq1⟩ : ∃ N q1, Rd.fixed ⟨b.take 5, 0⟩ 4 = (N, q1) := ⟨_, _, rfl⟩
  rw [hq1] at r3 ⊢
  have he := HE.out
  rw [hq1] at he
  have HE2 := hide he
  have RD3 := hide r3
  have B3 := hide (o3.under B2.out fun i hi => by have h9 : i = g := hi; have := HGN.out; have := HSZ.out; omega)
  have K3 := hide (o3.blk K2.out (fun e => by have := HGN.out; have := HSZ.out; omega))
  clear r3 o3 hq1 he HE
  go_wp2_with fail
  refine (RFixed_any w3 g h q1 1 RD3.out).mono ?_
  rintro e w4 ⟨rfl, r4, o4⟩
  obtain ⟨X, q2, hq2⟩ : ∃ X q2, q1.fixed 1 = (X, q2) := ⟨_, _, rfl⟩
  have he := HE2.out
  rw [hq2] at he r4 ⊢
  have hne : ¬ q2.err = 0 := he
  have RD4 := hide r4
  have B4 := hide (o4.under B3.out fun i hi => by have h9 : i = g := hi; have := HGN.out; have := HSZ.out; omega)
  have K4 := hide (o4.blk K3.out (fun e => by have := HGN.out; have := HSZ.out; omega))
  clear r4 o4 hq2 he HE2
  go_wp2_with fail
  refine (Err_any w4 g h q2 RD4.out).mono ?_
  rintro e wx ⟨rfl, rfl⟩
  go_wp2_with (refine wpList_store_blk rfl 104 _ _ rfl (w.heap.size + 1) 0 104 (bcs zero32) (bcs zero32) (by rfl) (by rfl) (K4.out) (Nat.le_refl _) isH32 (bcs_one _) ?_; intro w9 o9 z9 b9; rw [lay_all _ _ rfl] at b9; simp only [Act.put])
  refine bodyPost_ret (results_tmp_cell_tmp_blk rfl _ _ (w.heap.size + 1) 104 _ _ (by rfl) b9 Tryz.underlying104 rfl isH32) rfl (.inl ⟨HX.out, rfl, o9.under (B4.out) fun i hi => by have h9 : i = w.heap.size + 1 := hi; omega⟩)
 ·have i5 : ¬ (n : Int) < 5 := by omega
  obtain ⟨x, hx4, hf4, hf1⟩ := five_long b (by rw [HBL.out]; omega)
  have hx := HBB.out x (List.mem_of_getElem? hx4)
  obtain ⟨X, rfl⟩ : ∃ X : Nat, x = (X : Int) := ⟨x.toNat, by omega⟩
  rw [Int.toNat_natCast] at hf1
  obtain ⟨N, hN⟩ : ∃ N, N = num (b.take 4) := ⟨_, rfl⟩
  have hN9 : N < 4294967296 := by
   have h9 := num_lt (b.take 4) (fun y hy => HBB.out y (List.mem_of_mem_take hy))
   rw [← hN, List.length_take, show min 4 b.length = 4 by rw [HBL.out]; omega] at h9
   exact h9
  rw [← hN] at hf4
  have HF4 := hide hf4
  have HF1 := hide hf1
  have HX4 := hide hx4
  have HNN := hide hN
  have N0 : (0 : Int) ≤ (N : Int) := by omega
  have N9 : (N : Int) < 4294967296 := by omega
  have x0 : (0 : Int) ≤ (X : Int) := hx.1
  have x9 : (X : Int) ≤ 255 := hx.2
  have H5 := hide h5
  obtain ⟨A', hs0, _, hBA, _⟩ := slice_head A n c 5 (by omega) HC.out
  have hs : ∀ w : World, (Instr.slice 23 (.slice A n c) none (some (.int .i64 5)) none).run Tryz.prog w = .ok (.slice A' 5 c) w := hs0
  have Y2 := hide (hBA w1 b Y1.out)
  clear hBA h5 hs0 hx4 hf4 hf1 hN hN9 hx
  go_enter Tryz.func106, Tryz.ntmps106
  go_wp2_with (refine wpList_alloc_agg rfl 104 rfl (bcs zero32) zero32_info ?_; simp only [Act.put, List.setIfInBounds_toArray, List.set_cons_zero, List.set_cons_succ, World.size_alloc])
  rw [← hw1]
  clear hw1
  refine (New_any w1 A' 5 c _ Y2.out (by omega)).mono ?_
  rintro e w2 ⟨g, h, rfl, r2, hg, hh, b2⟩
  have RD2 := hide r2
  have B2 := hide (Below.then_ B1.out b2)
  have B12 := hide b2
  have K2 := hide (K1.out.under b2)
  have KA2 := hide (KA.out.under b2)
  have Y2b := hide (Y1.out.below b2)
  have HGN := hide (show w1.heap.size ≤ g from hg)
  clear r2 hg hh b2
  go_wp2_with fail
  refine (RFixed_any w2 g h _ 4 RD2.out).mono ?_
  rintro e w3 ⟨rfl, r3, o3⟩
  rw [HF4.out] at r3 ⊢
  have RD3 := hide r3
  have B3 := hide (o3.under B2.out fun i hi => by have h9 : i = g := hi; have := HGN.out; have := HSZ.out; omega)
  have O3 := hide o3
  have hwn : IntKind.i64.wrap (N : Int) = (N : Int) := by rw [IntKind.wrap_i64]; omega
  clear r3 o3
  go_wp2_with fail
  refine (RFixed_any w3 g h ⟨[(X : Int)], 0⟩ 1 RD3.out).mono ?_
  rintro e w4 ⟨rfl, r4, o4⟩
  rw [HF1.out] at r4 ⊢
  have RD4 := hide r4
  have B4 := hide (o4.under B3.out fun i hi => by have h9 : i = g := hi; have := HGN.out; have := HSZ.out; omega)
  have O24 := hide (O3.out.trans o4 fun _ _ h => h)
  have K4 := hide (O24.out.blk K2.out (fun e => by have := HGN.out; have := HSZ.out; omega))
  have KA4 := hide (O24.out.blk KA2.out (fun e => by have := HGN.out; have := HSZ.out; omega))
  have B14 := hide (show Below w1.heap.size w1 w4 from (o4.under (O3.out.under B12.out fun i hi => by have h9 : i = g := hi; have := HGN.out; omega) fun i hi => by have h9 : i = g := hi; have := HGN.out; omega))
  have Y4 := hide (Y1.out.below B14.out)
  clear r4 o4
  go_wp2_with fail
  refine (Err_any w4 g h ⟨[], 0⟩ RD4.out).mono ?_
  rintro e wx ⟨rfl, rfl⟩
  have HNR : Hid (nextR b kind ahead = if 100000 < N ∨ (X : Int) ≠ kind ∨ n < 37 + N then none else if sha (ahead ++ b.take (5 + N)) ≠ (b.drop (5 + N)).take 32 then none else some ((b.drop 5).take N, sha (ahead ++ b.take (5 + N)))) := hide (by
   rw [nextR, if_neg (by rw [HBL.out]; exact H5.out), ← HNN.out, HX4.out, HBL.out]
   simp only [ne_eq, Option.some.injEq])
  obtain ⟨M, hM⟩ : ∃ M : Int, M = (N : Int) := ⟨_, rfl⟩
  rw [← hM] at N0 N9 ⊢
  have HM := hide hM
  clear hM hwn
  by_cases hbig : 100000 < N
  ·have HX := hide (show nextR b kind ahead = none by rw [HNR.out, if_pos (.inl hbig)])
   have b9 : (100000 : Int) < M := by have := HM.out; omega
   clear HNR
   go_wp2_with (refine wpList_store_blk rfl 104 _ _ rfl (w.heap.size + 1) 0 104 (bcs zero32) (bcs zero32) (by rfl) (by rfl) (K4.out) (Nat.le_refl _) isH32 (bcs_one _) ?_; intro w9 o9 z9 b9; rw [lay_all _ _ rfl] at b9; simp only [Act.put])
   refine bodyPost_ret (results_tmp_cell_tmp_blk rfl _ _ (w.heap.size + 1) 104 _ _ (by rfl) b9 Tryz.underlying104 rfl isH32) rfl (.inl ⟨HX.out, rfl, o9.under (B4.out) fun i hi => by have h9 : i = w.heap.size + 1 := hi; omega⟩)
  ·have hsm : ¬ (100000 : Int) < M := by have := HM.out; omega
   by_cases hkd : (X : Int) = kind
   ·by_cases hlen : n < 37 + N
    ·have HX := hide (show nextR b kind ahead = none by rw [HNR.out, if_pos (.inr (.inr hlen))])
     have hl9 : (n : Int) < 5 + M + 32 := by have := HM.out; omega
     clear HNR
     go_wp2_with (refine wpList_store_blk rfl 104 _ _ rfl (w.heap.size + 1) 0 104 (bcs zero32) (bcs zero32) (by rfl) (by rfl) (K4.out) (Nat.le_refl _) isH32 (bcs_one _) ?_; intro w9 o9 z9 b9; rw [lay_all _ _ rfl] at b9; simp only [Act.put])
     refine bodyPost_ret (results_tmp_cell_tmp_blk rfl _ _ (w.heap.size + 1) 104 _ _ (by rfl) b9 Tryz.underlying104 rfl isH32) rfl (.inl ⟨HX.out, rfl, o9.under (B4.out) fun i hi => by have h9 : i = w.heap.size + 1 := hi; omega⟩)
    ·have HX : Hid (nextR b kind ahead = if sha (ahead ++ b.take (5 + N)) ≠ (b.drop (5 + N)).take 32 then none else some ((b.drop 5).take N, sha (ahead ++ b.take (5 + N)))) := hide (by rw [HNR.out, if_neg]; rintro (h | h | h); exact hbig h; exact h hkd; exact hlen h)
     have hl9 : ¬ (n : Int) < 5 + M + 32 := by have := HM.out; omega
     have HLEN := hide (show 37 + N ≤ n by omega)
     clear HNR hbig hlen
     go_wp2_with fail
     have hwM5 : IntKind.i64.wrap (5 + M) = 5 + M := by rw [IntKind.wrap_i64]; omega
     have hwM6 : IntKind.i64.wrap (5 + M + 32) = 5 + M + 32 := by rw [IntKind.wrap_i64]; omega
     have HM5 := hide (show (5 : Int) + M = ((5 + N : Nat) : Int) by have := HM.out; omega)
     have HM6 := hide (show (5 : Int) + M + 32 = ((5 + N + 32 : Nat) : Int) by have := HM.out; omega)
     obtain ⟨A5, hs5x, hs5y, hBA5, _⟩ := slice_head A n c (5 + N) (by have := HLEN.out; omega) HC.out
     obtain ⟨A6, hs6x, hs6y, hBA6⟩ := slice_both A n c (5 + N) (5 + N + 32) (by omega) (by have := HLEN.out; omega) HC.out
     obtain ⟨A8, hs8x, hs8y, hBA8⟩ := slice_both A n c 5 (5 + N) (by omega) (by have := HLEN.out; omega) HC.out
     have hs5 : ∀ w : World, (Instr.slice 23 (.slice A n c) none (some (.int .i64 (5 + M))) none).run Tryz.prog w = .ok (.slice A5 (5 + N) c) w := fun w => by rw [HM5.out]; exact hs5x w
     have hs6 : ∀ w : World, (Instr.slice 23 (.slice A n c) (some (.int .i64 (5 + M))) (some (.int .i64 (5 + M + 32))) none).run Tryz.prog w = .ok (.slice A6 32 (c - (5 + N))) w := fun w => by rw [HM6.out, HM5.out, hs6x w, show 5 + N + 32 - (5 + N) = 32 by omega]
     have hs8 : ∀ w : World, (Instr.slice 23 (.slice A n c) (some (.int .i64 5)) (some (.int .i64 (5 + M))) none).run Tryz.prog w = .ok (.slice A8 N (c - 5)) w := fun w => by rw [HM5.out]; have h9 := hs8x w; rwa [show 5 + N - 5 = N by omega] at h9
     have hs5a : ∀ w : World, (Instr.sliceAt 23 (.slice A n c) none (some (.int .i64 (5 + M))) none).run Tryz.prog w = .ok (.slice A5 (5 + N) c) w := fun w => by rw [HM5.out]; exact hs5y w
     have hs6a : ∀ w : World, (Instr.sliceAt 23 (.slice A n c) (some (.int .i64 (5 + M))) (some (.int .i64 (5 + M + 32))) none).run Tryz.prog w = .ok (.slice A6 32 (c - (5 + N))) w := fun w => by rw [HM6.out, HM5.out, hs6y w, show 5 + N + 32 - (5 + N) = 32 by omega]
     have hs8a : ∀ w : World, (Instr.sliceAt 23 (.slice A n c) (some (.int .i64 5)) (some (.int .i64 (5 + M))) none).run Tryz.prog w = .ok (.slice A8 N (c - 5)) w := fun w => by rw [HM5.out]; have h9 := hs8y w; rwa [show 5 + N - 5 = N by omega] at h9
     have Y5 := hide (hBA5 w4 b Y4.out)
     have Y6 := hide (show Bys w4 A6 32 ((b.drop (5 + N)).take 32) by have h9 := hBA6 w4 b Y4.out; rwa [show 5 + N + 32 - (5 + N) = 32 by omega] at h9)
     have Y8 := hide (show Bys w4 A8 N ((b.drop 5).take N) by have h9 := hBA8 w4 b Y4.out; rwa [show 5 + N - 5 = N by omega] at h9)
     have YA := hide (show Bys w4 (some ⟨w.heap.size, 0, none⟩) 32 ahead by have h9 := KA4.out.bys HAB.out 0 32 (by rw [HL.out]; decide); rwa [List.drop_zero, List.take_of_length_le (by rw [HL.out]; decide)] at h9)
     obtain ⟨S, hS⟩ : ∃ S, S = sha (ahead ++ b.take (5 + N)) := ⟨_, rfl⟩
     have HSL := hide (show S.length = 32 by rw [hS]; exact sha_len _)
     have HSB := hide (show Byt S by rw [hS]; exact sha_byt _)
     have hx9 := HX.out
     rw [← hS] at hx9
     have HX9 := hide hx9
     have HSE := hide hS
     have HTL := hide (show (b.take (5 + N)).length ≤ 100005 by rw [List.length_take]; have := HM.out; omega)
     clear hs5x hs5y hBA5 hs6x hs6y hBA6 hs8x hs8y hBA8 hS hx9 HX
     refine wp_region_held_drew (S := fun w' => Below w4.heap.size w4 w') (by kernel_rfl) ((Below.refl _ w4).drew) (fun hSA0 => ?_)
     obtain ⟨w4d, hwA⟩ : ∃ x, x = w4.drew := ⟨_, rfl⟩
     rw [← hwA] at hSA0 ⊢
     clear hwA
     refine tq 0 rfl hSA0 ?_
     refine tq 1 rfl hSA0 ?_
     refine tq 2 rfl hSA0 ?_
     refine tq 3 rfl hSA0 ?_
     refine tq 4 rfl hSA0 ?_
     refine wpAnyH_ready (rs := [5, 7]) (by kernel_rfl) (by simp) ?_
     refine AllReadyH.cons rfl (fun K hK => ?_) (AllReadyH.cons rfl (fun K hK => ?_) AllReadyH.nil)
     ·go_simp
      obtain ⟨w4dr, hz⟩ : ∃ z, z = w4d.alloc (.cells #[.slice (some ⟨w.heap.size, 0, none⟩) 32 32, .slice A5 (5 + N) c] 23) := ⟨_, rfl⟩
      rw [← hz]
      obtain ⟨pr, hp⟩ : ∃ p, p = w4d.heap.size := ⟨_, rfl⟩
      rw [← hp]
      have b9 : Below w4d.heap.size w4d w4dr := by rw [hz]; exact below_alloc (Below.refl _ _) _
      have Sw4dr := hide (Below.then_ hSA0 b9)
      have Rw4dr := hide (show Byss w4dr (some ⟨pr, 0, none⟩) 2 [ahead, b.take (5 + N)] by rw [hz, hp]; exact Byss.two w4d w4d _ _ _ 32 (5 + N) 32 c _ _ (YA.out.below hSA0) (Y5.out.below hSA0) (Nat.le_refl _) (by have := HLEN.out; have := HC.out; omega) (Below.refl _ _))
      clear hz hp b9
      refine hK.out _ _ (Sw4dr.out) (fun hSA1 => ?_)
      clear hK K
      refine wpAnyH_ready (rs := [6, 7]) (by kernel_rfl) (by simp) ?_
      refine AllReadyH.cons rfl (fun K hK => ?_) (AllReadyH.cons rfl (fun K hK => ?_) AllReadyH.nil)
      ·go_simp
       go_simp
       go_wp2_with (go_at_call 85; refine (DSum_any w4dr (some ⟨pr, 0, none⟩) 2 2 [ahead, b.take (5 + N)] Rw4dr.out (by simp [HL.out]) (by simp only [List.flatten_cons, List.flatten_nil, List.append_nil, List.length_append, HL.out]; have := HTL.out; omega) (by decide)).mono ?_; rintro e w4drs ⟨rfl, b9⟩; rw [show [ahead, b.take (5 + N)].flatten = ahead ++ b.take (5 + N) by simp, ← HSE.out])
       have Sw4drs := hide (Below.then_ hSA1 b9)
       clear b9
       refine hK.out _ _ (Sw4drs.out) (fun hSA2 => ?_)
       clear hK K
       refine ry 7 rfl fun K hK => ?_
       refine step_allocA rfl 12 rfl 104 rfl (bcs zero32) zero32_info ?_
       obtain ⟨w4drsh, hz⟩ : ∃ z, z = w4drs.alloc (.cells (bcs zero32).toArray 104) := ⟨_, rfl⟩
       rw [← hz]
       obtain ⟨ph, hp⟩ : ∃ p, p = w4drs.heap.size := ⟨_, rfl⟩
       rw [← hp]
       have b9 : Below w4drs.heap.size w4drs w4drsh := by rw [hz]; exact below_alloc (Below.refl _ _) _
       have Sw4drsh := hide (Below.then_ hSA2 b9)
       have Kw4drsh := hide (show Blk w4drsh ph 104 (bcs zero32) by rw [hz, hp]; exact Blk.new w4drs _ _)
       have HPH := hide (show w4.heap.size ≤ ph by rw [hp]; exact (show Below w4.heap.size w4 w4drs from hSA2).size)
       clear hz hp b9
       simp only [pU]
       refine hK.out _ _ (Sw4drsh.out) (fun hSA3 => ?_)
       clear hK K
       refine ry 8 rfl fun K hK => ?_
       refine step_storeB rfl 104 _ _ rfl ph 0 104 (bcs zero32) (bcs S) (by rfl) (by rfl) Kw4drsh.out (by rw [bcs_length, bcs_length, HSL.out]; decide) (by rw [bcs_length, HSL.out]; exact isH32) (bcs_one _) ?_
       intro w8 oz zz bz
       rw [lay_all _ _ (by rw [bcs_length, bcs_length, HSL.out]; rfl)] at bz
       have KI := hide bz
       have B48 := hide (oz.under (show Below w4.heap.size w4 w4drsh from hSA3) fun i hi => by have h9 : i = ph := hi; have := HPH.out; omega)
       clear oz zz bz
       simp only [Act.put]
       refine hK.out _ _ (B48.out) (fun hSA4 => ?_)
       clear hK K
       refine wpAnyH_done (by kernel_rfl) ?_ _
       go_wp2_with fail
       refine wp_region_held_drew (S := fun w' => Below w8.heap.size w8 w') (by kernel_rfl) ((Below.refl _ w8).drew) (fun hSB0 => ?_)
       obtain ⟨w8d, hwB⟩ : ∃ x, x = w8.drew := ⟨_, rfl⟩
       rw [← hwB] at hSB0 ⊢
       clear hwB
       refine tq 0 rfl hSB0 ?_
       refine tq 1 rfl hSB0 ?_
       refine tq 2 rfl hSB0 ?_
       refine tq 3 rfl hSB0 ?_
       refine tq 4 rfl hSB0 ?_
       refine tq 5 rfl hSB0 ?_
       refine tq 6 rfl hSB0 ?_
       refine tq 7 rfl hSB0 ?_
       refine ry 8 rfl fun K hK => ?_
       go_simp
       go_simp
       go_wp2_with (go_at_call 75; refine (BytesEqual_any w8d (some ⟨ph, 0, none⟩) A6 32 32 32 (c - (5 + N)) S ((b.drop (5 + N)).take 32) (by have h9 := (KI.out.under hSB0).bys HSB.out 0 32 (by rw [HSL.out]; decide); rwa [List.drop_zero, List.take_of_length_le (by rw [HSL.out]; decide)] at h9) (Y6.out.below (Below.then_ B48.out hSB0))).mono ?_; rintro e wx ⟨rfl, rfl⟩)
       refine hK.out _ _ (hSB0) (fun hSB1 => ?_)
       clear hK K
       refine tq 9 rfl hSB1 ?_
       refine wpAnyH_done (by kernel_rfl) ?_ _
       obtain ⟨w9, hw9⟩ : ∃ z, z = w8d := ⟨_, rfl⟩
       have B89 := hide (show Below w8.heap.size w8 w9 by rw [hw9]; exact hSB1)
       rw [← hw9]
       clear hw9
       have hx9 := HX9.out
       by_cases he : S = (b.drop (5 + N)).take 32
       ·rw [if_neg (by simpa using he)] at hx9
        have HX := hide hx9
        rw [decide_eq_true he]
        clear hx9 he
        go_wp2_with fail
        refine wp_region_held_drew (S := fun w' => w'.rangeAt ph 0 (bcs S)) (by kernel_rfl) (range_under (KI.out.under B89.out).whole (Below.refl _ w9).drew) (fun hSC0 => ?_)
        obtain ⟨w9d, hwC⟩ : ∃ x, x = w9.drew := ⟨_, rfl⟩
        have Bd := hide (show Below w9.heap.size w9 w9d by rw [hwC]; exact (Below.refl _ w9).drew)
        rw [← hwC] at hSC0 ⊢
        clear hwC
        refine tq 0 rfl hSC0 ?_
        refine tq 1 rfl hSC0 ?_
        refine tq 2 rfl hSC0 ?_
        refine tq 3 rfl hSC0 ?_
        (refine tq 5 rfl hSC0 ?_ (fun w' hSw => by have z1 := loadH_run w' ph 0 S hSw HSL.out; go_simp; try with_reducible rfl))
        refine ry 4 rfl fun K hK => ?_
        go_simp
        go_simp
        go_wp2_with (go_at_call 39; refine (clone_any w9 w9d A8 N (c - 5) ((b.drop 5).take N) Bd.out (Y8.out.below (Below.then_ B48.out (Below.then_ B89.out Bd.out))) (by have := HLEN.out; have := HN.out; omega)).mono ?_; rintro e wc hcl; obtain ⟨A9, n9, c9, rfl, m9, f9⟩ := hcl.fresh)
        have B19 := hide (Below.then_ B14.out (Below.then_ B48.out B89.out))
        have M9 := hide (m9.older B19.out)
        have F9 := hide (f9.older B19.out)
        have hr9 := range_under (KI.out.under B89.out).whole m9.below
        clear hcl m9 f9
        refine hK.out _ _ (hr9) (fun hSC1 => ?_)
        clear hK K
        refine tq 6 rfl hSC1 ?_
        refine ry 7 rfl fun K hK => ?_
        refine step_storeB rfl 104 _ _ rfl (w.heap.size + 1) 0 104 (bcs zero32) (bcs S) (by rfl) (by rfl) (K1.out.under M9.out.below) (by rw [bcs_length, bcs_length, HSL.out]; decide) (by rw [bcs_length, HSL.out]; exact isH32) (bcs_one _) ?_
        intro wz oz zz bz
        rw [lay_all _ _ (by rw [bcs_length, bcs_length, HSL.out]; rfl)] at bz
        have hrz := range_only hSC1 oz (fun h => by have h9 : ph = w.heap.size + 1 := h; have := HPH.out; have := K4.out.lt; omega)
        have OZ := hide oz
        have BZ := hide bz
        clear oz zz bz
        simp only [Act.put]
        refine hK.out _ _ (hrz) (fun hSC2 => ?_)
        clear hK K
        refine tq 8 rfl hSC2 ?_
        refine wpAnyH_done (by kernel_rfl) ?_ _
        clear hr9 hrz hSC0 hSC1 hSC2
        go_wp2_with fail
        have hm := M9.out.turn F9.out B1.out OZ.out (fun i hi => by have h9 : i = w.heap.size + 1 := hi; have := HSZ.out; omega)
        refine bodyPost_ret (results_tmp_cell_tmp_blk rfl _ _ (w.heap.size + 1) 104 _ _ (by rfl) BZ.out Tryz.underlying104 rfl (by rw [bcs_length, HSL.out]; exact isH32)) rfl (.inr ⟨_, _, A9, n9, c9, HX.out, rfl, hm, F9.out.older B1.out⟩)
       ·rw [if_pos he] at hx9
        have HX := hide hx9
        rw [decide_eq_false he]
        clear hx9 he
        go_wp2_with (refine wpList_store_blk rfl 104 _ _ rfl (w.heap.size + 1) 0 104 (bcs zero32) (bcs zero32) (by rfl) (by rfl) ((K4.out.under B48.out).under B89.out) (Nat.le_refl _) isH32 (bcs_one _) ?_; intro w9 o9 z9 b9; rw [lay_all _ _ rfl] at b9; simp only [Act.put])
        refine bodyPost_ret (results_tmp_cell_tmp_blk rfl _ _ (w.heap.size + 1) 104 _ _ (by rfl) b9 Tryz.underlying104 rfl isH32) rfl (.inl ⟨HX.out, rfl, o9.under (Below.then_ B4.out (Below.then_ B48.out B89.out)) fun i hi => by have h9 : i = w.heap.size + 1 := hi; omega⟩)
      ·refine step_allocA rfl 12 rfl 104 rfl (bcs zero32) zero32_info ?_
       obtain ⟨w4drh, hz⟩ : ∃ z, z = w4dr.alloc (.cells (bcs zero32).toArray 104) := ⟨_, rfl⟩
       rw [← hz]
       obtain ⟨ph, hp⟩ : ∃ p, p = w4dr.heap.size := ⟨_, rfl⟩
       rw [← hp]
       have b9 : Below w4dr.heap.size w4dr w4drh := by rw [hz]; exact below_alloc (Below.refl _ _) _
       have Sw4drh := hide (Below.then_ hSA1 b9)
       have Kw4drh := hide (show Blk w4drh ph 104 (bcs zero32) by rw [hz, hp]; exact Blk.new w4dr _ _)
       have HPH := hide (show w4.heap.size ≤ ph by rw [hp]; exact (show Below w4.heap.size w4 w4dr from hSA1).size)
       have Rw4drh := hide (Rw4dr.out.below b9)
       clear hz hp b9
       simp only [pU]
       refine hK.out _ _ (Sw4drh.out) (fun hSA2 => ?_)
       clear hK K
       refine ry 6 rfl fun K hK => ?_
       go_simp
       go_simp
       go_wp2_with (go_at_call 85; refine (DSum_any w4drh (some ⟨pr, 0, none⟩) 2 2 [ahead, b.take (5 + N)] Rw4drh.out (by simp [HL.out]) (by simp only [List.flatten_cons, List.flatten_nil, List.append_nil, List.length_append, HL.out]; have := HTL.out; omega) (by decide)).mono ?_; rintro e w4drhs ⟨rfl, b9⟩; rw [show [ahead, b.take (5 + N)].flatten = ahead ++ b.take (5 + N) by simp, ← HSE.out])
       have Sw4drhs := hide (Below.then_ hSA2 b9)
       have Kw4drhs := hide (Kw4drh.out.under b9)
       clear b9
       refine hK.out _ _ (Sw4drhs.out) (fun hSA3 => ?_)
       clear hK K
       refine ry 8 rfl fun K hK => ?_
       refine step_storeB rfl 104 _ _ rfl ph 0 104 (bcs zero32) (bcs S) (by rfl) (by rfl) Kw4drhs.out (by rw [bcs_length, bcs_length, HSL.out]; decide) (by rw [bcs_length, HSL.out]; exact isH32) (bcs_one _) ?_
       intro w8 oz zz bz
       rw [lay_all _ _ (by rw [bcs_length, bcs_length, HSL.out]; rfl)] at bz
       have KI := hide bz
       have B48 := hide (oz.under (show Below w4.heap.size w4 w4drhs from hSA3) fun i hi => by have h9 : i = ph := hi; have := HPH.out; omega)
       clear oz zz bz
       simp only [Act.put]
       refine hK.out _ _ (B48.out) (fun hSA4 => ?_)
       clear hK K
       refine wpAnyH_done (by kernel_rfl) ?_ _
       go_wp2_with fail
       refine wp_region_held_drew (S := fun w' => Below w8.heap.size w8 w') (by kernel_rfl) ((Below.refl _ w8).drew) (fun hSB0 => ?_)
       obtain ⟨w8d, hwB⟩ : ∃ x, x = w8.drew := ⟨_, rfl⟩
       rw [← hwB] at hSB0 ⊢
       clear hwB
       refine tq 0 rfl hSB0 ?_
       refine tq 1 rfl hSB0 ?_
       refine tq 2 rfl hSB0 ?_
       refine tq 3 rfl hSB0 ?_
       refine tq 4 rfl hSB0 ?_
       refine tq 5 rfl hSB0 ?_
       refine tq 6 rfl hSB0 ?_
       refine tq 7 rfl hSB0 ?_
       refine ry 8 rfl fun K hK => ?_
       go_simp
       go_simp
       go_wp2_with (go_at_call 75; refine (BytesEqual_any w8d (some ⟨ph, 0, none⟩) A6 32 32 32 (c - (5 + N)) S ((b.drop (5 + N)).take 32) (by have h9 := (KI.out.under hSB0).bys HSB.out 0 32 (by rw [HSL.out]; decide); rwa [List.drop_zero, List.take_of_length_le (by rw [HSL.out]; decide)] at h9) (Y6.out.below (Below.then_ B48.out hSB0))).mono ?_; rintro e wx ⟨rfl, rfl⟩)
       refine hK.out _ _ (hSB0) (fun hSB1 => ?_)
       clear hK K
       refine tq 9 rfl hSB1 ?_
       refine wpAnyH_done (by kernel_rfl) ?_ _
       obtain ⟨w9, hw9⟩ : ∃ z, z = w8d := ⟨_, rfl⟩
       have B89 := hide (show Below w8.heap.size w8 w9 by rw [hw9]; exact hSB1)
       rw [← hw9]
       clear hw9
       have hx9 := HX9.out
       by_cases he : S = (b.drop (5 + N)).take 32
       ·rw [if_neg (by simpa using he)] at hx9
        have HX := hide hx9
        rw [decide_eq_true he]
        clear hx9 he
        go_wp2_with fail
        refine wp_region_held_drew (S := fun w' => w'.rangeAt ph 0 (bcs S)) (by kernel_rfl) (range_under (KI.out.under B89.out).whole (Below.refl _ w9).drew) (fun hSC0 => ?_)
        obtain ⟨w9d, hwC⟩ : ∃ x, x = w9.drew := ⟨_, rfl⟩
        have Bd := hide (show Below w9.heap.size w9 w9d by rw [hwC]; exact (Below.refl _ w9).drew)
        rw [← hwC] at hSC0 ⊢
        clear hwC
        refine tq 0 rfl hSC0 ?_
        refine tq 1 rfl hSC0 ?_
        refine tq 2 rfl hSC0 ?_
        refine tq 3 rfl hSC0 ?_
        (refine tq 5 rfl hSC0 ?_ (fun w' hSw => by have z1 := loadH_run w' ph 0 S hSw HSL.out; go_simp; try with_reducible rfl))
        refine ry 4 rfl fun K hK => ?_
        go_simp
        go_simp
        go_wp2_with (go_at_call 39; refine (clone_any w9 w9d A8 N (c - 5) ((b.drop 5).take N) Bd.out (Y8.out.below (Below.then_ B48.out (Below.then_ B89.out Bd.out))) (by have := HLEN.out; have := HN.out; omega)).mono ?_; rintro e wc hcl; obtain ⟨A9, n9, c9, rfl, m9, f9⟩ := hcl.fresh)
        have B19 := hide (Below.then_ B14.out (Below.then_ B48.out B89.out))
        have M9 := hide (m9.older B19.out)
        have F9 := hide (f9.older B19.out)
        have hr9 := range_under (KI.out.under B89.out).whole m9.below
        clear hcl m9 f9
        refine hK.out _ _ (hr9) (fun hSC1 => ?_)
        clear hK K
        refine tq 6 rfl hSC1 ?_
        refine ry 7 rfl fun K hK => ?_
        refine step_storeB rfl 104 _ _ rfl (w.heap.size + 1) 0 104 (bcs zero32) (bcs S) (by rfl) (by rfl) (K1.out.under M9.out.below) (by rw [bcs_length, bcs_length, HSL.out]; decide) (by rw [bcs_length, HSL.out]; exact isH32) (bcs_one _) ?_
        intro wz oz zz bz
        rw [lay_all _ _ (by rw [bcs_length, bcs_length, HSL.out]; rfl)] at bz
        have hrz := range_only hSC1 oz (fun h => by have h9 : ph = w.heap.size + 1 := h; have := HPH.out; have := K4.out.lt; omega)
        have OZ := hide oz
        have BZ := hide bz
        clear oz zz bz
        simp only [Act.put]
        refine hK.out _ _ (hrz) (fun hSC2 => ?_)
        clear hK K
        refine tq 8 rfl hSC2 ?_
        refine wpAnyH_done (by kernel_rfl) ?_ _
        clear hr9 hrz hSC0 hSC1 hSC2
        go_wp2_with fail
        have hm := M9.out.turn F9.out B1.out OZ.out (fun i hi => by have h9 : i = w.heap.size + 1 := hi; have := HSZ.out; omega)
        refine bodyPost_ret (results_tmp_cell_tmp_blk rfl _ _ (w.heap.size + 1) 104 _ _ (by rfl) BZ.out Tryz.underlying104 rfl (by rw [bcs_length, HSL.out]; exact isH32)) rfl (.inr ⟨_, _, A9, n9, c9, HX.out, rfl, hm, F9.out.older B1.out⟩)
       ·rw [if_pos he] at hx9
        have HX := hide hx9
        rw [decide_eq_false he]
        clear hx9 he
        go_wp2_with (refine wpList_store_blk rfl 104 _ _ rfl (w.heap.size + 1) 0 104 (bcs zero32) (bcs zero32) (by rfl) (by rfl) ((K4.out.under B48.out).under B89.out) (Nat.le_refl _) isH32 (bcs_one _) ?_; intro w9 o9 z9 b9; rw [lay_all _ _ rfl] at b9; simp only [Act.put])
        refine bodyPost_ret (results_tmp_cell_tmp_blk rfl _ _ (w.heap.size + 1) 104 _ _ (by rfl) b9 Tryz.underlying104 rfl isH32) rfl (.inl ⟨HX.out, rfl, o9.under (Below.then_ B4.out (Below.then_ B48.out B89.out)) fun i hi => by have h9 : i = w.heap.size + 1 := hi; omega⟩)
     ·refine step_allocA rfl 12 rfl 104 rfl (bcs zero32) zero32_info ?_
      obtain ⟨w4dh, hz⟩ : ∃ z, z = w4d.alloc (.cells (bcs zero32).toArray 104) := ⟨_, rfl⟩
      rw [← hz]
      obtain ⟨ph, hp⟩ : ∃ p, p = w4d.heap.size := ⟨_, rfl⟩
      rw [← hp]
      have b9 : Below w4d.heap.size w4d w4dh := by rw [hz]; exact below_alloc (Below.refl _ _) _
      have Sw4dh := hide (Below.then_ hSA0 b9)
      have Kw4dh := hide (show Blk w4dh ph 104 (bcs zero32) by rw [hz, hp]; exact Blk.new w4d _ _)
      have HPH := hide (show w4.heap.size ≤ ph by rw [hp]; exact (show Below w4.heap.size w4 w4d from hSA0).size)
      clear hz hp b9
      simp only [pU]
      refine hK.out _ _ (Sw4dh.out) (fun hSA1 => ?_)
      clear hK K
      refine ry 5 rfl fun K hK => ?_
      go_simp
      obtain ⟨w4dhr, hz⟩ : ∃ z, z = w4dh.alloc (.cells #[.slice (some ⟨w.heap.size, 0, none⟩) 32 32, .slice A5 (5 + N) c] 23) := ⟨_, rfl⟩
      rw [← hz]
      obtain ⟨pr, hp⟩ : ∃ p, p = w4dh.heap.size := ⟨_, rfl⟩
      rw [← hp]
      have b9 : Below w4dh.heap.size w4dh w4dhr := by rw [hz]; exact below_alloc (Below.refl _ _) _
      have Sw4dhr := hide (Below.then_ hSA1 b9)
      have Rw4dhr := hide (show Byss w4dhr (some ⟨pr, 0, none⟩) 2 [ahead, b.take (5 + N)] by rw [hz, hp]; exact Byss.two w4dh w4dh _ _ _ 32 (5 + N) 32 c _ _ (YA.out.below hSA1) (Y5.out.below hSA1) (Nat.le_refl _) (by have := HLEN.out; have := HC.out; omega) (Below.refl _ _))
      have Kw4dhr := hide (Kw4dh.out.under b9)
      clear hz hp b9
      refine hK.out _ _ (Sw4dhr.out) (fun hSA2 => ?_)
      clear hK K
      refine ry 6 rfl fun K hK => ?_
      go_simp
      go_simp
      go_wp2_with (go_at_call 85; refine (DSum_any w4dhr (some ⟨pr, 0, none⟩) 2 2 [ahead, b.take (5 + N)] Rw4dhr.out (by simp [HL.out]) (by simp only [List.flatten_cons, List.flatten_nil, List.append_nil, List.length_append, HL.out]; have := HTL.out; omega) (by decide)).mono ?_; rintro e w4dhrs ⟨rfl, b9⟩; rw [show [ahead, b.take (5 + N)].flatten = ahead ++ b.take (5 + N) by simp, ← HSE.out])
      have Sw4dhrs := hide (Below.then_ hSA2 b9)
      have Kw4dhrs := hide (Kw4dhr.out.under b9)
      clear b9
      refine hK.out _ _ (Sw4dhrs.out) (fun hSA3 => ?_)
      clear hK K
      refine ry 8 rfl fun K hK => ?_
      refine step_storeB rfl 104 _ _ rfl ph 0 104 (bcs zero32) (bcs S) (by rfl) (by rfl) Kw4dhrs.out (by rw [bcs_length, bcs_length, HSL.out]; decide) (by rw [bcs_length, HSL.out]; exact isH32) (bcs_one _) ?_
      intro w8 oz zz bz
      rw [lay_all _ _ (by rw [bcs_length, bcs_length, HSL.out]; rfl)] at bz
      have KI := hide bz
      have B48 := hide (oz.under (show Below w4.heap.size w4 w4dhrs from hSA3) fun i hi => by have h9 : i = ph := hi; have := HPH.out; omega)
      clear oz zz bz
      simp only [Act.put]
      refine hK.out _ _ (B48.out) (fun hSA4 => ?_)
      clear hK K
      refine wpAnyH_done (by kernel_rfl) ?_ _
      go_wp2_with fail
      refine wp_region_held_drew (S := fun w' => Below w8.heap.size w8 w') (by kernel_rfl) ((Below.refl _ w8).drew) (fun hSB0 => ?_)
      obtain ⟨w8d, hwB⟩ : ∃ x, x = w8.drew := ⟨_, rfl⟩
      rw [← hwB] at hSB0 ⊢
      clear hwB
      refine tq 0 rfl hSB0 ?_
      refine tq 1 rfl hSB0 ?_
      refine tq 2 rfl hSB0 ?_
      refine tq 3 rfl hSB0 ?_
      refine tq 4 rfl hSB0 ?_
      refine tq 5 rfl hSB0 ?_
      refine tq 6 rfl hSB0 ?_
      refine tq 7 rfl hSB0 ?_
      refine ry 8 rfl fun K hK => ?_
      go_simp
      go_simp
      go_wp2_with (go_at_call 75; refine (BytesEqual_any w8d (some ⟨ph, 0, none⟩) A6 32 32 32 (c - (5 + N)) S ((b.drop (5 + N)).take 32) (by have h9 := (KI.out.under hSB0).bys HSB.out 0 32 (by rw [HSL.out]; decide); rwa [List.drop_zero, List.take_of_length_le (by rw [HSL.out]; decide)] at h9) (Y6.out.below (Below.then_ B48.out hSB0))).mono ?_; rintro e wx ⟨rfl, rfl⟩)
      refine hK.out _ _ (hSB0) (fun hSB1 => ?_)
      clear hK K
      refine tq 9 rfl hSB1 ?_
      refine wpAnyH_done (by kernel_rfl) ?_ _
      obtain ⟨w9, hw9⟩ : ∃ z, z = w8d := ⟨_, rfl⟩
      have B89 := hide (show Below w8.heap.size w8 w9 by rw [hw9]; exact hSB1)
      rw [← hw9]
      clear hw9
      have hx9 := HX9.out
      by_cases he : S = (b.drop (5 + N)).take 32
      ·rw [if_neg (by simpa using he)] at hx9
       have HX := hide hx9
       rw [decide_eq_true he]
       clear hx9 he
       go_wp2_with fail
       refine wp_region_held_drew (S := fun w' => w'.rangeAt ph 0 (bcs S)) (by kernel_rfl) (range_under (KI.out.under B89.out).whole (Below.refl _ w9).drew) (fun hSC0 => ?_)
       obtain ⟨w9d, hwC⟩ : ∃ x, x = w9.drew := ⟨_, rfl⟩
       have Bd := hide (show Below w9.heap.size w9 w9d by rw [hwC]; exact (Below.refl _ w9).drew)
       rw [← hwC] at hSC0 ⊢
       clear hwC
       refine tq 0 rfl hSC0 ?_
       refine tq 1 rfl hSC0 ?_
       refine tq 2 rfl hSC0 ?_
       refine tq 3 rfl hSC0 ?_
       (refine tq 5 rfl hSC0 ?_ (fun w' hSw => by have z1 := loadH_run w' ph 0 S hSw HSL.out; go_simp; try with_reducible rfl))
       refine ry 4 rfl fun K hK => ?_
       go_simp
       go_simp
       go_wp2_with (go_at_call 39; refine (clone_any w9 w9d A8 N (c - 5) ((b.drop 5).take N) Bd.out (Y8.out.below (Below.then_ B48.out (Below.then_ B89.out Bd.out))) (by have := HLEN.out; have := HN.out; omega)).mono ?_; rintro e wc hcl; obtain ⟨A9, n9, c9, rfl, m9, f9⟩ := hcl.fresh)
       have B19 := hide (Below.then_ B14.out (Below.then_ B48.out B89.out))
       have M9 := hide (m9.older B19.out)
       have F9 := hide (f9.older B19.out)
       have hr9 := range_under (KI.out.under B89.out).whole m9.below
       clear hcl m9 f9
       refine hK.out _ _ (hr9) (fun hSC1 => ?_)
       clear hK K
       refine tq 6 rfl hSC1 ?_
       refine ry 7 rfl fun K hK => ?_
       refine step_storeB rfl 104 _ _ rfl (w.heap.size + 1) 0 104 (bcs zero32) (bcs S) (by rfl) (by rfl) (K1.out.under M9.out.below) (by rw [bcs_length, bcs_length, HSL.out]; decide) (by rw [bcs_length, HSL.out]; exact isH32) (bcs_one _) ?_
       intro wz oz zz bz
       rw [lay_all _ _ (by rw [bcs_length, bcs_length, HSL.out]; rfl)] at bz
       have hrz := range_only hSC1 oz (fun h => by have h9 : ph = w.heap.size + 1 := h; have := HPH.out; have := K4.out.lt; omega)
       have OZ := hide oz
       have BZ := hide bz
       clear oz zz bz
       simp only [Act.put]
       refine hK.out _ _ (hrz) (fun hSC2 => ?_)
       clear hK K
       refine tq 8 rfl hSC2 ?_
       refine wpAnyH_done (by kernel_rfl) ?_ _
       clear hr9 hrz hSC0 hSC1 hSC2
       go_wp2_with fail
       have hm := M9.out.turn F9.out B1.out OZ.out (fun i hi => by have h9 : i = w.heap.size + 1 := hi; have := HSZ.out; omega)
       refine bodyPost_ret (results_tmp_cell_tmp_blk rfl _ _ (w.heap.size + 1) 104 _ _ (by rfl) BZ.out Tryz.underlying104 rfl (by rw [bcs_length, HSL.out]; exact isH32)) rfl (.inr ⟨_, _, A9, n9, c9, HX.out, rfl, hm, F9.out.older B1.out⟩)
      ·rw [if_pos he] at hx9
       have HX := hide hx9
       rw [decide_eq_false he]
       clear hx9 he
       go_wp2_with (refine wpList_store_blk rfl 104 _ _ rfl (w.heap.size + 1) 0 104 (bcs zero32) (bcs zero32) (by rfl) (by rfl) ((K4.out.under B48.out).under B89.out) (Nat.le_refl _) isH32 (bcs_one _) ?_; intro w9 o9 z9 b9; rw [lay_all _ _ rfl] at b9; simp only [Act.put])
       refine bodyPost_ret (results_tmp_cell_tmp_blk rfl _ _ (w.heap.size + 1) 104 _ _ (by rfl) b9 Tryz.underlying104 rfl isH32) rfl (.inl ⟨HX.out, rfl, o9.under (Below.then_ B4.out (Below.then_ B48.out B89.out)) fun i hi => by have h9 : i = w.heap.size + 1 := hi; omega⟩)
   ·have HX := hide (show nextR b kind ahead = none by rw [HNR.out, if_pos (.inr (.inl hkd))])
    have hkn : ((X : Int) == kind) = false := by simpa using hkd
    clear HNR
    go_wp2_with (refine wpList_store_blk rfl 104 _ _ rfl (w.heap.size + 1) 0 104 (bcs zero32) (bcs zero32) (by rfl) (by rfl) (K4.out) (Nat.le_refl _) isH32 (bcs_one _) ?_; intro w9 o9 z9 b9; rw [lay_all _ _ rfl] at b9; simp only [Act.put])
    refine bodyPost_ret (results_tmp_cell_tmp_blk rfl _ _ (w.heap.size + 1) 104 _ _ (by rfl) b9 Tryz.underlying104 rfl isH32) rfl (.inl ⟨HX.out, rfl, o9.under (B4.out) fun i hi => by have h9 : i = w.heap.size + 1 := hi; omega⟩)
end
end Go.Proofs.YtjnpkcabkccaoaaGreat
