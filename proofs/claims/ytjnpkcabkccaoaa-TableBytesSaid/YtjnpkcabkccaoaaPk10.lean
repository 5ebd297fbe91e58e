import Derived.Test.YtjnpkcabkccaoaaPk9
import Derived.Test.YtjnpkcabkccaoaaPk3
import Derived.Test.YtjnpkcabkccaoaaPk1
/-
  chainlog: the record that stands at the beginning.
-/
namespace Go.Proofs.Ytjnpkcabkccaoaa
open Go.RowKit

theorem slice_both (A : Option Addr) (m c L H : Nat) (hL : L ≤ H) (hH : H ≤ m) (hc : m ≤ c) : ∃ A' : Option Addr, (∀ w : World, (Instr.slice 28 (.slice A m c) (some (.int .i64 (L : Int))) (some (.int .i64 (H : Int))) none).run Try.prog w = .ok (.slice A' (H - L) (c - L)) w) ∧
    (∀ w : World, (Instr.sliceAt 28 (.slice A m c) (some (.int .i64 (L : Int))) (some (.int .i64 (H : Int))) none).run Try.prog w = .ok (.slice A' (H - L) (c - L)) w) ∧
    (∀ (w : World) (bs : List Int), Bys w A m bs → Bys w A' (H - L) ((bs.drop L).take (H - L))) := by
  have hel : Try.prog.elem 28 = 5 := by kernel_rfl
  have hu : Try.prog.underlying 28 = some (.slice (Try.prog.elem 28)) := by rw [hel]; exact Try.underlying28
  have hsz : (Try.prog.info? 5).map (·.size) = some 1 := by kernel_rfl
  have h1 : ∀ w : World, (Instr.slice 28 (.slice A m c) (some (.int .i64 (L : Int))) (some (.int .i64 (H : Int))) none).run Try.prog w = .ok (.slice (if c = L then A else A.map (·.add L)) (H - L) (c - L)) w := fun w => by
    rw [run_slice_lh w _ A m c hu .i64 .i64 L H (by omega) (by omega) (by omega), hel, run_size hsz w]
    by_cases h : c = L
    · simp [Result.andThen, sliced, h]
    · simp [Result.andThen, sliced, h]
  refine ⟨if c = L then A else A.map (·.add L), h1, fun w => ?_, fun w bs hB => ?_⟩
  · rw [run_sliceAt_slice w _ _ _ _ _ hu]; exact h1 w
  · rcases Nat.eq_zero_or_pos (H - L) with h0 | h0
    · exact Bys.zero _ _ _ (by rw [List.length_take, List.length_drop, hB.1]; omega) h0
    · obtain ⟨b, off, e, _⟩ := hB.2.2 (by omega)
      subst e
      have e2 : (some ⟨b, off, none⟩ : Option Addr).map (fun x => x.add L) = some ⟨b, off + L, none⟩ := by simp only [Option.map_some, Addr.add_mid]
      rw [if_neg (by omega), e2]
      exact (hB.from_ L (by omega)).head (H - L) (by omega)
/-! ### The first five bytes -/
theorem five_short (b : List Int) (h : b.length < 5) : ((Rd.fixed (Rd.fixed ⟨b.take 5, 0⟩ 4).2 1).2).err ≠ 0 := by
  have ht : b.take 5 = b := List.take_of_length_le (by omega)
  rw [ht]
  have w4 : Rd.within 4 = 4 := by decide
  have w1 : Rd.within 1 = 1 := by decide
  by_cases h4 : b.length < 4
  · have e1 : Rd.fixed ⟨b, 0⟩ 4 = (0, ⟨b, 61⟩) := by
      unfold Rd.fixed Rd.raw
      rw [w4, if_neg (by simp), if_pos (by simp; omega)]
      rfl
    rw [e1]
    unfold Rd.fixed Rd.raw
    rw [if_pos (by simp)]
    show (61 : Int) ≠ 0
    decide
  · have e1 : Rd.fixed ⟨b, 0⟩ 4 = (num b, ⟨[], 0⟩) := fixed_all b 4 (by omega) (by decide) (by decide)
    rw [e1]
    unfold Rd.fixed Rd.raw
    rw [w1, if_neg (by simp), if_pos (by simp)]
    show (61 : Int) ≠ 0
    decide
theorem five_long (b : List Int) (h : 5 ≤ b.length) : ∃ x, b[4]? = some x ∧ Rd.fixed ⟨b.take 5, 0⟩ 4 = (num (b.take 4), ⟨[x], 0⟩) ∧ Rd.fixed ⟨[x], 0⟩ 1 = (x.toNat, ⟨[], 0⟩) := by
  match b, h with
  | a0 :: a1 :: a2 :: a3 :: x :: l, _ =>
    refine ⟨x, rfl, ?_, ?_⟩
    · unfold Rd.fixed Rd.raw
      rw [show Rd.within 4 = 4 by decide, if_neg (by simp), if_neg (by simp)]
      rfl
    · have := fixed_all [x] 1 rfl (by decide) (by decide)
      rw [show ((1 : Nat) : Int) = 1 from rfl] at this
      rw [this]
      simp [num]
def NextPost (w : World) (b : List Int) (kind : Int) (ahead : List Int) (e : Ending) (w' : World) : Prop :=
  (nextR b kind ahead = none ∧ e = .returned (.tuple #[.slice none 0 0, .agg (bcs zero32).toArray, .bool false]) ∧ Below w.heap.size w w') ∨
  ∃ (body s : List Int) (A1 : Option Addr) (n1 c1 : Nat), nextR b kind ahead = some (body, s) ∧ e = .returned (.tuple #[.slice A1 n1 c1, .agg (bcs s).toArray, .bool true]) ∧ Mine 5 w w' A1 n1 c1 body ∧ Fr w A1
attribute [local go_sem ↓] loadH_fold mkHz_fold
attribute [local go_sem] mkHz_zero
set_option maxHeartbeats 4000000 in
set_option maxRecDepth 100000 in
theorem next_any (w : World) (A : Option Addr) (n c : Nat) (b : List Int) (kind : Int) (ahead : List Int) (hB : Bys w A n b) (hc : n ≤ c) (hn : n ≤ 300000) (hk : 0 ≤ kind ∧ kind ≤ 255) (hl : ahead.length = 32) (hab : Byt ahead) :
    Calls Try.prog 138 #[.slice A n c, .int .u8 kind, .agg (bcs ahead).toArray] w (NextPost w b kind ahead) := by
  obtain ⟨w1, hw1⟩ : ∃ z, z = (w.alloc (.cells (bcs ahead).toArray 80)).alloc (.cells (bcs zero32).toArray 80) := ⟨_, rfl⟩
  have B1 := hide (show Below w.heap.size w w1 by rw [hw1]; exact below_alloc (below_alloc (Below.refl _ _) _) _)
  have KA := hide (show Blk w1 w.heap.size 80 (bcs ahead) by rw [hw1]; exact (Blk.new w _ _).alloc _)
  have K1 := hide (show Blk w1 (w.heap.size + 1) 80 (bcs zero32) by rw [hw1]; exact Blk.new1 w _ _ _)
  have HSZ := hide (show w1.heap.size = w.heap.size + 2 by rw [hw1]; simp)
  have Y1 := hide (hB.below B1.out)
  have HBL := hide hB.1
  have HBB := hide hB.2.1
  have HC := hide hc
  have HN := hide hn
  have HL := hide hl
  have HAB := hide hab
  have k0 := hk.1
  have k9 := hk.2
  have n0 : (0 : Int) ≤ (n : Int) := by omega
  have n9 : (n : Int) ≤ 300000 := by omega
  clear hB hc hn hk hl hab
  by_cases h5 : n < 5
  · have HX := hide (show nextR b kind ahead = none by rw [nextR, if_pos (by rw [HBL.out]; exact h5)])
    have HE := hide (five_short b (by rw [HBL.out]; exact h5))
    have i5 : (n : Int) < 5 := by omega
    obtain ⟨A', hs, hsa, hBA, _⟩ := slice_head A n c n (Nat.le_refl _) HC.out
    have Y2 := hide (hBA w1 b Y1.out)
    have H5 := hide h5
    clear hBA h5
    go_enter Try.func138, Try.ntmps138
    go_wp2_with (refine wpList_alloc_agg rfl 80 rfl (bcs zero32) zero32_info ?_; simp only [Act.put, List.setIfInBounds_toArray, List.set_cons_zero, List.set_cons_succ, World.size_alloc])
    rw [← hw1]
    clear hw1
    refine (New_any w1 A' n c _ Y2.out (by omega)).mono ?_
    rintro e w2 ⟨g, h, rfl, r2, hg, hh, b2⟩
    have RD2 := hide r2
    have B2 := hide (Below.then_ B1.out b2)
    have B12 := hide b2
    have K2 := hide (K1.out.under b2)
    have KA2 := hide (KA.out.under b2)
    have Y2b := hide (Y1.out.below b2)
    have HGN := hide (show w1.heap.size ≤ g from hg)
    clear r2 hg hh b2
    go_wp2_with fail
    refine (RFixed_any w2 g h _ 4 RD2.out).mono ?_
    rintro e w3 ⟨rfl, r3, o3⟩
    rw [show b.take n = b.take 5 by rw [List.take_of_length_le (by rw [HBL.out]; exact Nat.le_refl _), List.take_of_length_le (by rw [HBL.out]; have := H5.out; omega)]] at r3 ⊢
    obtain ⟨N, q1, hq1⟩ : ∃ N q1, Rd.fixed ⟨b.take 5, 0⟩ 4 = (N, q1) := ⟨_, _, rfl⟩
    rw [hq1] at r3 ⊢
    have he := HE.out
    rw [hq1] at he
    have HE2 := hide he
    have RD3 := hide r3
    have B3 := hide (o3.under B2.out fun i hi => by have h9 : i = g := hi; have := HGN.out; have := HSZ.out; omega)
    have K3 := hide (o3.blk K2.out (fun e => by have := HGN.out; have := HSZ.out; omega))
    clear r3 o3 hq1 he HE
    go_wp2_with fail
    refine (RFixed_any w3 g h q1 1 RD3.out).mono ?_
    rintro e w4 ⟨rfl, r4, o4⟩
    obtain ⟨X, q2, hq2⟩ : ∃ X q2, q1.fixed 1 = (X, q2) := ⟨_, _, rfl⟩
    have he := HE2.out
    rw [hq2] at he r4 ⊢
    have hne : ¬ q2.err = 0 := he
    have RD4 := hide r4
    have B4 := hide (o4.under B3.out fun i hi => by have h9 : i = g := hi; have := HGN.out; have := HSZ.out; omega)
    have K4 := hide (o4.blk K3.out (fun e => by have := HGN.out; have := HSZ.out; omega))
    clear r4 o4 hq2 he HE2
    go_wp2_with fail
    refine (Err_any w4 g h q2 RD4.out).mono ?_
    rintro e wx ⟨rfl, rfl⟩
    go_wp2_with (refine wpList_store_blk rfl 80 _ _ rfl (w.heap.size + 1) 0 80 (bcs zero32) (bcs zero32) (by rfl) (by rfl) (K4.out) (Nat.le_refl _) isH32 (bcs_one _) ?_; intro w9 o9 z9 b9; rw [lay_all _ _ rfl] at b9; simp only [Act.put])
    refine bodyPost_ret (results_tmp_cell_tmp_blk rfl _ _ (w.heap.size + 1) 80 _ _ (by rfl) b9 Try.underlying80 rfl isH32) rfl (.inl ⟨HX.out, rfl, o9.under (B4.out) fun i hi => by have h9 : i = w.heap.size + 1 := hi; omega⟩)
  · have i5 : ¬ (n : Int) < 5 := by omega
    obtain ⟨x, hx4, hf4, hf1⟩ := five_long b (by rw [HBL.out]; omega)
    have hx := HBB.out x (List.mem_of_getElem? hx4)
    obtain ⟨X, rfl⟩ : ∃ X : Nat, x = (X : Int) := ⟨x.toNat, by omega⟩
    rw [Int.toNat_natCast] at hf1
    obtain ⟨N, hN⟩ : ∃ N, N = num (b.take 4) := ⟨_, rfl⟩
    have hN9 : N < 4294967296 := by
      have h9 := num_lt (b.take 4) (fun y hy => HBB.out y (List.mem_of_mem_take hy))
      rw [← hN, List.length_take, show min 4 b.length = 4 by rw [HBL.out]; omega] at h9
      exact h9
    rw [← hN] at hf4
    have HF4 := hide hf4
    have HF1 := hide hf1
    have HX4 := hide hx4
    have HNN := hide hN
    have N0 : (0 : Int) ≤ (N : Int) := by omega
    have N9 : (N : Int) < 4294967296 := by omega
    have x0 : (0 : Int) ≤ (X : Int) := hx.1
    have x9 : (X : Int) ≤ 255 := hx.2
    have H5 := hide h5
    obtain ⟨A', hs0, _, hBA, _⟩ := slice_head A n c 5 (by omega) HC.out
    have hs : ∀ w : World, (Instr.slice 28 (.slice A n c) none (some (.int .i64 5)) none).run Try.prog w = .ok (.slice A' 5 c) w := hs0
    have Y2 := hide (hBA w1 b Y1.out)
    clear hBA h5 hs0 hx4 hf4 hf1 hN hN9 hx
    go_enter Try.func138, Try.ntmps138
    go_wp2_with (refine wpList_alloc_agg rfl 80 rfl (bcs zero32) zero32_info ?_; simp only [Act.put, List.setIfInBounds_toArray, List.set_cons_zero, List.set_cons_succ, World.size_alloc])
    rw [← hw1]
    clear hw1
    refine (New_any w1 A' 5 c _ Y2.out (by omega)).mono ?_
    rintro e w2 ⟨g, h, rfl, r2, hg, hh, b2⟩
    have RD2 := hide r2
    have B2 := hide (Below.then_ B1.out b2)
    have B12 := hide b2
    have K2 := hide (K1.out.under b2)
    have KA2 := hide (KA.out.under b2)
    have Y2b := hide (Y1.out.below b2)
    have HGN := hide (show w1.heap.size ≤ g from hg)
    clear r2 hg hh b2
    go_wp2_with fail
    refine (RFixed_any w2 g h _ 4 RD2.out).mono ?_
    rintro e w3 ⟨rfl, r3, o3⟩
    rw [HF4.out] at r3 ⊢
    have RD3 := hide r3
    have B3 := hide (o3.under B2.out fun i hi => by have h9 : i = g := hi; have := HGN.out; have := HSZ.out; omega)
    have O3 := hide o3
    have hwn : IntKind.i64.wrap (N : Int) = (N : Int) := by rw [IntKind.wrap_i64]; omega
    clear r3 o3
    go_wp2_with fail
    refine (RFixed_any w3 g h ⟨[(X : Int)], 0⟩ 1 RD3.out).mono ?_
    rintro e w4 ⟨rfl, r4, o4⟩
    rw [HF1.out] at r4 ⊢
    have RD4 := hide r4
    have B4 := hide (o4.under B3.out fun i hi => by have h9 : i = g := hi; have := HGN.out; have := HSZ.out; omega)
    have O24 := hide (O3.out.trans o4 fun _ _ h => h)
    have K4 := hide (O24.out.blk K2.out (fun e => by have := HGN.out; have := HSZ.out; omega))
    have KA4 := hide (O24.out.blk KA2.out (fun e => by have := HGN.out; have := HSZ.out; omega))
    have B14 := hide (show Below w1.heap.size w1 w4 from (o4.under (O3.out.under B12.out fun i hi => by have h9 : i = g := hi; have := HGN.out; omega) fun i hi => by have h9 : i = g := hi; have := HGN.out; omega))
    have Y4 := hide (Y1.out.below B14.out)
    clear r4 o4
    go_wp2_with fail
    refine (Err_any w4 g h ⟨[], 0⟩ RD4.out).mono ?_
    rintro e wx ⟨rfl, rfl⟩
    have HNR : Hid (nextR b kind ahead = if 100000 < N ∨ (X : Int) ≠ kind ∨ n < 37 + N then none else if sha (ahead ++ b.take (5 + N)) ≠ (b.drop (5 + N)).take 32 then none else some ((b.drop 5).take N, sha (ahead ++ b.take (5 + N)))) := hide (by
      rw [nextR, if_neg (by rw [HBL.out]; exact H5.out), ← HNN.out, HX4.out, HBL.out]
      simp only [ne_eq, Option.some.injEq])
    obtain ⟨M, hM⟩ : ∃ M : Int, M = (N : Int) := ⟨_, rfl⟩
    rw [← hM] at N0 N9 ⊢
    have HM := hide hM
    clear hM hwn
    by_cases hbig : 100000 < N
    · have HX := hide (show nextR b kind ahead = none by rw [HNR.out, if_pos (.inl hbig)])
      have b9 : (100000 : Int) < M := by have := HM.out; omega
      clear HNR
      go_wp2_with (refine wpList_store_blk rfl 80 _ _ rfl (w.heap.size + 1) 0 80 (bcs zero32) (bcs zero32) (by rfl) (by rfl) (K4.out) (Nat.le_refl _) isH32 (bcs_one _) ?_; intro w9 o9 z9 b9; rw [lay_all _ _ rfl] at b9; simp only [Act.put])
      refine bodyPost_ret (results_tmp_cell_tmp_blk rfl _ _ (w.heap.size + 1) 80 _ _ (by rfl) b9 Try.underlying80 rfl isH32) rfl (.inl ⟨HX.out, rfl, o9.under (B4.out) fun i hi => by have h9 : i = w.heap.size + 1 := hi; omega⟩)
    · have hsm : ¬ (100000 : Int) < M := by have := HM.out; omega
      by_cases hkd : (X : Int) = kind
      · by_cases hlen : n < 37 + N
        · have HX := hide (show nextR b kind ahead = none by rw [HNR.out, if_pos (.inr (.inr hlen))])
          have hl9 : (n : Int) < 5 + M + 32 := by have := HM.out; omega
          clear HNR
          go_wp2_with (refine wpList_store_blk rfl 80 _ _ rfl (w.heap.size + 1) 0 80 (bcs zero32) (bcs zero32) (by rfl) (by rfl) (K4.out) (Nat.le_refl _) isH32 (bcs_one _) ?_; intro w9 o9 z9 b9; rw [lay_all _ _ rfl] at b9; simp only [Act.put])
          refine bodyPost_ret (results_tmp_cell_tmp_blk rfl _ _ (w.heap.size + 1) 80 _ _ (by rfl) b9 Try.underlying80 rfl isH32) rfl (.inl ⟨HX.out, rfl, o9.under (B4.out) fun i hi => by have h9 : i = w.heap.size + 1 := hi; omega⟩)
        · have HX : Hid (nextR b kind ahead = if sha (ahead ++ b.take (5 + N)) ≠ (b.drop (5 + N)).take 32 then none else some ((b.drop 5).take N, sha (ahead ++ b.take (5 + N)))) := hide (by rw [HNR.out, if_neg]; rintro (h | h | h); exact hbig h; exact h hkd; exact hlen h)
          have hl9 : ¬ (n : Int) < 5 + M + 32 := by have := HM.out; omega
          have HLEN := hide (show 37 + N ≤ n by omega)
          clear HNR hbig hlen
          go_wp2_with fail
          have hwM5 : IntKind.i64.wrap (5 + M) = 5 + M := by rw [IntKind.wrap_i64]; omega
          have hwM6 : IntKind.i64.wrap (5 + M + 32) = 5 + M + 32 := by rw [IntKind.wrap_i64]; omega
          have HM5 := hide (show (5 : Int) + M = ((5 + N : Nat) : Int) by have := HM.out; omega)
          have HM6 := hide (show (5 : Int) + M + 32 = ((5 + N + 32 : Nat) : Int) by have := HM.out; omega)
          obtain ⟨A5, hs5x, hs5y, hBA5, _⟩ := slice_head A n c (5 + N) (by have := HLEN.out; omega) HC.out
          obtain ⟨A6, hs6x, hs6y, hBA6⟩ := slice_both A n c (5 + N) (5 + N + 32) (by omega) (by have := HLEN.out; omega) HC.out
          obtain ⟨A8, hs8x, hs8y, hBA8⟩ := slice_both A n c 5 (5 + N) (by omega) (by have := HLEN.out; omega) HC.out
          have hs5 : ∀ w : World, (Instr.slice 28 (.slice A n c) none (some (.int .i64 (5 + M))) none).run Try.prog w = .ok (.slice A5 (5 + N) c) w := fun w => by rw [HM5.out]; exact hs5x w
          have hs6 : ∀ w : World, (Instr.slice 28 (.slice A n c) (some (.int .i64 (5 + M))) (some (.int .i64 (5 + M + 32))) none).run Try.prog w = .ok (.slice A6 32 (c - (5 + N))) w := fun w => by rw [HM6.out, HM5.out, hs6x w, show 5 + N + 32 - (5 + N) = 32 by omega]
          have hs8 : ∀ w : World, (Instr.slice 28 (.slice A n c) (some (.int .i64 5)) (some (.int .i64 (5 + M))) none).run Try.prog w = .ok (.slice A8 N (c - 5)) w := fun w => by rw [HM5.out]; have h9 := hs8x w; rwa [show 5 + N - 5 = N by omega] at h9
          have hs5a : ∀ w : World, (Instr.sliceAt 28 (.slice A n c) none (some (.int .i64 (5 + M))) none).run Try.prog w = .ok (.slice A5 (5 + N) c) w := fun w => by rw [HM5.out]; exact hs5y w
          have hs6a : ∀ w : World, (Instr.sliceAt 28 (.slice A n c) (some (.int .i64 (5 + M))) (some (.int .i64 (5 + M + 32))) none).run Try.prog w = .ok (.slice A6 32 (c - (5 + N))) w := fun w => by rw [HM6.out, HM5.out, hs6y w, show 5 + N + 32 - (5 + N) = 32 by omega]
          have hs8a : ∀ w : World, (Instr.sliceAt 28 (.slice A n c) (some (.int .i64 5)) (some (.int .i64 (5 + M))) none).run Try.prog w = .ok (.slice A8 N (c - 5)) w := fun w => by rw [HM5.out]; have h9 := hs8y w; rwa [show 5 + N - 5 = N by omega] at h9
          have Y5 := hide (hBA5 w4 b Y4.out)
          have Y6 := hide (show Bys w4 A6 32 ((b.drop (5 + N)).take 32) by have h9 := hBA6 w4 b Y4.out; rwa [show 5 + N + 32 - (5 + N) = 32 by omega] at h9)
          have Y8 := hide (show Bys w4 A8 N ((b.drop 5).take N) by have h9 := hBA8 w4 b Y4.out; rwa [show 5 + N - 5 = N by omega] at h9)
          have YA := hide (show Bys w4 (some ⟨w.heap.size, 0, none⟩) 32 ahead by have h9 := KA4.out.bys HAB.out 0 32 (by rw [HL.out]; decide); rwa [List.drop_zero, List.take_of_length_le (by rw [HL.out]; decide)] at h9)
          obtain ⟨S, hS⟩ : ∃ S, S = sha (ahead ++ b.take (5 + N)) := ⟨_, rfl⟩
          have HSL := hide (show S.length = 32 by rw [hS]; exact sha_len _)
          have HSB := hide (show Byt S by rw [hS]; exact sha_byt _)
          have hx9 := HX.out
          rw [← hS] at hx9
          have HX9 := hide hx9
          have HSE := hide hS
          have HTL := hide (show (b.take (5 + N)).length ≤ 100005 by rw [List.length_take]; have := HM.out; omega)
          clear hs5x hs5y hBA5 hs6x hs6y hBA6 hs8x hs8y hBA8 hS hx9 HX
          refine wp_region_held_drew (S := fun w' => Below w4.heap.size w4 w') (by kernel_rfl) ((Below.refl _ w4).drew) (fun hSA0 => ?_)
          obtain ⟨w4d, hwA⟩ : ∃ x, x = w4.drew := ⟨_, rfl⟩
          rw [← hwA] at hSA0 ⊢
          clear hwA
          (refine wpAnyH_take (i := 0) (oi := ⟨some 46, .slice 80 (.tmp 5) Option.none Option.none Option.none, 28, "chainlog.go:95", #[], none⟩) (v := ?_) rfl (by kernel_rfl) (by kernel_rfl) (by kernel_rfl) (fun _ _ _ h => h) (Or.inl ⟨by rfl, fun w' hSw => ?_⟩) hSA0 ?_; rotate_left; focus (go_simp; try with_reducible rfl))
          simp only [Act.put, List.setIfInBounds_toArray, List.set_cons_zero, List.set_cons_succ]
          (refine wpAnyH_take (i := 1) (oi := ⟨some 47, .move (.tmp 0), 28, "chainlog.go:95", #[], none⟩) (v := ?_) rfl (by kernel_rfl) (by kernel_rfl) (by kernel_rfl) (fun _ _ _ h => h) (Or.inl ⟨by rfl, fun w' hSw => ?_⟩) hSA0 ?_; rotate_left; focus (go_simp; try with_reducible rfl))
          simp only [Act.put, List.setIfInBounds_toArray, List.set_cons_zero, List.set_cons_succ]
          (refine wpAnyH_take (i := 2) (oi := ⟨some 48, .move (.tmp 10), 3, "chainlog.go:95", #[], none⟩) (v := ?_) rfl (by kernel_rfl) (by kernel_rfl) (by kernel_rfl) (fun _ _ _ h => h) (Or.inl ⟨by rfl, fun w' hSw => ?_⟩) hSA0 ?_; rotate_left; focus (go_simp; try with_reducible rfl))
          simp only [Act.put, List.setIfInBounds_toArray, List.set_cons_zero, List.set_cons_succ]
          (refine wpAnyH_take (i := 3) (oi := ⟨some 49, .binOp .add 3 (.const (.int .i64 5)) (.tmp 48) 3, 3, "chainlog.go:95", #[⟨2, .data⟩], none⟩) (v := ?_) rfl (by kernel_rfl) (by kernel_rfl) (by kernel_rfl) (fun _ _ _ h => h) (Or.inl ⟨by rfl, fun w' hSw => ?_⟩) hSA0 ?_; rotate_left; focus (go_simp; try with_reducible rfl))
          simp only [Act.put, List.setIfInBounds_toArray, List.set_cons_zero, List.set_cons_succ]
          (refine wpAnyH_take (i := 4) (oi := ⟨some 50, .slice 28 (.tmp 47) Option.none (Option.some (.tmp 49)) Option.none, 28, "chainlog.go:95", #[⟨1, .data⟩, ⟨3, .data⟩], none⟩) (v := ?_) rfl (by kernel_rfl) (by kernel_rfl) (by kernel_rfl) (fun _ _ _ h => h) (Or.inl ⟨by rfl, fun w' hSw => ?_⟩) hSA0 ?_; rotate_left; focus (go_simp; try with_reducible rfl))
          simp only [Act.put, List.setIfInBounds_toArray, List.set_cons_zero, List.set_cons_succ]
          refine wpAnyH_ready (rs := [5, 7]) (by kernel_rfl) (by simp) ?_
          refine AllReadyH.cons rfl (fun K hK => ?_) (AllReadyH.cons rfl (fun K hK => ?_) AllReadyH.nil)
          · go_simp
            obtain ⟨w4dr, hz⟩ : ∃ z, z = w4d.alloc (.cells #[.slice (some ⟨w.heap.size, 0, none⟩) 32 32, .slice A5 (5 + N) c] 28) := ⟨_, rfl⟩
            rw [← hz]
            obtain ⟨pr, hp⟩ : ∃ p, p = w4d.heap.size := ⟨_, rfl⟩
            rw [← hp]
            have b9 : Below w4d.heap.size w4d w4dr := by rw [hz]; exact below_alloc (Below.refl _ _) _
            have Sw4dr := hide (Below.then_ hSA0 b9)
            have Rw4dr := hide (show Byss w4dr (some ⟨pr, 0, none⟩) 2 [ahead, b.take (5 + N)] by rw [hz, hp]; exact Byss.two w4d w4d _ _ _ 32 (5 + N) 32 c _ _ (YA.out.below hSA0) (Y5.out.below hSA0) (Nat.le_refl _) (by have := HLEN.out; have := HC.out; omega) (Below.refl _ _))
            clear hz hp b9
            refine hK.out _ _ (Sw4dr.out) (fun hSA1 => ?_)
            clear hK K
            refine wpAnyH_ready (rs := [6, 7]) (by kernel_rfl) (by simp) ?_
            refine AllReadyH.cons rfl (fun K hK => ?_) (AllReadyH.cons rfl (fun K hK => ?_) AllReadyH.nil)
            · go_simp
              go_simp
              go_wp2_with (go_at_call 132; refine (DSum_any w4dr (some ⟨pr, 0, none⟩) 2 2 [ahead, b.take (5 + N)] Rw4dr.out (by simp [HL.out]) (by simp only [List.flatten_cons, List.flatten_nil, List.append_nil, List.length_append, HL.out]; have := HTL.out; omega) (by decide)).mono ?_; rintro e w4drs ⟨rfl, b9⟩; rw [show [ahead, b.take (5 + N)].flatten = ahead ++ b.take (5 + N) by simp, ← HSE.out])
              have Sw4drs := hide (Below.then_ hSA1 b9)
              clear b9
              refine hK.out _ _ (Sw4drs.out) (fun hSA2 => ?_)
              clear hK K
              refine wpAnyH_ready (rs := [7]) (by kernel_rfl) (by simp) ?_
              refine AllReadyH.cons rfl (fun K hK => ?_) AllReadyH.nil
              refine step_allocA rfl 12 rfl 80 rfl (bcs zero32) zero32_info ?_
              obtain ⟨w4drsh, hz⟩ : ∃ z, z = w4drs.alloc (.cells (bcs zero32).toArray 80) := ⟨_, rfl⟩
              rw [← hz]
              obtain ⟨ph, hp⟩ : ∃ p, p = w4drs.heap.size := ⟨_, rfl⟩
              rw [← hp]
              have b9 : Below w4drs.heap.size w4drs w4drsh := by rw [hz]; exact below_alloc (Below.refl _ _) _
              have Sw4drsh := hide (Below.then_ hSA2 b9)
              have Kw4drsh := hide (show Blk w4drsh ph 80 (bcs zero32) by rw [hz, hp]; exact Blk.new w4drs _ _)
              have HPH := hide (show w4.heap.size ≤ ph by rw [hp]; exact (show Below w4.heap.size w4 w4drs from hSA2).size)
              clear hz hp b9
              simp only [Act.put, List.setIfInBounds_toArray, List.set_cons_zero, List.set_cons_succ]
              refine hK.out _ _ (Sw4drsh.out) (fun hSA3 => ?_)
              clear hK K
              refine wpAnyH_ready (rs := [8]) (by kernel_rfl) (by simp) ?_
              refine AllReadyH.cons rfl (fun K hK => ?_) AllReadyH.nil
              refine step_storeB rfl 80 _ _ rfl ph 0 80 (bcs zero32) (bcs S) (by rfl) (by rfl) Kw4drsh.out (by rw [bcs_length, bcs_length, HSL.out]; decide) (by rw [bcs_length, HSL.out]; exact isH32) (bcs_one _) ?_
              intro w8 oz zz bz
              rw [lay_all _ _ (by rw [bcs_length, bcs_length, HSL.out]; rfl)] at bz
              have KI := hide bz
              have B48 := hide (oz.under (show Below w4.heap.size w4 w4drsh from hSA3) fun i hi => by have h9 : i = ph := hi; have := HPH.out; omega)
              clear oz zz bz
              simp only [Act.put]
              refine hK.out _ _ (B48.out) (fun hSA4 => ?_)
              clear hK K
              refine wpAnyH_done (by kernel_rfl) ?_ _
              go_wp2_with fail
              refine wp_region_held_drew (S := fun w' => Below w8.heap.size w8 w') (by kernel_rfl) ((Below.refl _ w8).drew) (fun hSB0 => ?_)
              obtain ⟨w8d, hwB⟩ : ∃ x, x = w8.drew := ⟨_, rfl⟩
              rw [← hwB] at hSB0 ⊢
              clear hwB
              (refine wpAnyH_take (i := 0) (oi := ⟨some 53, .slice 80 (.tmp 12) Option.none Option.none Option.none, 28, "chainlog.go:96", #[], none⟩) (v := ?_) rfl (by kernel_rfl) (by kernel_rfl) (by kernel_rfl) (fun _ _ _ h => h) (Or.inl ⟨by rfl, fun w' hSw => ?_⟩) hSB0 ?_; rotate_left; focus (go_simp; try with_reducible rfl))
              simp only [Act.put, List.setIfInBounds_toArray, List.set_cons_zero, List.set_cons_succ]
              (refine wpAnyH_take (i := 1) (oi := ⟨some 54, .move (.tmp 0), 28, "chainlog.go:96", #[], none⟩) (v := ?_) rfl (by kernel_rfl) (by kernel_rfl) (by kernel_rfl) (fun _ _ _ h => h) (Or.inl ⟨by rfl, fun w' hSw => ?_⟩) hSB0 ?_; rotate_left; focus (go_simp; try with_reducible rfl))
              simp only [Act.put, List.setIfInBounds_toArray, List.set_cons_zero, List.set_cons_succ]
              (refine wpAnyH_take (i := 2) (oi := ⟨some 55, .move (.tmp 10), 3, "chainlog.go:96", #[], none⟩) (v := ?_) rfl (by kernel_rfl) (by kernel_rfl) (by kernel_rfl) (fun _ _ _ h => h) (Or.inl ⟨by rfl, fun w' hSw => ?_⟩) hSB0 ?_; rotate_left; focus (go_simp; try with_reducible rfl))
              simp only [Act.put, List.setIfInBounds_toArray, List.set_cons_zero, List.set_cons_succ]
              (refine wpAnyH_take (i := 3) (oi := ⟨some 56, .binOp .add 3 (.const (.int .i64 5)) (.tmp 55) 3, 3, "chainlog.go:96", #[⟨2, .data⟩], none⟩) (v := ?_) rfl (by kernel_rfl) (by kernel_rfl) (by kernel_rfl) (fun _ _ _ h => h) (Or.inl ⟨by rfl, fun w' hSw => ?_⟩) hSB0 ?_; rotate_left; focus (go_simp; try with_reducible rfl))
              simp only [Act.put, List.setIfInBounds_toArray, List.set_cons_zero, List.set_cons_succ]
              (refine wpAnyH_take (i := 4) (oi := ⟨some 57, .move (.tmp 10), 3, "chainlog.go:96", #[], none⟩) (v := ?_) rfl (by kernel_rfl) (by kernel_rfl) (by kernel_rfl) (fun _ _ _ h => h) (Or.inl ⟨by rfl, fun w' hSw => ?_⟩) hSB0 ?_; rotate_left; focus (go_simp; try with_reducible rfl))
              simp only [Act.put, List.setIfInBounds_toArray, List.set_cons_zero, List.set_cons_succ]
              (refine wpAnyH_take (i := 5) (oi := ⟨some 58, .binOp .add 3 (.const (.int .i64 5)) (.tmp 57) 3, 3, "chainlog.go:96", #[⟨4, .data⟩], none⟩) (v := ?_) rfl (by kernel_rfl) (by kernel_rfl) (by kernel_rfl) (fun _ _ _ h => h) (Or.inl ⟨by rfl, fun w' hSw => ?_⟩) hSB0 ?_; rotate_left; focus (go_simp; try with_reducible rfl))
              simp only [Act.put, List.setIfInBounds_toArray, List.set_cons_zero, List.set_cons_succ]
              (refine wpAnyH_take (i := 6) (oi := ⟨some 59, .binOp .add 3 (.tmp 58) (.const (.int .i64 32)) 3, 3, "chainlog.go:96", #[⟨5, .data⟩], none⟩) (v := ?_) rfl (by kernel_rfl) (by kernel_rfl) (by kernel_rfl) (fun _ _ _ h => h) (Or.inl ⟨by rfl, fun w' hSw => ?_⟩) hSB0 ?_; rotate_left; focus (go_simp; try with_reducible rfl))
              simp only [Act.put, List.setIfInBounds_toArray, List.set_cons_zero, List.set_cons_succ]
              (refine wpAnyH_take (i := 7) (oi := ⟨some 60, .slice 28 (.tmp 54) (Option.some (.tmp 56)) (Option.some (.tmp 59)) Option.none, 28, "chainlog.go:96", #[⟨1, .data⟩, ⟨3, .data⟩, ⟨6, .data⟩], none⟩) (v := ?_) rfl (by kernel_rfl) (by kernel_rfl) (by kernel_rfl) (fun _ _ _ h => h) (Or.inl ⟨by rfl, fun w' hSw => ?_⟩) hSB0 ?_; rotate_left; focus (go_simp; try with_reducible rfl))
              simp only [Act.put, List.setIfInBounds_toArray, List.set_cons_zero, List.set_cons_succ]
              refine wpAnyH_ready (rs := [8]) (by kernel_rfl) (by simp) ?_
              refine AllReadyH.cons rfl (fun K hK => ?_) AllReadyH.nil
              go_simp
              go_simp
              go_wp2_with (go_at_call 131; refine (BytesEqual_any w8d (some ⟨ph, 0, none⟩) A6 32 32 32 (c - (5 + N)) S ((b.drop (5 + N)).take 32) (by have h9 := (KI.out.under hSB0).bys HSB.out 0 32 (by rw [HSL.out]; decide); rwa [List.drop_zero, List.take_of_length_le (by rw [HSL.out]; decide)] at h9) (Y6.out.below (Below.then_ B48.out hSB0))).mono ?_; rintro e wx ⟨rfl, rfl⟩)
              refine hK.out _ _ (hSB0) (fun hSB1 => ?_)
              clear hK K
              (refine wpAnyH_take (i := 9) (oi := ⟨some 62, .unOp .not 4 (.tmp 61), 4, "chainlog.go:96", #[⟨8, .data⟩], none⟩) (v := ?_) rfl (by kernel_rfl) (by kernel_rfl) (by kernel_rfl) (fun _ _ _ h => h) (Or.inl ⟨by rfl, fun w' hSw => ?_⟩) hSB1 ?_; rotate_left; focus (go_simp; try with_reducible rfl))
              simp only [Act.put, List.setIfInBounds_toArray, List.set_cons_zero, List.set_cons_succ]
              refine wpAnyH_done (by kernel_rfl) ?_ _
              obtain ⟨w9, hw9⟩ : ∃ z, z = w8d := ⟨_, rfl⟩
              have B89 := hide (show Below w8.heap.size w8 w9 by rw [hw9]; exact hSB1)
              rw [← hw9]
              clear hw9
              have hx9 := HX9.out
              by_cases he : S = (b.drop (5 + N)).take 32
              · rw [if_neg (by simpa using he)] at hx9
                have HX := hide hx9
                rw [decide_eq_true he]
                clear hx9 he
                go_wp2_with fail
                refine wp_region_held_drew (S := fun w' => w'.rangeAt ph 0 (bcs S)) (by kernel_rfl) (range_under (KI.out.under B89.out).whole (Below.refl _ w9).drew) (fun hSC0 => ?_)
                obtain ⟨w9d, hwC⟩ : ∃ x, x = w9.drew := ⟨_, rfl⟩
                have Bd := hide (show Below w9.heap.size w9 w9d by rw [hwC]; exact (Below.refl _ w9).drew)
                rw [← hwC] at hSC0 ⊢
                clear hwC
                (refine wpAnyH_take (i := 0) (oi := ⟨some 64, .move (.tmp 0), 28, "chainlog.go:99", #[], none⟩) (v := ?_) rfl (by kernel_rfl) (by kernel_rfl) (by kernel_rfl) (fun _ _ _ h => h) (Or.inl ⟨by rfl, fun w' hSw => ?_⟩) hSC0 ?_; rotate_left; focus (go_simp; try with_reducible rfl))
                simp only [Act.put, List.setIfInBounds_toArray, List.set_cons_zero, List.set_cons_succ]
                (refine wpAnyH_take (i := 1) (oi := ⟨some 65, .move (.tmp 10), 3, "chainlog.go:99", #[], none⟩) (v := ?_) rfl (by kernel_rfl) (by kernel_rfl) (by kernel_rfl) (fun _ _ _ h => h) (Or.inl ⟨by rfl, fun w' hSw => ?_⟩) hSC0 ?_; rotate_left; focus (go_simp; try with_reducible rfl))
                simp only [Act.put, List.setIfInBounds_toArray, List.set_cons_zero, List.set_cons_succ]
                (refine wpAnyH_take (i := 2) (oi := ⟨some 66, .binOp .add 3 (.const (.int .i64 5)) (.tmp 65) 3, 3, "chainlog.go:99", #[⟨1, .data⟩], none⟩) (v := ?_) rfl (by kernel_rfl) (by kernel_rfl) (by kernel_rfl) (fun _ _ _ h => h) (Or.inl ⟨by rfl, fun w' hSw => ?_⟩) hSC0 ?_; rotate_left; focus (go_simp; try with_reducible rfl))
                simp only [Act.put, List.setIfInBounds_toArray, List.set_cons_zero, List.set_cons_succ]
                (refine wpAnyH_take (i := 3) (oi := ⟨some 67, .slice 28 (.tmp 64) (Option.some (.const (.int .i64 5))) (Option.some (.tmp 66)) Option.none, 28, "chainlog.go:99", #[⟨0, .data⟩, ⟨2, .data⟩], none⟩) (v := ?_) rfl (by kernel_rfl) (by kernel_rfl) (by kernel_rfl) (fun _ _ _ h => h) (Or.inl ⟨by rfl, fun w' hSw => ?_⟩) hSC0 ?_; rotate_left; focus (go_simp; try with_reducible rfl))
                simp only [Act.put, List.setIfInBounds_toArray, List.set_cons_zero, List.set_cons_succ]
                (refine wpAnyH_take (i := 5) (oi := ⟨some 69, .load 80 (.tmp 12), 80, "chainlog.go:99", #[⟨6, .gcOnly .lateStores⟩], none⟩) (v := ?_) rfl (by kernel_rfl) (by kernel_rfl) (by kernel_rfl) (fun _ _ _ h => h) (Or.inl ⟨by rfl, fun w' hSw => ?_⟩) hSC0 ?_; rotate_left; focus (have z1 := loadH_run w' ph 0 S hSw HSL.out; go_simp; try with_reducible rfl))
                simp only [Act.put, List.setIfInBounds_toArray, List.set_cons_zero, List.set_cons_succ]
                refine wpAnyH_ready (rs := [4]) (by kernel_rfl) (by simp) ?_
                refine AllReadyH.cons rfl (fun K hK => ?_) AllReadyH.nil
                go_simp
                go_simp
                go_wp2_with (go_at_call 81; refine (clone_any w9 w9d A8 N (c - 5) ((b.drop 5).take N) Bd.out (Y8.out.below (Below.then_ B48.out (Below.then_ B89.out Bd.out))) (by have := HLEN.out; have := HN.out; omega)).mono ?_; rintro e wc hcl; obtain ⟨A9, n9, c9, rfl, m9, f9⟩ := hcl.fresh)
                have B19 := hide (Below.then_ B14.out (Below.then_ B48.out B89.out))
                have M9 := hide (m9.older B19.out)
                have F9 := hide (f9.older B19.out)
                have hr9 := range_under (KI.out.under B89.out).whole m9.below
                clear hcl m9 f9
                refine hK.out _ _ (hr9) (fun hSC1 => ?_)
                clear hK K
                (refine wpAnyH_take (i := 6) (oi := ⟨some 6, .assign (.tmp 68), 28, "chainlog.go:99", #[⟨4, .data⟩, ⟨4, .chain⟩, ⟨0, .phase⟩, ⟨1, .phase⟩, ⟨2, .phase⟩, ⟨3, .phase⟩, ⟨4, .phase⟩, { on := 5, ground := Go.Ground.textOnly Go.Departure.lateStores }], none⟩) (v := ?_) rfl (by kernel_rfl) (by kernel_rfl) (by kernel_rfl) (fun _ _ _ h => h) (Or.inl ⟨by rfl, fun w' hSw => ?_⟩) hSC1 ?_; rotate_left; focus (go_simp; try with_reducible rfl))
                simp only [Act.put, List.setIfInBounds_toArray, List.set_cons_zero, List.set_cons_succ]
                refine wpAnyH_ready (rs := [7]) (by kernel_rfl) (by simp) ?_
                refine AllReadyH.cons rfl (fun K hK => ?_) AllReadyH.nil
                refine step_storeB rfl 80 _ _ rfl (w.heap.size + 1) 0 80 (bcs zero32) (bcs S) (by rfl) (by rfl) (K1.out.under M9.out.below) (by rw [bcs_length, bcs_length, HSL.out]; decide) (by rw [bcs_length, HSL.out]; exact isH32) (bcs_one _) ?_
                intro wz oz zz bz
                rw [lay_all _ _ (by rw [bcs_length, bcs_length, HSL.out]; rfl)] at bz
                have hrz := range_only hSC1 oz (fun h => by have h9 : ph = w.heap.size + 1 := h; have := HPH.out; have := K4.out.lt; omega)
                have OZ := hide oz
                have BZ := hide bz
                clear oz zz bz
                simp only [Act.put]
                refine hK.out _ _ (hrz) (fun hSC2 => ?_)
                clear hK K
                (refine wpAnyH_take (i := 8) (oi := ⟨some 8, .assign (.const (.bool Bool.true)), 4, "chainlog.go:99", #[⟨7, .chain⟩, ⟨0, .phase⟩, ⟨1, .phase⟩, ⟨2, .phase⟩, ⟨3, .phase⟩, ⟨4, .phase⟩, ⟨5, .phase⟩, ⟨6, .phase⟩, ⟨7, .phase⟩], none⟩) (v := ?_) rfl (by kernel_rfl) (by kernel_rfl) (by kernel_rfl) (fun _ _ _ h => h) (Or.inl ⟨by rfl, fun w' hSw => ?_⟩) hSC2 ?_; rotate_left; focus (go_simp; try with_reducible rfl))
                simp only [Act.put, List.setIfInBounds_toArray]
                refine wpAnyH_done (by kernel_rfl) ?_ _
                clear hr9 hrz hSC0 hSC1 hSC2
                go_wp2_with fail
                have hm := M9.out.turn F9.out B1.out OZ.out (fun i hi => by have h9 : i = w.heap.size + 1 := hi; have := HSZ.out; omega)
                refine bodyPost_ret (results_tmp_cell_tmp_blk rfl _ _ (w.heap.size + 1) 80 _ _ (by rfl) BZ.out Try.underlying80 rfl (by rw [bcs_length, HSL.out]; exact isH32)) rfl (.inr ⟨_, _, A9, n9, c9, HX.out, rfl, hm, F9.out.older B1.out⟩)
              · rw [if_pos he] at hx9
                have HX := hide hx9
                rw [decide_eq_false he]
                clear hx9 he
                go_wp2_with (refine wpList_store_blk rfl 80 _ _ rfl (w.heap.size + 1) 0 80 (bcs zero32) (bcs zero32) (by rfl) (by rfl) ((K4.out.under B48.out).under B89.out) (Nat.le_refl _) isH32 (bcs_one _) ?_; intro w9 o9 z9 b9; rw [lay_all _ _ rfl] at b9; simp only [Act.put])
                refine bodyPost_ret (results_tmp_cell_tmp_blk rfl _ _ (w.heap.size + 1) 80 _ _ (by rfl) b9 Try.underlying80 rfl isH32) rfl (.inl ⟨HX.out, rfl, o9.under (Below.then_ B4.out (Below.then_ B48.out B89.out)) fun i hi => by have h9 : i = w.heap.size + 1 := hi; omega⟩)
            · refine step_allocA rfl 12 rfl 80 rfl (bcs zero32) zero32_info ?_
              obtain ⟨w4drh, hz⟩ : ∃ z, z = w4dr.alloc (.cells (bcs zero32).toArray 80) := ⟨_, rfl⟩
              rw [← hz]
              obtain ⟨ph, hp⟩ : ∃ p, p = w4dr.heap.size := ⟨_, rfl⟩
              rw [← hp]
              have b9 : Below w4dr.heap.size w4dr w4drh := by rw [hz]; exact below_alloc (Below.refl _ _) _
              have Sw4drh := hide (Below.then_ hSA1 b9)
              have Kw4drh := hide (show Blk w4drh ph 80 (bcs zero32) by rw [hz, hp]; exact Blk.new w4dr _ _)
              have HPH := hide (show w4.heap.size ≤ ph by rw [hp]; exact (show Below w4.heap.size w4 w4dr from hSA1).size)
              have Rw4drh := hide (Rw4dr.out.below b9)
              clear hz hp b9
              simp only [Act.put, List.setIfInBounds_toArray, List.set_cons_zero, List.set_cons_succ]
              refine hK.out _ _ (Sw4drh.out) (fun hSA2 => ?_)
              clear hK K
              refine wpAnyH_ready (rs := [6]) (by kernel_rfl) (by simp) ?_
              refine AllReadyH.cons rfl (fun K hK => ?_) AllReadyH.nil
              go_simp
              go_simp
              go_wp2_with (go_at_call 132; refine (DSum_any w4drh (some ⟨pr, 0, none⟩) 2 2 [ahead, b.take (5 + N)] Rw4drh.out (by simp [HL.out]) (by simp only [List.flatten_cons, List.flatten_nil, List.append_nil, List.length_append, HL.out]; have := HTL.out; omega) (by decide)).mono ?_; rintro e w4drhs ⟨rfl, b9⟩; rw [show [ahead, b.take (5 + N)].flatten = ahead ++ b.take (5 + N) by simp, ← HSE.out])
              have Sw4drhs := hide (Below.then_ hSA2 b9)
              have Kw4drhs := hide (Kw4drh.out.under b9)
              clear b9
              refine hK.out _ _ (Sw4drhs.out) (fun hSA3 => ?_)
              clear hK K
              refine wpAnyH_ready (rs := [8]) (by kernel_rfl) (by simp) ?_
              refine AllReadyH.cons rfl (fun K hK => ?_) AllReadyH.nil
              refine step_storeB rfl 80 _ _ rfl ph 0 80 (bcs zero32) (bcs S) (by rfl) (by rfl) Kw4drhs.out (by rw [bcs_length, bcs_length, HSL.out]; decide) (by rw [bcs_length, HSL.out]; exact isH32) (bcs_one _) ?_
              intro w8 oz zz bz
              rw [lay_all _ _ (by rw [bcs_length, bcs_length, HSL.out]; rfl)] at bz
              have KI := hide bz
              have B48 := hide (oz.under (show Below w4.heap.size w4 w4drhs from hSA3) fun i hi => by have h9 : i = ph := hi; have := HPH.out; omega)
              clear oz zz bz
              simp only [Act.put]
              refine hK.out _ _ (B48.out) (fun hSA4 => ?_)
              clear hK K
              refine wpAnyH_done (by kernel_rfl) ?_ _
              go_wp2_with fail
              refine wp_region_held_drew (S := fun w' => Below w8.heap.size w8 w') (by kernel_rfl) ((Below.refl _ w8).drew) (fun hSB0 => ?_)
              obtain ⟨w8d, hwB⟩ : ∃ x, x = w8.drew := ⟨_, rfl⟩
              rw [← hwB] at hSB0 ⊢
              clear hwB
              (refine wpAnyH_take (i := 0) (oi := ⟨some 53, .slice 80 (.tmp 12) Option.none Option.none Option.none, 28, "chainlog.go:96", #[], none⟩) (v := ?_) rfl (by kernel_rfl) (by kernel_rfl) (by kernel_rfl) (fun _ _ _ h => h) (Or.inl ⟨by rfl, fun w' hSw => ?_⟩) hSB0 ?_; rotate_left; focus (go_simp; try with_reducible rfl))
              simp only [Act.put, List.setIfInBounds_toArray, List.set_cons_zero, List.set_cons_succ]
              (refine wpAnyH_take (i := 1) (oi := ⟨some 54, .move (.tmp 0), 28, "chainlog.go:96", #[], none⟩) (v := ?_) rfl (by kernel_rfl) (by kernel_rfl) (by kernel_rfl) (fun _ _ _ h => h) (Or.inl ⟨by rfl, fun w' hSw => ?_⟩) hSB0 ?_; rotate_left; focus (go_simp; try with_reducible rfl))
              simp only [Act.put, List.setIfInBounds_toArray, List.set_cons_zero, List.set_cons_succ]
              (refine wpAnyH_take (i := 2) (oi := ⟨some 55, .move (.tmp 10), 3, "chainlog.go:96", #[], none⟩) (v := ?_) rfl (by kernel_rfl) (by kernel_rfl) (by kernel_rfl) (fun _ _ _ h => h) (Or.inl ⟨by rfl, fun w' hSw => ?_⟩) hSB0 ?_; rotate_left; focus (go_simp; try with_reducible rfl))
              simp only [Act.put, List.setIfInBounds_toArray, List.set_cons_zero, List.set_cons_succ]
              (refine wpAnyH_take (i := 3) (oi := ⟨some 56, .binOp .add 3 (.const (.int .i64 5)) (.tmp 55) 3, 3, "chainlog.go:96", #[⟨2, .data⟩], none⟩) (v := ?_) rfl (by kernel_rfl) (by kernel_rfl) (by kernel_rfl) (fun _ _ _ h => h) (Or.inl ⟨by rfl, fun w' hSw => ?_⟩) hSB0 ?_; rotate_left; focus (go_simp; try with_reducible rfl))
              simp only [Act.put, List.setIfInBounds_toArray, List.set_cons_zero, List.set_cons_succ]
              (refine wpAnyH_take (i := 4) (oi := ⟨some 57, .move (.tmp 10), 3, "chainlog.go:96", #[], none⟩) (v := ?_) rfl (by kernel_rfl) (by kernel_rfl) (by kernel_rfl) (fun _ _ _ h => h) (Or.inl ⟨by rfl, fun w' hSw => ?_⟩) hSB0 ?_; rotate_left; focus (go_simp; try with_reducible rfl))
              simp only [Act.put, List.setIfInBounds_toArray, List.set_cons_zero, List.set_cons_succ]
              (refine wpAnyH_take (i := 5) (oi := ⟨some 58, .binOp .add 3 (.const (.int .i64 5)) (.tmp 57) 3, 3, "chainlog.go:96", #[⟨4, .data⟩], none⟩) (v := ?_) rfl (by kernel_rfl) (by kernel_rfl) (by kernel_rfl) (fun _ _ _ h => h) (Or.inl ⟨by rfl, fun w' hSw => ?_⟩) hSB0 ?_; rotate_left; focus (go_simp; try with_reducible rfl))
              simp only [Act.put, List.setIfInBounds_toArray, List.set_cons_zero, List.set_cons_succ]
              (refine wpAnyH_take (i := 6) (oi := ⟨some 59, .binOp .add 3 (.tmp 58) (.const (.int .i64 32)) 3, 3, "chainlog.go:96", #[⟨5, .data⟩], none⟩) (v := ?_) rfl (by kernel_rfl) (by kernel_rfl) (by kernel_rfl) (fun _ _ _ h => h) (Or.inl ⟨by rfl, fun w' hSw => ?_⟩) hSB0 ?_; rotate_left; focus (go_simp; try with_reducible rfl))
              simp only [Act.put, List.setIfInBounds_toArray, List.set_cons_zero, List.set_cons_succ]
              (refine wpAnyH_take (i := 7) (oi := ⟨some 60, .slice 28 (.tmp 54) (Option.some (.tmp 56)) (Option.some (.tmp 59)) Option.none, 28, "chainlog.go:96", #[⟨1, .data⟩, ⟨3, .data⟩, ⟨6, .data⟩], none⟩) (v := ?_) rfl (by kernel_rfl) (by kernel_rfl) (by kernel_rfl) (fun _ _ _ h => h) (Or.inl ⟨by rfl, fun w' hSw => ?_⟩) hSB0 ?_; rotate_left; focus (go_simp; try with_reducible rfl))
              simp only [Act.put, List.setIfInBounds_toArray, List.set_cons_zero, List.set_cons_succ]
              refine wpAnyH_ready (rs := [8]) (by kernel_rfl) (by simp) ?_
              refine AllReadyH.cons rfl (fun K hK => ?_) AllReadyH.nil
              go_simp
              go_simp
              go_wp2_with (go_at_call 131; refine (BytesEqual_any w8d (some ⟨ph, 0, none⟩) A6 32 32 32 (c - (5 + N)) S ((b.drop (5 + N)).take 32) (by have h9 := (KI.out.under hSB0).bys HSB.out 0 32 (by rw [HSL.out]; decide); rwa [List.drop_zero, List.take_of_length_le (by rw [HSL.out]; decide)] at h9) (Y6.out.below (Below.then_ B48.out hSB0))).mono ?_; rintro e wx ⟨rfl, rfl⟩)
              refine hK.out _ _ (hSB0) (fun hSB1 => ?_)
              clear hK K
              (refine wpAnyH_take (i := 9) (oi := ⟨some 62, .unOp .not 4 (.tmp 61), 4, "chainlog.go:96", #[⟨8, .data⟩], none⟩) (v := ?_) rfl (by kernel_rfl) (by kernel_rfl) (by kernel_rfl) (fun _ _ _ h => h) (Or.inl ⟨by rfl, fun w' hSw => ?_⟩) hSB1 ?_; rotate_left; focus (go_simp; try with_reducible rfl))
              simp only [Act.put, List.setIfInBounds_toArray, List.set_cons_zero, List.set_cons_succ]
              refine wpAnyH_done (by kernel_rfl) ?_ _
              obtain ⟨w9, hw9⟩ : ∃ z, z = w8d := ⟨_, rfl⟩
              have B89 := hide (show Below w8.heap.size w8 w9 by rw [hw9]; exact hSB1)
              rw [← hw9]
              clear hw9
              have hx9 := HX9.out
              by_cases he : S = (b.drop (5 + N)).take 32
              · rw [if_neg (by simpa using he)] at hx9
                have HX := hide hx9
                rw [decide_eq_true he]
                clear hx9 he
                go_wp2_with fail
                refine wp_region_held_drew (S := fun w' => w'.rangeAt ph 0 (bcs S)) (by kernel_rfl) (range_under (KI.out.under B89.out).whole (Below.refl _ w9).drew) (fun hSC0 => ?_)
                obtain ⟨w9d, hwC⟩ : ∃ x, x = w9.drew := ⟨_, rfl⟩
                have Bd := hide (show Below w9.heap.size w9 w9d by rw [hwC]; exact (Below.refl _ w9).drew)
                rw [← hwC] at hSC0 ⊢
                clear hwC
                (refine wpAnyH_take (i := 0) (oi := ⟨some 64, .move (.tmp 0), 28, "chainlog.go:99", #[], none⟩) (v := ?_) rfl (by kernel_rfl) (by kernel_rfl) (by kernel_rfl) (fun _ _ _ h => h) (Or.inl ⟨by rfl, fun w' hSw => ?_⟩) hSC0 ?_; rotate_left; focus (go_simp; try with_reducible rfl))
                simp only [Act.put, List.setIfInBounds_toArray, List.set_cons_zero, List.set_cons_succ]
                (refine wpAnyH_take (i := 1) (oi := ⟨some 65, .move (.tmp 10), 3, "chainlog.go:99", #[], none⟩) (v := ?_) rfl (by kernel_rfl) (by kernel_rfl) (by kernel_rfl) (fun _ _ _ h => h) (Or.inl ⟨by rfl, fun w' hSw => ?_⟩) hSC0 ?_; rotate_left; focus (go_simp; try with_reducible rfl))
                simp only [Act.put, List.setIfInBounds_toArray, List.set_cons_zero, List.set_cons_succ]
                (refine wpAnyH_take (i := 2) (oi := ⟨some 66, .binOp .add 3 (.const (.int .i64 5)) (.tmp 65) 3, 3, "chainlog.go:99", #[⟨1, .data⟩], none⟩) (v := ?_) rfl (by kernel_rfl) (by kernel_rfl) (by kernel_rfl) (fun _ _ _ h => h) (Or.inl ⟨by rfl, fun w' hSw => ?_⟩) hSC0 ?_; rotate_left; focus (go_simp; try with_reducible rfl))
                simp only [Act.put, List.setIfInBounds_toArray, List.set_cons_zero, List.set_cons_succ]
                (refine wpAnyH_take (i := 3) (oi := ⟨some 67, .slice 28 (.tmp 64) (Option.some (.const (.int .i64 5))) (Option.some (.tmp 66)) Option.none, 28, "chainlog.go:99", #[⟨0, .data⟩, ⟨2, .data⟩], none⟩) (v := ?_) rfl (by kernel_rfl) (by kernel_rfl) (by kernel_rfl) (fun _ _ _ h => h) (Or.inl ⟨by rfl, fun w' hSw => ?_⟩) hSC0 ?_; rotate_left; focus (go_simp; try with_reducible rfl))
                simp only [Act.put, List.setIfInBounds_toArray, List.set_cons_zero, List.set_cons_succ]
                (refine wpAnyH_take (i := 5) (oi := ⟨some 69, .load 80 (.tmp 12), 80, "chainlog.go:99", #[⟨6, .gcOnly .lateStores⟩], none⟩) (v := ?_) rfl (by kernel_rfl) (by kernel_rfl) (by kernel_rfl) (fun _ _ _ h => h) (Or.inl ⟨by rfl, fun w' hSw => ?_⟩) hSC0 ?_; rotate_left; focus (have z1 := loadH_run w' ph 0 S hSw HSL.out; go_simp; try with_reducible rfl))
                simp only [Act.put, List.setIfInBounds_toArray, List.set_cons_zero, List.set_cons_succ]
                refine wpAnyH_ready (rs := [4]) (by kernel_rfl) (by simp) ?_
                refine AllReadyH.cons rfl (fun K hK => ?_) AllReadyH.nil
                go_simp
                go_simp
                go_wp2_with (go_at_call 81; refine (clone_any w9 w9d A8 N (c - 5) ((b.drop 5).take N) Bd.out (Y8.out.below (Below.then_ B48.out (Below.then_ B89.out Bd.out))) (by have := HLEN.out; have := HN.out; omega)).mono ?_; rintro e wc hcl; obtain ⟨A9, n9, c9, rfl, m9, f9⟩ := hcl.fresh)
                have B19 := hide (Below.then_ B14.out (Below.then_ B48.out B89.out))
                have M9 := hide (m9.older B19.out)
                have F9 := hide (f9.older B19.out)
                have hr9 := range_under (KI.out.under B89.out).whole m9.below
                clear hcl m9 f9
                refine hK.out _ _ (hr9) (fun hSC1 => ?_)
                clear hK K
                (refine wpAnyH_take (i := 6) (oi := ⟨some 6, .assign (.tmp 68), 28, "chainlog.go:99", #[⟨4, .data⟩, ⟨4, .chain⟩, ⟨0, .phase⟩, ⟨1, .phase⟩, ⟨2, .phase⟩, ⟨3, .phase⟩, ⟨4, .phase⟩, { on := 5, ground := Go.Ground.textOnly Go.Departure.lateStores }], none⟩) (v := ?_) rfl (by kernel_rfl) (by kernel_rfl) (by kernel_rfl) (fun _ _ _ h => h) (Or.inl ⟨by rfl, fun w' hSw => ?_⟩) hSC1 ?_; rotate_left; focus (go_simp; try with_reducible rfl))
                simp only [Act.put, List.setIfInBounds_toArray, List.set_cons_zero, List.set_cons_succ]
                refine wpAnyH_ready (rs := [7]) (by kernel_rfl) (by simp) ?_
                refine AllReadyH.cons rfl (fun K hK => ?_) AllReadyH.nil
                refine step_storeB rfl 80 _ _ rfl (w.heap.size + 1) 0 80 (bcs zero32) (bcs S) (by rfl) (by rfl) (K1.out.under M9.out.below) (by rw [bcs_length, bcs_length, HSL.out]; decide) (by rw [bcs_length, HSL.out]; exact isH32) (bcs_one _) ?_
                intro wz oz zz bz
                rw [lay_all _ _ (by rw [bcs_length, bcs_length, HSL.out]; rfl)] at bz
                have hrz := range_only hSC1 oz (fun h => by have h9 : ph = w.heap.size + 1 := h; have := HPH.out; have := K4.out.lt; omega)
                have OZ := hide oz
                have BZ := hide bz
                clear oz zz bz
                simp only [Act.put]
                refine hK.out _ _ (hrz) (fun hSC2 => ?_)
                clear hK K
                (refine wpAnyH_take (i := 8) (oi := ⟨some 8, .assign (.const (.bool Bool.true)), 4, "chainlog.go:99", #[⟨7, .chain⟩, ⟨0, .phase⟩, ⟨1, .phase⟩, ⟨2, .phase⟩, ⟨3, .phase⟩, ⟨4, .phase⟩, ⟨5, .phase⟩, ⟨6, .phase⟩, ⟨7, .phase⟩], none⟩) (v := ?_) rfl (by kernel_rfl) (by kernel_rfl) (by kernel_rfl) (fun _ _ _ h => h) (Or.inl ⟨by rfl, fun w' hSw => ?_⟩) hSC2 ?_; rotate_left; focus (go_simp; try with_reducible rfl))
                simp only [Act.put, List.setIfInBounds_toArray]
                refine wpAnyH_done (by kernel_rfl) ?_ _
                clear hr9 hrz hSC0 hSC1 hSC2
                go_wp2_with fail
                have hm := M9.out.turn F9.out B1.out OZ.out (fun i hi => by have h9 : i = w.heap.size + 1 := hi; have := HSZ.out; omega)
                refine bodyPost_ret (results_tmp_cell_tmp_blk rfl _ _ (w.heap.size + 1) 80 _ _ (by rfl) BZ.out Try.underlying80 rfl (by rw [bcs_length, HSL.out]; exact isH32)) rfl (.inr ⟨_, _, A9, n9, c9, HX.out, rfl, hm, F9.out.older B1.out⟩)
              · rw [if_pos he] at hx9
                have HX := hide hx9
                rw [decide_eq_false he]
                clear hx9 he
                go_wp2_with (refine wpList_store_blk rfl 80 _ _ rfl (w.heap.size + 1) 0 80 (bcs zero32) (bcs zero32) (by rfl) (by rfl) ((K4.out.under B48.out).under B89.out) (Nat.le_refl _) isH32 (bcs_one _) ?_; intro w9 o9 z9 b9; rw [lay_all _ _ rfl] at b9; simp only [Act.put])
                refine bodyPost_ret (results_tmp_cell_tmp_blk rfl _ _ (w.heap.size + 1) 80 _ _ (by rfl) b9 Try.underlying80 rfl isH32) rfl (.inl ⟨HX.out, rfl, o9.under (Below.then_ B4.out (Below.then_ B48.out B89.out)) fun i hi => by have h9 : i = w.heap.size + 1 := hi; omega⟩)
          · refine step_allocA rfl 12 rfl 80 rfl (bcs zero32) zero32_info ?_
            obtain ⟨w4dh, hz⟩ : ∃ z, z = w4d.alloc (.cells (bcs zero32).toArray 80) := ⟨_, rfl⟩
            rw [← hz]
            obtain ⟨ph, hp⟩ : ∃ p, p = w4d.heap.size := ⟨_, rfl⟩
            rw [← hp]
            have b9 : Below w4d.heap.size w4d w4dh := by rw [hz]; exact below_alloc (Below.refl _ _) _
            have Sw4dh := hide (Below.then_ hSA0 b9)
            have Kw4dh := hide (show Blk w4dh ph 80 (bcs zero32) by rw [hz, hp]; exact Blk.new w4d _ _)
            have HPH := hide (show w4.heap.size ≤ ph by rw [hp]; exact (show Below w4.heap.size w4 w4d from hSA0).size)
            clear hz hp b9
            simp only [Act.put, List.setIfInBounds_toArray, List.set_cons_zero, List.set_cons_succ]
            refine hK.out _ _ (Sw4dh.out) (fun hSA1 => ?_)
            clear hK K
            refine wpAnyH_ready (rs := [5]) (by kernel_rfl) (by simp) ?_
            refine AllReadyH.cons rfl (fun K hK => ?_) AllReadyH.nil
            go_simp
            obtain ⟨w4dhr, hz⟩ : ∃ z, z = w4dh.alloc (.cells #[.slice (some ⟨w.heap.size, 0, none⟩) 32 32, .slice A5 (5 + N) c] 28) := ⟨_, rfl⟩
            rw [← hz]
            obtain ⟨pr, hp⟩ : ∃ p, p = w4dh.heap.size := ⟨_, rfl⟩
            rw [← hp]
            have b9 : Below w4dh.heap.size w4dh w4dhr := by rw [hz]; exact below_alloc (Below.refl _ _) _
            have Sw4dhr := hide (Below.then_ hSA1 b9)
            have Rw4dhr := hide (show Byss w4dhr (some ⟨pr, 0, none⟩) 2 [ahead, b.take (5 + N)] by rw [hz, hp]; exact Byss.two w4dh w4dh _ _ _ 32 (5 + N) 32 c _ _ (YA.out.below hSA1) (Y5.out.below hSA1) (Nat.le_refl _) (by have := HLEN.out; have := HC.out; omega) (Below.refl _ _))
            have Kw4dhr := hide (Kw4dh.out.under b9)
            clear hz hp b9
            refine hK.out _ _ (Sw4dhr.out) (fun hSA2 => ?_)
            clear hK K
            refine wpAnyH_ready (rs := [6]) (by kernel_rfl) (by simp) ?_
            refine AllReadyH.cons rfl (fun K hK => ?_) AllReadyH.nil
            go_simp
            go_simp
            go_wp2_with (go_at_call 132; refine (DSum_any w4dhr (some ⟨pr, 0, none⟩) 2 2 [ahead, b.take (5 + N)] Rw4dhr.out (by simp [HL.out]) (by simp only [List.flatten_cons, List.flatten_nil, List.append_nil, List.length_append, HL.out]; have := HTL.out; omega) (by decide)).mono ?_; rintro e w4dhrs ⟨rfl, b9⟩; rw [show [ahead, b.take (5 + N)].flatten = ahead ++ b.take (5 + N) by simp, ← HSE.out])
            have Sw4dhrs := hide (Below.then_ hSA2 b9)
            have Kw4dhrs := hide (Kw4dhr.out.under b9)
            clear b9
            refine hK.out _ _ (Sw4dhrs.out) (fun hSA3 => ?_)
            clear hK K
            refine wpAnyH_ready (rs := [8]) (by kernel_rfl) (by simp) ?_
            refine AllReadyH.cons rfl (fun K hK => ?_) AllReadyH.nil
            refine step_storeB rfl 80 _ _ rfl ph 0 80 (bcs zero32) (bcs S) (by rfl) (by rfl) Kw4dhrs.out (by rw [bcs_length, bcs_length, HSL.out]; decide) (by rw [bcs_length, HSL.out]; exact isH32) (bcs_one _) ?_
            intro w8 oz zz bz
            rw [lay_all _ _ (by rw [bcs_length, bcs_length, HSL.out]; rfl)] at bz
            have KI := hide bz
            have B48 := hide (oz.under (show Below w4.heap.size w4 w4dhrs from hSA3) fun i hi => by have h9 : i = ph := hi; have := HPH.out; omega)
            clear oz zz bz
            simp only [Act.put]
            refine hK.out _ _ (B48.out) (fun hSA4 => ?_)
            clear hK K
            refine wpAnyH_done (by kernel_rfl) ?_ _
            go_wp2_with fail
            refine wp_region_held_drew (S := fun w' => Below w8.heap.size w8 w') (by kernel_rfl) ((Below.refl _ w8).drew) (fun hSB0 => ?_)
            obtain ⟨w8d, hwB⟩ : ∃ x, x = w8.drew := ⟨_, rfl⟩
            rw [← hwB] at hSB0 ⊢
            clear hwB
            (refine wpAnyH_take (i := 0) (oi := ⟨some 53, .slice 80 (.tmp 12) Option.none Option.none Option.none, 28, "chainlog.go:96", #[], none⟩) (v := ?_) rfl (by kernel_rfl) (by kernel_rfl) (by kernel_rfl) (fun _ _ _ h => h) (Or.inl ⟨by rfl, fun w' hSw => ?_⟩) hSB0 ?_; rotate_left; focus (go_simp; try with_reducible rfl))
            simp only [Act.put, List.setIfInBounds_toArray, List.set_cons_zero, List.set_cons_succ]
            (refine wpAnyH_take (i := 1) (oi := ⟨some 54, .move (.tmp 0), 28, "chainlog.go:96", #[], none⟩) (v := ?_) rfl (by kernel_rfl) (by kernel_rfl) (by kernel_rfl) (fun _ _ _ h => h) (Or.inl ⟨by rfl, fun w' hSw => ?_⟩) hSB0 ?_; rotate_left; focus (go_simp; try with_reducible rfl))
            simp only [Act.put, List.setIfInBounds_toArray, List.set_cons_zero, List.set_cons_succ]
            (refine wpAnyH_take (i := 2) (oi := ⟨some 55, .move (.tmp 10), 3, "chainlog.go:96", #[], none⟩) (v := ?_) rfl (by kernel_rfl) (by kernel_rfl) (by kernel_rfl) (fun _ _ _ h => h) (Or.inl ⟨by rfl, fun w' hSw => ?_⟩) hSB0 ?_; rotate_left; focus (go_simp; try with_reducible rfl))
            simp only [Act.put, List.setIfInBounds_toArray, List.set_cons_zero, List.set_cons_succ]
            (refine wpAnyH_take (i := 3) (oi := ⟨some 56, .binOp .add 3 (.const (.int .i64 5)) (.tmp 55) 3, 3, "chainlog.go:96", #[⟨2, .data⟩], none⟩) (v := ?_) rfl (by kernel_rfl) (by kernel_rfl) (by kernel_rfl) (fun _ _ _ h => h) (Or.inl ⟨by rfl, fun w' hSw => ?_⟩) hSB0 ?_; rotate_left; focus (go_simp; try with_reducible rfl))
            simp only [Act.put, List.setIfInBounds_toArray, List.set_cons_zero, List.set_cons_succ]
            (refine wpAnyH_take (i := 4) (oi := ⟨some 57, .move (.tmp 10), 3, "chainlog.go:96", #[], none⟩) (v := ?_) rfl (by kernel_rfl) (by kernel_rfl) (by kernel_rfl) (fun _ _ _ h => h) (Or.inl ⟨by rfl, fun w' hSw => ?_⟩) hSB0 ?_; rotate_left; focus (go_simp; try with_reducible rfl))
            simp only [Act.put, List.setIfInBounds_toArray, List.set_cons_zero, List.set_cons_succ]
            (refine wpAnyH_take (i := 5) (oi := ⟨some 58, .binOp .add 3 (.const (.int .i64 5)) (.tmp 57) 3, 3, "chainlog.go:96", #[⟨4, .data⟩], none⟩) (v := ?_) rfl (by kernel_rfl) (by kernel_rfl) (by kernel_rfl) (fun _ _ _ h => h) (Or.inl ⟨by rfl, fun w' hSw => ?_⟩) hSB0 ?_; rotate_left; focus (go_simp; try with_reducible rfl))
            simp only [Act.put, List.setIfInBounds_toArray, List.set_cons_zero, List.set_cons_succ]
            (refine wpAnyH_take (i := 6) (oi := ⟨some 59, .binOp .add 3 (.tmp 58) (.const (.int .i64 32)) 3, 3, "chainlog.go:96", #[⟨5, .data⟩], none⟩) (v := ?_) rfl (by kernel_rfl) (by kernel_rfl) (by kernel_rfl) (fun _ _ _ h => h) (Or.inl ⟨by rfl, fun w' hSw => ?_⟩) hSB0 ?_; rotate_left; focus (go_simp; try with_reducible rfl))
            simp only [Act.put, List.setIfInBounds_toArray, List.set_cons_zero, List.set_cons_succ]
            (refine wpAnyH_take (i := 7) (oi := ⟨some 60, .slice 28 (.tmp 54) (Option.some (.tmp 56)) (Option.some (.tmp 59)) Option.none, 28, "chainlog.go:96", #[⟨1, .data⟩, ⟨3, .data⟩, ⟨6, .data⟩], none⟩) (v := ?_) rfl (by kernel_rfl) (by kernel_rfl) (by kernel_rfl) (fun _ _ _ h => h) (Or.inl ⟨by rfl, fun w' hSw => ?_⟩) hSB0 ?_; rotate_left; focus (go_simp; try with_reducible rfl))
            simp only [Act.put, List.setIfInBounds_toArray, List.set_cons_zero, List.set_cons_succ]
            refine wpAnyH_ready (rs := [8]) (by kernel_rfl) (by simp) ?_
            refine AllReadyH.cons rfl (fun K hK => ?_) AllReadyH.nil
            go_simp
            go_simp
            go_wp2_with (go_at_call 131; refine (BytesEqual_any w8d (some ⟨ph, 0, none⟩) A6 32 32 32 (c - (5 + N)) S ((b.drop (5 + N)).take 32) (by have h9 := (KI.out.under hSB0).bys HSB.out 0 32 (by rw [HSL.out]; decide); rwa [List.drop_zero, List.take_of_length_le (by rw [HSL.out]; decide)] at h9) (Y6.out.below (Below.then_ B48.out hSB0))).mono ?_; rintro e wx ⟨rfl, rfl⟩)
            refine hK.out _ _ (hSB0) (fun hSB1 => ?_)
            clear hK K
            (refine wpAnyH_take (i := 9) (oi := ⟨some 62, .unOp .not 4 (.tmp 61), 4, "chainlog.go:96", #[⟨8, .data⟩], none⟩) (v := ?_) rfl (by kernel_rfl) (by kernel_rfl) (by kernel_rfl) (fun _ _ _ h => h) (Or.inl ⟨by rfl, fun w' hSw => ?_⟩) hSB1 ?_; rotate_left; focus (go_simp; try with_reducible rfl))
            simp only [Act.put, List.setIfInBounds_toArray, List.set_cons_zero, List.set_cons_succ]
            refine wpAnyH_done (by kernel_rfl) ?_ _
            obtain ⟨w9, hw9⟩ : ∃ z, z = w8d := ⟨_, rfl⟩
            have B89 := hide (show Below w8.heap.size w8 w9 by rw [hw9]; exact hSB1)
            rw [← hw9]
            clear hw9
            have hx9 := HX9.out
            by_cases he : S = (b.drop (5 + N)).take 32
            · rw [if_neg (by simpa using he)] at hx9
              have HX := hide hx9
              rw [decide_eq_true he]
              clear hx9 he
              go_wp2_with fail
              refine wp_region_held_drew (S := fun w' => w'.rangeAt ph 0 (bcs S)) (by kernel_rfl) (range_under (KI.out.under B89.out).whole (Below.refl _ w9).drew) (fun hSC0 => ?_)
              obtain ⟨w9d, hwC⟩ : ∃ x, x = w9.drew := ⟨_, rfl⟩
              have Bd := hide (show Below w9.heap.size w9 w9d by rw [hwC]; exact (Below.refl _ w9).drew)
              rw [← hwC] at hSC0 ⊢
              clear hwC
              (refine wpAnyH_take (i := 0) (oi := ⟨some 64, .move (.tmp 0), 28, "chainlog.go:99", #[], none⟩) (v := ?_) rfl (by kernel_rfl) (by kernel_rfl) (by kernel_rfl) (fun _ _ _ h => h) (Or.inl ⟨by rfl, fun w' hSw => ?_⟩) hSC0 ?_; rotate_left; focus (go_simp; try with_reducible rfl))
              simp only [Act.put, List.setIfInBounds_toArray, List.set_cons_zero, List.set_cons_succ]
              (refine wpAnyH_take (i := 1) (oi := ⟨some 65, .move (.tmp 10), 3, "chainlog.go:99", #[], none⟩) (v := ?_) rfl (by kernel_rfl) (by kernel_rfl) (by kernel_rfl) (fun _ _ _ h => h) (Or.inl ⟨by rfl, fun w' hSw => ?_⟩) hSC0 ?_; rotate_left; focus (go_simp; try with_reducible rfl))
              simp only [Act.put, List.setIfInBounds_toArray, List.set_cons_zero, List.set_cons_succ]
              (refine wpAnyH_take (i := 2) (oi := ⟨some 66, .binOp .add 3 (.const (.int .i64 5)) (.tmp 65) 3, 3, "chainlog.go:99", #[⟨1, .data⟩], none⟩) (v := ?_) rfl (by kernel_rfl) (by kernel_rfl) (by kernel_rfl) (fun _ _ _ h => h) (Or.inl ⟨by rfl, fun w' hSw => ?_⟩) hSC0 ?_; rotate_left; focus (go_simp; try with_reducible rfl))
              simp only [Act.put, List.setIfInBounds_toArray, List.set_cons_zero, List.set_cons_succ]
              (refine wpAnyH_take (i := 3) (oi := ⟨some 67, .slice 28 (.tmp 64) (Option.some (.const (.int .i64 5))) (Option.some (.tmp 66)) Option.none, 28, "chainlog.go:99", #[⟨0, .data⟩, ⟨2, .data⟩], none⟩) (v := ?_) rfl (by kernel_rfl) (by kernel_rfl) (by kernel_rfl) (fun _ _ _ h => h) (Or.inl ⟨by rfl, fun w' hSw => ?_⟩) hSC0 ?_; rotate_left; focus (go_simp; try with_reducible rfl))
              simp only [Act.put, List.setIfInBounds_toArray, List.set_cons_zero, List.set_cons_succ]
              (refine wpAnyH_take (i := 5) (oi := ⟨some 69, .load 80 (.tmp 12), 80, "chainlog.go:99", #[⟨6, .gcOnly .lateStores⟩], none⟩) (v := ?_) rfl (by kernel_rfl) (by kernel_rfl) (by kernel_rfl) (fun _ _ _ h => h) (Or.inl ⟨by rfl, fun w' hSw => ?_⟩) hSC0 ?_; rotate_left; focus (have z1 := loadH_run w' ph 0 S hSw HSL.out; go_simp; try with_reducible rfl))
              simp only [Act.put, List.setIfInBounds_toArray, List.set_cons_zero, List.set_cons_succ]
              refine wpAnyH_ready (rs := [4]) (by kernel_rfl) (by simp) ?_
              refine AllReadyH.cons rfl (fun K hK => ?_) AllReadyH.nil
              go_simp
              go_simp
              go_wp2_with (go_at_call 81; refine (clone_any w9 w9d A8 N (c - 5) ((b.drop 5).take N) Bd.out (Y8.out.below (Below.then_ B48.out (Below.then_ B89.out Bd.out))) (by have := HLEN.out; have := HN.out; omega)).mono ?_; rintro e wc hcl; obtain ⟨A9, n9, c9, rfl, m9, f9⟩ := hcl.fresh)
              have B19 := hide (Below.then_ B14.out (Below.then_ B48.out B89.out))
              have M9 := hide (m9.older B19.out)
              have F9 := hide (f9.older B19.out)
              have hr9 := range_under (KI.out.under B89.out).whole m9.below
              clear hcl m9 f9
              refine hK.out _ _ (hr9) (fun hSC1 => ?_)
              clear hK K
              (refine wpAnyH_take (i := 6) (oi := ⟨some 6, .assign (.tmp 68), 28, "chainlog.go:99", #[⟨4, .data⟩, ⟨4, .chain⟩, ⟨0, .phase⟩, ⟨1, .phase⟩, ⟨2, .phase⟩, ⟨3, .phase⟩, ⟨4, .phase⟩, { on := 5, ground := Go.Ground.textOnly Go.Departure.lateStores }], none⟩) (v := ?_) rfl (by kernel_rfl) (by kernel_rfl) (by kernel_rfl) (fun _ _ _ h => h) (Or.inl ⟨by rfl, fun w' hSw => ?_⟩) hSC1 ?_; rotate_left; focus (go_simp; try with_reducible rfl))
              simp only [Act.put, List.setIfInBounds_toArray, List.set_cons_zero, List.set_cons_succ]
              refine wpAnyH_ready (rs := [7]) (by kernel_rfl) (by simp) ?_
              refine AllReadyH.cons rfl (fun K hK => ?_) AllReadyH.nil
              refine step_storeB rfl 80 _ _ rfl (w.heap.size + 1) 0 80 (bcs zero32) (bcs S) (by rfl) (by rfl) (K1.out.under M9.out.below) (by rw [bcs_length, bcs_length, HSL.out]; decide) (by rw [bcs_length, HSL.out]; exact isH32) (bcs_one _) ?_
              intro wz oz zz bz
              rw [lay_all _ _ (by rw [bcs_length, bcs_length, HSL.out]; rfl)] at bz
              have hrz := range_only hSC1 oz (fun h => by have h9 : ph = w.heap.size + 1 := h; have := HPH.out; have := K4.out.lt; omega)
              have OZ := hide oz
              have BZ := hide bz
              clear oz zz bz
              simp only [Act.put]
              refine hK.out _ _ (hrz) (fun hSC2 => ?_)
              clear hK K
              (refine wpAnyH_take (i := 8) (oi := ⟨some 8, .assign (.const (.bool Bool.true)), 4, "chainlog.go:99", #[⟨7, .chain⟩, ⟨0, .phase⟩, ⟨1, .phase⟩, ⟨2, .phase⟩, ⟨3, .phase⟩, ⟨4, .phase⟩, ⟨5, .phase⟩, ⟨6, .phase⟩, ⟨7, .phase⟩], none⟩) (v := ?_) rfl (by kernel_rfl) (by kernel_rfl) (by kernel_rfl) (fun _ _ _ h => h) (Or.inl ⟨by rfl, fun w' hSw => ?_⟩) hSC2 ?_; rotate_left; focus (go_simp; try with_reducible rfl))
              simp only [Act.put, List.setIfInBounds_toArray]
              refine wpAnyH_done (by kernel_rfl) ?_ _
              clear hr9 hrz hSC0 hSC1 hSC2
              go_wp2_with fail
              have hm := M9.out.turn F9.out B1.out OZ.out (fun i hi => by have h9 : i = w.heap.size + 1 := hi; have := HSZ.out; omega)
              refine bodyPost_ret (results_tmp_cell_tmp_blk rfl _ _ (w.heap.size + 1) 80 _ _ (by rfl) BZ.out Try.underlying80 rfl (by rw [bcs_length, HSL.out]; exact isH32)) rfl (.inr ⟨_, _, A9, n9, c9, HX.out, rfl, hm, F9.out.older B1.out⟩)
            · rw [if_pos he] at hx9
              have HX := hide hx9
              rw [decide_eq_false he]
              clear hx9 he
              go_wp2_with (refine wpList_store_blk rfl 80 _ _ rfl (w.heap.size + 1) 0 80 (bcs zero32) (bcs zero32) (by rfl) (by rfl) ((K4.out.under B48.out).under B89.out) (Nat.le_refl _) isH32 (bcs_one _) ?_; intro w9 o9 z9 b9; rw [lay_all _ _ rfl] at b9; simp only [Act.put])
              refine bodyPost_ret (results_tmp_cell_tmp_blk rfl _ _ (w.heap.size + 1) 80 _ _ (by rfl) b9 Try.underlying80 rfl isH32) rfl (.inl ⟨HX.out, rfl, o9.under (Below.then_ B4.out (Below.then_ B48.out B89.out)) fun i hi => by have h9 : i = w.heap.size + 1 := hi; omega⟩)
      · have HX := hide (show nextR b kind ahead = none by rw [HNR.out, if_pos (.inr (.inl hkd))])
        have hkn : ((X : Int) == kind) = false := by simpa using hkd
        clear HNR
        go_wp2_with (refine wpList_store_blk rfl 80 _ _ rfl (w.heap.size + 1) 0 80 (bcs zero32) (bcs zero32) (by rfl) (by rfl) (K4.out) (Nat.le_refl _) isH32 (bcs_one _) ?_; intro w9 o9 z9 b9; rw [lay_all _ _ rfl] at b9; simp only [Act.put])
        refine bodyPost_ret (results_tmp_cell_tmp_blk rfl _ _ (w.heap.size + 1) 80 _ _ (by rfl) b9 Try.underlying80 rfl isH32) rfl (.inl ⟨HX.out, rfl, o9.under (B4.out) fun i hi => by have h9 : i = w.heap.size + 1 := hi; omega⟩)
end Go.Proofs.Ytjnpkcabkccaoaa
/-
  chainlog: rows of bytes of one's own; the bodies that stand at the beginning.
-/
namespace Go.Proofs.Ytjnpkcabkccaoaa
open Go.RowKit

/-! ### Plain -/
theorem nextR_fits {b : List Int} {k : Int} {a body s : List Int} (h : nextR b k a = some (body, s)) : body.length + 37 ≤ b.length ∧ body.length ≤ 100000 ∧ s.length = 32 ∧ Byt s := by
  unfold nextR at h
  split at h
  · cases h
  · split at h
    · cases h
    · rename_i h1 h2
      split at h
      · cases h
      · injection h with h
        injection h with h3 h4
        rw [← h3, ← h4]
        rw [List.length_take, List.length_drop]
        have h5 : ¬ b.length < 37 + num (b.take 4) := fun h => h2 (.inr (.inr h))
        have h6 : ¬ 100000 < num (b.take 4) := fun h => h2 (.inl h)
        exact ⟨by omega, by omega, sha_len _, sha_byt _⟩
theorem slabs_fit {n l m : Nat} (h : l + 37 ≤ n) (hl : l ≤ 100000) (hm : n = 120 * m) : slabsN (l : Int) * 120 ≤ n ∧ 1 ≤ slabsN (l : Int) ∧ slabsN (l : Int) ≤ 1000 := by
  rw [slabsN_nat _ hl]; omega
theorem bodies_more : ∀ (k m : Nat) (b : List Int) (kd : Int) (s : List Int), b.length < k → b.length < m → bodies k b kd s = bodies m b kd s
  | 0, _, _, _, _, h, _ => absurd h (by omega)
  | _ + 1, 0, _, _, _, _, h => absurd h (by omega)
  | k + 1, m + 1, b, kd, s, h1, h2 => by
    rw [bodies, bodies]
    by_cases hb : b = []
    · rw [if_pos hb, if_pos hb]
    · rw [if_neg hb, if_neg hb]
      have hl := List.length_pos_iff.2 hb
      cases hn : nextR b kd s with
      | none => rfl
      | some x =>
        obtain ⟨body, t⟩ := x
        have h3 := nextR_fits hn
        have h4 : 1 ≤ slabsN (body.length : Int) := by rw [slabsN_nat _ h3.2.1]; omega
        simp only
        rw [bodies_more k m _ 2 t (by rw [List.length_drop]; omega) (by rw [List.length_drop]; omega)]
/-- What is told from here on. -/
def tell (b : List Int) (kd : Int) (s : List Int) : List (List Int) := bodies (b.length + 1) b kd s
theorem tell_nil (kd : Int) (s : List Int) : tell [] kd s = [] := rfl
theorem tell_none {b : List Int} {kd : Int} {s : List Int} (h : nextR b kd s = none) : tell b kd s = [] := by
  rw [tell, bodies, h]; simp
theorem tell_some {b : List Int} {kd : Int} {s body t : List Int} (h : nextR b kd s = some (body, t)) : tell b kd s = body :: tell (b.drop (slabsN (body.length : Int) * 120)) 2 t := by
  have h3 := nextR_fits h
  have h4 : 1 ≤ slabsN (body.length : Int) := by rw [slabsN_nat _ h3.2.1]; omega
  have hb : b ≠ [] := by rintro rfl; simp at h3
  rw [tell, bodies, if_neg hb, h]
  simp only
  rw [bodies_more b.length _ _ 2 t (by rw [List.length_drop]; omega) (Nat.lt_succ_self _)]
  rfl
/-! ### Rows -/
structure BV where
  A : Option Addr
  n : Nat
  c : Nat
  bs : List Int
def BV.val (v : BV) : Value := .slice v.A v.n v.c
def BV.cells (v : BV) : List Value := [v.val]
structure BV.Fine (w : World) (v : BV) : Prop where
  bys : Bys w v.A v.n v.bs
  cap : v.n ≤ v.c
def KeepV (w : World) (v : BV) (F : Nat → Prop) : Prop := ∀ w', Only F w w' → v.Fine w'
theorem KeepV.fine {w : World} {v : BV} {F : Nat → Prop} (h : KeepV w v F) : v.Fine w := h w (Only.refl _ _)
theorem KeepV.step {w w' : World} {v : BV} {F F' : Nat → Prop} (h : KeepV w v F) (ho : Only F w w') (hF : ∀ i, i < w.heap.size → F' i → F i) : KeepV w' v F' := fun w'' h2 => h w'' (ho.trans h2 hF)
theorem KeepV.of_new {w0 w : World} {v : BV} (h : v.Fine w) (hf : Fr w0 v.A) {F : Nat → Prop} (hF : ∀ i, F i → i < w0.heap.size) : KeepV w v F := fun w' ho => ⟨h.bys.keep ho fun _ ad e hf9 => by have h1 := hf ad e; have h2 := hF _ hf9; omega, h.cap⟩
/-- A row of bytes of one's own: it, and they, are of no memory ahead of base. -/
structure SRow (base : Nat) (w : World) (A : Option Addr) (n c : Nat) (xs : List BV) : Prop where
  len : xs.length = n
  cap : n ≤ c
  low : base ≤ w.heap.size
  row : w.ownsRow base 28 1 (.slice A n c) n (xs.flatMap BV.cells)
  keep : ∀ x ∈ xs, KeepV w x (fun i => i < base ∨ (Value.slice A n c).ownBlock = some i)
namespace SRow
variable {base : Nat} {w w' : World} {A : Option Addr} {n c : Nat} {xs : List BV}
theorem nil (h : base ≤ w.heap.size) : SRow base w none 0 0 [] := ⟨rfl, Nat.le_refl _, h, World.ownsRow_nil _ _ _ _, by simp⟩
theorem step (h : SRow base w A n c xs) {F : Nat → Prop} (ho : Only F w w') (hF : ∀ i, i < w.heap.size → F i → i < base) : SRow base w' A n c xs :=
  ⟨h.len, h.cap, Nat.le_trans h.low ho.size, ho.own h.row (fun g hg hf => by have := hF g (h.row.lt g hg).2 hf; have := (h.row.lt g hg).1; omega), fun x hx => (h.keep x hx).step (ho.mono fun i hi hf => .inl (hF i hi hf)) fun _ _ h => h⟩
theorem under (h : SRow base w A n c xs) (hb : Below w.heap.size w w') : SRow base w' A n c xs := h.step (Only.of_below hb fun _ => False) fun _ _ h => h.elim
theorem fine (h : SRow base w A n c xs) : ∀ x ∈ xs, x.Fine w := fun x hx => (h.keep x hx).fine
theorem in_ (h : SRow base w A n c xs) : RowsIn BV.cells 1 BV.Fine w A n xs := rowsOf h.len (fun _ _ => rfl) h.row h.fine
theorem lower (h : SRow base w A n c xs) {lo : Nat} (hl : lo ≤ base) : SRow lo w A n c xs := by
  refine ⟨h.len, h.cap, Nat.le_trans hl h.low, ⟨h.row.1, ?_⟩, fun x hx => (h.keep x hx).step (Only.refl _ _) fun i _ hf => hf.imp (fun h => by omega) id⟩
  rcases h.row.2 with h1 | ⟨g, cap, cur, h1, h2, h3⟩
  · exact .inl h1
  · exact .inr ⟨g, cap, cur, h1, Nat.le_trans hl h2, h3⟩
theorem byss (h : SRow base w A n c xs) : Byss w A n (xs.map BV.bs) := by
  refine ⟨by rw [List.length_map]; exact h.len, fun hn => ?_⟩
  obtain ⟨b, off, hA, hr⟩ := h.in_.2.2 hn
  refine ⟨b, off, hA, fun j bs hj => ?_⟩
  rw [List.getElem?_map] at hj
  obtain ⟨v, hv, rfl⟩ := Option.map_eq_some_iff.1 hj
  have h1 := hr j v hv 0 v.val rfl
  have hf := h.fine v (List.mem_of_getElem? hv)
  exact ⟨v.A, v.n, v.c, by simpa [BV.val] using h1, hf.bys, hf.cap⟩
theorem app (h : SRow base w A n c xs) {V : BV} (hV : KeepV w V (fun i => i < base ∨ (Value.slice A n c).ownBlock = some i)) {A' : Option Addr} {c' : Nat}
    (q1 : w'.ownsRow base 28 1 (.slice A' (n + 1) c') (n + 1) (xs.flatMap BV.cells ++ V.cells)) (q2 : n + 1 ≤ c')
    (q3 : ∀ g, (Value.slice A' (n + 1) c').ownBlock = some g → (Value.slice A n c).ownBlock = some g ∨ w.heap.size ≤ g) (q4 : Only (fun i => (Value.slice A n c).ownBlock = some i) w w') : SRow base w' A' (n + 1) c' (xs ++ [V]) := by
  have hk : ∀ x, KeepV w x (fun i => i < base ∨ (Value.slice A n c).ownBlock = some i) → KeepV w' x (fun i => i < base ∨ (Value.slice A' (n + 1) c').ownBlock = some i) := fun x hx =>
    hx.step (q4.mono fun _ _ h => .inr h) fun i hi hf => by
      rcases hf with hf | hf
      · exact .inl hf
      · rcases q3 i hf with h1 | h1
        · exact .inr h1
        · omega
  refine ⟨by rw [List.length_append, h.len]; rfl, q2, Nat.le_trans h.low q4.size, by rw [List.flatMap_append]; simpa using q1, fun x hx => ?_⟩
  rcases List.mem_append.1 hx with hx | hx
  · exact hk x (h.keep x hx)
  · rw [List.mem_singleton.1 hx]; exact hk V hV
end SRow
theorem byts_infoR : (Try.prog.info? 28).map (fun i => (i.size, i.bytes, i.zero.map (fun z => z.cells.size))) = some (1, 24, some 1) := by kernel_rfl
end Go.Proofs.Ytjnpkcabkccaoaa
/-
  chainlog: what stands in a half.
-/
namespace Go.Proofs.Ytjnpkcabkccaoaa
open Go.RowKit

def StandsPost (w : World) (g : Nat × List (List Int)) (e : Ending) (w' : World) : Prop :=
  ∃ (A : Option Addr) (n c : Nat) (vs : List BV), e = .returned (.tuple #[.int .u64 (g.1 : Int), .slice A n c]) ∧ SRow w.heap.size w' A n c vs ∧ vs.map BV.bs = g.2 ∧ Below w.heap.size w w' ∧ n ≤ 300000
theorem stands_eq (d : Dev) (half : Nat) : stands d half = if (header d half).1 = 0 then (0, []) else ((header d half).1, tell (area d half (header d half).1) 1 (header d half).2) := rfl
theorem header_len (d : Dev) (half : Nat) : (header d half).2.length = 32 ∧ Byt (header d half).2 := by
  have hz : nil32.length = 32 ∧ Byt nil32 := ⟨rfl, fun x hx => by have := List.eq_of_mem_replicate hx; omega⟩
  unfold header
  split
  · exact hz
  · split
    · exact hz
    · exact ⟨sha_len _, sha_byt _⟩
theorem header_lt {d : Dev} (half : Nat) : (header d half).1 < 18446744073709551616 := by
  unfold header
  split
  · show 0 < _; decide
  · split
    · show 0 < _; decide
    · rename_i h
      have h9 : ¬ mostGen < marked (d.slab (half * d.room)) := fun e => h (.inr (.inl e))
      unfold mostGen at h9
      show marked _ < _
      omega
def lenOfV : Value → Nat
  | .slice _ n _ => n
  | _ => 0
attribute [local go_sem ↓] loadH_fold
set_option maxHeartbeats 4000000 in
set_option maxRecDepth 100000 in
theorem stands_any (w : World) (b : Nat) (F : Nat → Prop) (d : Dev) (half : Nat) (hh : half ≤ 1) (h : DevRep w b F d) (hb : d.Bytes) :
    Calls Try.prog 111 #[.pointer (some ⟨b, 0, none⟩), .int .i64 (half : Int)] w (StandsPost w (stands d half)) := by
  have HG := hide h.good
  have HB := hide hb
  have D0 := hide h
  have HH := hide hh
  have h0 : (0 : Int) ≤ (half : Int) := by omega
  have h1 : (half : Int) ≤ 1 := by omega
  clear h hb hh
  go_enter Try.func111, Try.ntmps111
  go_wp2_with fail
  refine (header_any w b F d half HH.out D0.out HB.out).mono ?_
  rintro e w1 ⟨rfl, b1⟩
  obtain ⟨G, hG⟩ : ∃ G, G = (header d half).1 := ⟨_, rfl⟩
  obtain ⟨S0, hS0⟩ : ∃ S, S = (header d half).2 := ⟨_, rfl⟩
  have HE := stands_eq d half
  rw [← hG, ← hS0] at HE
  rw [← hG, ← hS0]
  have HS0 := hide (show S0.length = 32 ∧ Byt S0 by rw [hS0]; exact header_len d half)
  have HG9 := hide (show G < 18446744073709551616 by rw [hG]; exact header_lt half)
  obtain ⟨AR, hAR⟩ : ∃ L, L = area d half G := ⟨_, rfl⟩
  rw [← hAR] at HE
  have HEE := hide HE
  have HAR := hide hAR
  have HAL := hide (show ∃ m, m ≤ 2048 ∧ AR.length = 120 * m by
    obtain ⟨m, h1, h2⟩ := area_len HG.out half G
    have := HG.out.few
    exact ⟨m, by unfold Dev.room at h1; omega, by rw [hAR]; exact h2⟩)
  have B1 := hide b1
  have D1 := hide (D0.out.under b1)
  have K1 := hide (Blk.new w1 80 (bcs zero32))
  clear HE hG hS0 hAR b1
  by_cases hG0 : G = 0
  · have HZ := hide (show stands d half = (0, []) by rw [HEE.out, if_pos hG0])
    subst hG0
    go_wp2_with (first
      | (refine wpList_alloc_agg rfl 80 rfl (bcs zero32) zero32_info ?_; simp only [Act.put, List.setIfInBounds_toArray, List.set_cons_zero, List.set_cons_succ])
      | (refine wpList_store_blk rfl 80 _ _ rfl w1.heap.size 0 80 (bcs zero32) (bcs S0) (by rfl) (by rfl) K1.out (by rw [bcs_length, bcs_length, HS0.out.1]; decide) (by rw [bcs_length, HS0.out.1]; exact isH32) (bcs_one _) ?_; intro w2 o9 z9 b9; rw [lay_all _ _ (by rw [bcs_length, bcs_length, HS0.out.1]; rfl)] at b9; simp only [Act.put]; have K2 := hide b9; have B12 := hide (show Below w1.heap.size w1 w2 from Below.trans ((Below.refl _ w1).alloc (Nat.le_refl _) _) (o9.below (by simp) (fun i hi e => by have h9 : i = w1.heap.size := e; omega))); clear b9 o9 z9))
    go_ret2
    exact ⟨none, 0, 0, [], by rw [HZ.out]; rfl, SRow.nil (Below.then_ B1.out B12.out).size, by rw [HZ.out]; rfl, Below.then_ B1.out B12.out, by omega⟩
  · have HZ := hide (show stands d half = (G, tell AR 1 S0) by rw [HEE.out, if_neg hG0])
    have g1 : ((G : Int) == 0) = false := by simp; omega
    clear HEE
    go_wp2_with (first
      | (refine wpList_alloc_agg rfl 80 rfl (bcs zero32) zero32_info ?_; simp only [Act.put, List.setIfInBounds_toArray, List.set_cons_zero, List.set_cons_succ])
      | (refine wpList_store_blk rfl 80 _ _ rfl w1.heap.size 0 80 (bcs zero32) (bcs S0) (by rfl) (by rfl) K1.out (by rw [bcs_length, bcs_length, HS0.out.1]; decide) (by rw [bcs_length, HS0.out.1]; exact isH32) (bcs_one _) ?_; intro w2 o9 z9 b9; rw [lay_all _ _ (by rw [bcs_length, bcs_length, HS0.out.1]; rfl)] at b9; simp only [Act.put]; have K2 := hide b9; have B12 := hide (show Below w1.heap.size w1 w2 from Below.trans ((Below.refl _ w1).alloc (Nat.le_refl _) _) (o9.below (by simp) (fun i hi e => by have h9 : i = w1.heap.size := e; omega))); clear b9 o9 z9))
    refine (area_any w2 b F d half G HH.out HG9.out (D1.out.under B12.out) HB.out).mono ?_
    rintro e w3 ⟨A3, n3, c3, rfl, m3, f3⟩
    rw [← HAR.out] at m3
    have K3 := hide (K2.out.under m3.below)
    have Y3 := hide m3.bys
    have C3 := hide m3.cap
    have N3 := hide m3.len
    have B23 := hide m3.below
    have F3 := hide f3
    have W12 := hide (show w1.heap.size < w2.heap.size from K2.out.lt)
    have B03 := hide (Below.then_ B1.out (Below.then_ B12.out B23.out))
    clear m3 f3
    go_wp2_with fail
    go_loopw [8, 9, 10] (fun ov kv bv ws => ∃ (A : Option Addr) (n c : Nat) (bb : List Int) (Ao : Option Addr) (no co : Nat) (vs : List BV) (kd : Int) (S : List Int), kv = .int .u8 kd ∧ bv = .slice A n c ∧ ov = .slice Ao no co ∧ 0 ≤ kd ∧ kd ≤ 255 ∧ Bys ws A n bb ∧ n ≤ c ∧ (∃ m, m ≤ 2048 ∧ n = 120 * m) ∧ (0 < n → ∀ ad, A = some ad → w1.heap.size < ad.block ∧ ad.block < w3.heap.size) ∧ Blk ws w1.heap.size 80 (bcs S) ∧ S.length = 32 ∧ Byt S ∧ SRow w3.heap.size ws Ao no co vs ∧ no + n ≤ 300000 ∧ tell AR 1 S0 = vs.map BV.bs ++ tell bb kd S ∧ Below w.heap.size w ws) (fun _ _ bv _ => lenOfV bv)
    case atStart =>
      refine ⟨A3, n3, c3, AR, none, 0, 0, [], 1, S0, rfl, rfl, rfl, by decide, by decide, Y3.out, C3.out, ?_, fun h0 ad e => ?_, K3.out, HS0.out.1, HS0.out.2, SRow.nil (Nat.le_refl _), by obtain ⟨m, h1, h2⟩ := HAL.out; have := N3.out; omega, rfl, B03.out⟩
      · obtain ⟨m, h1, h2⟩ := HAL.out
        exact ⟨m, h1, by rw [← N3.out, h2]⟩
      · have h1 := F3.out ad e
        have h2 := Y3.out.lt h0 ad e
        have := W12.out
        exact ⟨by omega, h2⟩
    case round =>
      obtain ⟨A, n, c, bb, Ao, no, co, vs, kd, S, rfl, rfl, rfl, hk0, hk9, hbb, hcap, hmul, had, hKS, hSl, hSb, hrow, hno, htell, hbw⟩ := hrel
      have HK9 := hide (And.intro hk0 hk9)
      have HBB := hide hbb
      have HCP := hide hcap
      have HMUL := hide hmul
      have HAD := hide had
      have HKS := hide hKS
      have HSL := hide hSl
      have HSB := hide hSb
      have HROW := hide hrow
      have HNO := hide hno
      have HTL := hide htell
      have HBW := hide hbw
      clear hbb hcap hmul had hKS hSl hSb hrow hno htell hbw
      by_cases hn0 : n = 0
      · subst hn0
        have hb0 := hide (show bb = [] from List.eq_nil_of_length_eq_zero HBB.out.1)
        go_wp2_with fail
        go_ret2
        refine ⟨Ao, no, co, vs, by rw [HZ.out]; rfl, HROW.out.lower B03.out.size, ?_, HBW.out, by have := HNO.out; omega⟩
        rw [HZ.out, HTL.out, hb0.out, tell_nil, List.append_nil]
      · have i1 : (0 : Int) < (n : Int) := by omega
        have hld := loadH_run wr w1.heap.size 0 S HKS.out.whole HSL.out
        have HN0 := hide hn0
        clear hn0
        go_wp2_with fail
        refine (next_any wr A n c bb kd S HBB.out HCP.out (by obtain ⟨m, h1, h2⟩ := HMUL.out; omega) HK9.out HSL.out HSB.out).mono ?_
        rintro e w4 (⟨hnx, rfl, b4⟩ | ⟨body, s', A1, n1, c1, hnx, rfl, m4, f4⟩)
        · have HNX := hide (tell_none hnx)
          have KZ4 := hide (Blk.new w4 80 (bcs zero32))
          have B4 := hide b4
          clear hnx hld b4
          go_wp2_with (first
            | (refine wpList_alloc_agg rfl 80 rfl (bcs zero32) zero32_info ?_; simp only [Act.put, List.setIfInBounds_toArray, List.set_cons_zero, List.set_cons_succ])
            | (refine wpList_store_blk rfl 80 _ _ rfl w4.heap.size 0 80 (bcs zero32) (bcs zero32) (by rfl) (by rfl) KZ4.out (Nat.le_refl _) isH32 (bcs_one _) ?_; intro w5 o9 z9 b9; simp only [Act.put]; have B45 := hide (show Below w4.heap.size w4 w5 from Below.trans ((Below.refl _ w4).alloc (Nat.le_refl _) _) (o9.below (by simp) (fun i hi e => by have h9 : i = w4.heap.size := e; omega))); clear b9 o9 z9))
          go_ret2
          have B05 := Below.then_ B4.out B45.out
          refine ⟨Ao, no, co, vs, by rw [HZ.out]; rfl, (HROW.out.under B05).lower B03.out.size, ?_, Below.then_ HBW.out B05, by have := HNO.out; omega⟩
          rw [HZ.out, HTL.out, HNX.out, List.append_nil]
        · have HFIT := hide (nextR_fits hnx)
          have HNX := hide (tell_some hnx)
          have HHS := hide (show s'.length = 32 ∧ Byt s' from ⟨HFIT.out.2.2.1, HFIT.out.2.2.2⟩)
          have KZ4 := hide (Blk.new w4 80 (bcs zero32))
          have M4 := hide m4
          have F4 := hide f4
          have N1 := hide (show body.length = n1 from m4.len)
          clear hnx hld m4 f4
          go_wp2_with (first
            | (refine wpList_alloc_agg rfl 80 rfl (bcs zero32) zero32_info ?_; simp only [Act.put, List.setIfInBounds_toArray, List.set_cons_zero, List.set_cons_succ])
            | (refine wpList_store_blk rfl 80 _ _ rfl w4.heap.size 0 80 (bcs zero32) (bcs s') (by rfl) (by rfl) KZ4.out (by rw [bcs_length, bcs_length, HHS.out.1]; decide) (by rw [bcs_length, HHS.out.1]; exact isH32) (bcs_one _) ?_; intro w5 o9 z9 b9; rw [lay_all _ _ (by rw [bcs_length, bcs_length, HHS.out.1]; rfl)] at b9; simp only [Act.put]; have K5 := hide b9; have B45 := hide (show Below w4.heap.size w4 w5 from Below.trans ((Below.refl _ w4).alloc (Nat.le_refl _) _) (o9.below (by simp) (fun i hi e => by have h9 : i = w4.heap.size := e; omega))); have NB := hide (Blk.new w5 28 (BV.cells ⟨A1, n1, c1, body⟩)).whole; have B56 := hide (show Below w5.heap.size w5 (w5.alloc (.cells #[.slice A1 n1 c1] 28)) from below_alloc (Below.refl _ _) _); have B46 := hide (Below.then_ B45.out B56.out); have B06 := hide (Below.then_ M4.out.below B46.out); have R6 := hide (HROW.out.under B06.out); have KV := hide (KeepV.of_new (v := ⟨A1, n1, c1, body⟩) ⟨M4.out.bys.below B46.out, M4.out.cap⟩ F4.out (fun i h => by rcases h with h | h; exact Nat.lt_of_lt_of_le h HROW.out.low; exact (HROW.out.row.lt i h).2) (F := fun i => i < w3.heap.size ∨ (Value.slice Ao no co).ownBlock = some i)); clear b9 o9 z9)
            | (at_builtin; refine wpListRow rfl 42 rfl _ _ 87 rfl 28 1 24 Try.underlying87 byts_infoR (by decide) w3.heap.size (.slice Ao no co) no _ (by rfl) R6.out.row R6.out.low w5.heap.size 0 1 1 (BV.cells ⟨A1, n1, c1, body⟩) (by rfl) rfl NB.out (fun u hu => by rw [List.mem_singleton.1 hu]; rfl) (by have := HNO.out; omega) (by decide) ?_; intro A7 c7 w7 q1 q2 q3 q4; have R7 := hide (R6.out.app KV.out q1 q2 q3 q4); have O7 := hide q4; clear q1 q2 q3 q4; simp only [Act.put, List.setIfInBounds_toArray, List.set_cons_zero, List.set_cons_succ]))
          have LOW := hide HROW.out.low
          have K7 := hide (O7.out.blk ((HKS.out.under B06.out)) (fun e => by have := (HROW.out.row.lt _ e).1; have := W12.out; have := B23.out.size; omega))
          have K57 := hide (O7.out.blk (K5.out.under B56.out) (fun e => by have h1 := (HROW.out.row.lt _ e).2; have h2 := M4.out.below.size; omega))
          have Y7 := hide ((HBB.out.below B06.out).keep O7.out (fun h0 ad e hf => by have h1 := (HAD.out h0 ad e).2; have h2 := (HROW.out.row.lt _ hf).1; omega))
          have B07 := hide ((HBW.out.trans (B06.out.mono HBW.out.size)).trans (O7.out.below (by have := HBW.out.size; have := B06.out.size; omega) fun i hi e => by have := (HROW.out.row.lt i e).1; have := B03.out.size; omega))
          obtain ⟨U, hU⟩ : ∃ U, U = slabsN (body.length : Int) := ⟨_, rfl⟩
          have hfit := slabs_fit (m := n / 120) (show body.length + 37 ≤ n by have := HFIT.out.1; have := HBB.out.1; omega) HFIT.out.2.1 (by obtain ⟨m, h1, h2⟩ := HMUL.out; omega)
          rw [← hU] at hfit
          have HU := hide hfit
          have hwU : IntKind.i64.wrap ((U : Int) * 120) = (U : Int) * 120 := by rw [IntKind.wrap_i64]; omega
          have HUC := hide (show (U : Int) * 120 = ((U * 120 : Nat) : Int) by simp)
          obtain ⟨A8, hs8x, hs8y, hBA8, hAA8⟩ := slice_from A n c (U * 120) HU.out.1 HCP.out
          have hs8 : ∀ w : World, (Instr.slice 28 (.slice A n c) (some (.int .i64 ((U : Int) * 120))) none none).run Try.prog w = .ok (.slice A8 (n - U * 120) (c - U * 120)) w := fun w => by rw [HUC.out]; exact hs8x w
          have hs8a : ∀ w : World, (Instr.sliceAt 28 (.slice A n c) (some (.int .i64 ((U : Int) * 120))) none none).run Try.prog w = .ok (.slice A8 (n - U * 120) (c - U * 120)) w := fun w => by rw [HUC.out]; exact hs8y w
          have Y8 := hide (hBA8 w7 bb Y7.out)
          have HAA := hide hAA8
          have HTN := HNX.out
          rw [← hU] at HTN
          have HNX2 := hide HTN
          have HUE := hide hU.symm
          clear hU hfit hBA8 hAA8 HTN hs8x hs8y
          refine wp_region_held_drew (S := fun w' => w'.rangeAt w4.heap.size 0 (bcs s')) (by kernel_rfl) (range_under K57.out.whole (Below.refl _ w7).drew) (fun hSA0 => ?_)
          obtain ⟨w7d, hwA⟩ : ∃ x, x = w7.drew := ⟨_, rfl⟩
          have Bd := hide (show Below w7.heap.size w7 w7d by rw [hwA]; exact (Below.refl _ w7).drew)
          rw [← hwA] at hSA0 ⊢
          clear hwA
          (refine wpAnyH_take (i := 0) (oi := ⟨some 43, .load 80 (.tmp 12), 80, "chainlog.go:116", #[], none⟩) (v := ?_) rfl (by kernel_rfl) (by kernel_rfl) (by kernel_rfl) (fun _ _ _ h => h) (Or.inl ⟨by rfl, fun w' hSw => ?_⟩) hSA0 ?_; rotate_left; focus (have z1 := loadH_run w' w4.heap.size 0 s' hSw HHS.out.1; go_simp; try with_reducible rfl))
          simp only [Act.put, List.setIfInBounds_toArray, List.set_cons_zero, List.set_cons_succ]
          (refine wpAnyH_take (i := 1) (oi := ⟨some 44, .move (.tmp 10), 28, "chainlog.go:116", #[], none⟩) (v := ?_) rfl (by kernel_rfl) (by kernel_rfl) (by kernel_rfl) (fun _ _ _ h => h) (Or.inl ⟨by rfl, fun w' hSw => ?_⟩) hSA0 ?_; rotate_left; focus (go_simp; try with_reducible rfl))
          simp only [Act.put, List.setIfInBounds_toArray, List.set_cons_zero, List.set_cons_succ]
          (refine wpAnyH_take (i := 2) (oi := ⟨some 45, .move (.tmp 11), 28, "chainlog.go:116", #[], none⟩) (v := ?_) rfl (by kernel_rfl) (by kernel_rfl) (by kernel_rfl) (fun _ _ _ h => h) (Or.inl ⟨by rfl, fun w' hSw => ?_⟩) hSA0 ?_; rotate_left; focus (go_simp; try with_reducible rfl))
          simp only [Act.put, List.setIfInBounds_toArray, List.set_cons_zero, List.set_cons_succ]
          (refine wpAnyH_take (i := 3) (oi := ⟨some 46, .call { callee := .builtin .len, args := #[.tmp 45], argTypes := #[28] }, 3, "chainlog.go:116", #[⟨2, .data⟩], none⟩) (v := ?_) rfl (by kernel_rfl) (by kernel_rfl) (by kernel_rfl) (fun _ _ _ h => h) (Or.inl ⟨by rfl, fun w' hSw => ?_⟩) hSA0 ?_; rotate_left; focus (go_simp; try with_reducible rfl))
          simp only [Act.put, List.setIfInBounds_toArray, List.set_cons_zero, List.set_cons_succ]
          refine wpAnyH_ready (rs := [4]) (by kernel_rfl) (by simp) ?_
          refine AllReadyH.cons rfl (fun K hK => ?_) AllReadyH.nil
          go_simp
          go_simp
          go_wp2_with (go_at_call 60; refine (Slabs_any w7d (n1 : Int) (by have := N1.out; have := HFIT.out.2.1; omega)).mono ?_; rintro e wx ⟨rfl, rfl⟩; rw [show (slabsN (n1 : Int) : Int) = (U : Int) by rw [← N1.out, HUE.out]])
          refine hK.out _ _ (hSA0) (fun hSA1 => ?_)
          clear hK K
          (refine wpAnyH_take (i := 5) (oi := ⟨some 48, .binOp .mul 3 (.tmp 47) (.const (.int .i64 120)) 3, 3, "chainlog.go:116", #[⟨4, .data⟩], none⟩) (v := ?_) rfl (by kernel_rfl) (by kernel_rfl) (by kernel_rfl) (fun _ _ _ h => h) (Or.inl ⟨by rfl, fun w' hSw => ?_⟩) hSA1 ?_; rotate_left; focus (go_simp; try with_reducible rfl))
          simp only [Act.put, List.setIfInBounds_toArray, List.set_cons_zero, List.set_cons_succ]
          (refine wpAnyH_take (i := 6) (oi := ⟨some 49, .slice 28 (.tmp 44) (Option.some (.tmp 48)) Option.none Option.none, 28, "chainlog.go:116", #[⟨1, .data⟩, ⟨5, .data⟩], none⟩) (v := ?_) rfl (by kernel_rfl) (by kernel_rfl) (by kernel_rfl) (fun _ _ _ h => h) (Or.inl ⟨by rfl, fun w' hSw => ?_⟩) hSA1 ?_; rotate_left; focus (go_simp; try with_reducible rfl))
          simp only [Act.put, List.setIfInBounds_toArray, List.set_cons_zero, List.set_cons_succ]
          refine wpAnyH_ready (rs := [7]) (by kernel_rfl) (by simp) ?_
          refine AllReadyH.cons rfl (fun K hK => ?_) AllReadyH.nil
          refine step_storeB rfl 80 _ _ rfl w1.heap.size 0 80 (bcs S) (bcs s') (by rfl) (by rfl) (K7.out.under Bd.out) (by rw [bcs_length, bcs_length, HHS.out.1, HSL.out]; decide) (by rw [bcs_length, HHS.out.1]; exact isH32) (bcs_one _) ?_
          intro wz oz zz bz
          rw [lay_all _ _ (by rw [bcs_length, bcs_length, HHS.out.1, HSL.out])] at bz
          have hrz := range_only hSA1 oz (fun h => by have h9 : w4.heap.size = w1.heap.size := h; have := W12.out; have := B23.out.size; have := LOW.out; have := M4.out.below.size; omega)
          have OZ := hide oz
          have BZ := hide bz
          clear oz zz bz
          simp only [Act.put]
          refine hK.out _ _ (hrz) (fun hSA2 => ?_)
          clear hK K
          (refine wpAnyH_take (i := 8) (oi := ⟨some 10, .assign (.tmp 49), 28, "chainlog.go:116", #[⟨6, .data⟩, ⟨7, .chain⟩, ⟨0, .phase⟩, ⟨1, .phase⟩, ⟨2, .phase⟩, ⟨3, .phase⟩, ⟨4, .phase⟩, ⟨5, .phase⟩, ⟨6, .phase⟩, ⟨7, .phase⟩], none⟩) (v := ?_) rfl (by kernel_rfl) (by kernel_rfl) (by kernel_rfl) (fun _ _ _ h => h) (Or.inl ⟨by rfl, fun w' hSw => ?_⟩) hSA2 ?_; rotate_left; focus (go_simp; try with_reducible rfl))
          simp only [Act.put, List.setIfInBounds_toArray]
          refine wpAnyH_done (by kernel_rfl) ?_ _
          clear hrz hSA0 hSA1 hSA2
          go_wp2_with fail
          have Y9 := ((Y8.out.below Bd.out).keep OZ.out (fun h0 ad e hf => by obtain ⟨ad0, h1, h2⟩ := HAA.out ad e; have h3 := (HAD.out (by omega) ad0 h1).1; have h9 : ad.block = w1.heap.size := hf; omega))
          have HBZ := (B07.out.trans (Bd.out.mono B07.out.size)).trans (OZ.out.below (by have := B07.out.size; have := Bd.out.size; omega) fun i hi e => by have h9 : i = w1.heap.size := e; have := B1.out.size; omega)
          refine ⟨⟨A8, n - U * 120, c - U * 120, bb.drop (U * 120), A7, no + 1, c7, vs ++ [⟨A1, n1, c1, body⟩], 2, s', rfl, rfl, rfl, by decide, by decide, Y9, by have := HCP.out; omega, ?_, fun h0 ad e => ?_, BZ.out, HHS.out.1, HHS.out.2, (R7.out.under Bd.out).step OZ.out (fun i _ h => by have h9 : i = w1.heap.size := h; have := W12.out; have := B23.out.size; omega), by have := HNO.out; have := HU.out; omega, ?_, HBZ⟩, ?_⟩
          · obtain ⟨m, h1, h2⟩ := HMUL.out
            exact ⟨m - U, by omega, by omega⟩
          · obtain ⟨ad0, h1, h2⟩ := HAA.out ad e
            have h3 := HAD.out (by omega) ad0 h1
            rw [h2]
            exact h3
          · rw [HTL.out, HNX2.out, List.map_append, List.append_assoc]
            rfl
          · have := HU.out
            have := HN0.out
            show n - U * 120 < n
            omega
end Go.Proofs.Ytjnpkcabkccaoaa
