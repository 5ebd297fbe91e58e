/- Lemmas and walks for TableRuns, packed. -/
import Derived.Test.YtjnpkcabkccaoaaGreatQ17
import Derived.Test.YtjnpkcabkccaoaaGreatQ8
import Derived.Test.YtjnpkcabkccaoaaGreatQ16
import Derived.Test.YtjnpkcabkccaoaaGreatQ13
import Derived.Lib.Bytealg
set_option maxRecDepth 100000
set_option maxHeartbeats 16000000
namespace Go.Proofs.YtjnpkcabkccaoaaGreat
open Go.RowKit
section
theorem DevRep.under {w w' : World} {b : Nat} {F : Nat → Prop} {d : Dev} (h : DevRep w b F d) (hb : Below w.heap.size w w') : DevRep w' b F d := h.keep (Only.of_below hb fun _ => False) (fun _ _ h => h)
def mkHz (parts : Array (Nat × Value)) : Sem Value := Instr.build 104 parts
theorem mkHz_fold (parts : Array (Nat × Value)) : Instr.build 104 parts = mkHz parts := rfl
theorem mkHz_zero (w : World) : (mkHz #[]).run Tryz.prog w = .ok (.agg (bcs zero32).toArray) w := by kernel_rfl
theorem loadSlabR (w : World) (b o : Nat) (s : Slb) (h : w.rangeAt b o (enc s)) (hl : s.length = 128) : (loadSlab ⟨b, o, none⟩).run Tryz.prog w = .ok (.agg (enc s).toArray) w :=
 run_loadVar_mid w b o _ (enc s) _ h Tryz.underlying94 rfl (by rw [isz33, enc_length, hl])
theorem slab_read (d : Dev) (i : Nat) (n : Int) (hn : n = (i : Int)) : (d.read n).1 = d.slab i := by rw [hn]; rfl
theorem half_room (half room : Nat) : (half : Int) * (room : Int) = ((half * room : Nat) : Int) := by simp
attribute [local go_sem ↓] loadH_fold mkHz_fold loadSlab_fold
attribute [local go_sem] mkHz_zero
theorem header_any (w : World) (b : Nat) (F : Nat → Prop) (d : Dev) (half : Nat) (hh : half ≤ 1) (h : DevRep w b F d) (hb : d.Bytes) :
  Calls Tryz.prog 104 #[.pointer (some ⟨b, 0, none⟩), .int .i64 (half : Int)] w fun e w' => e = .returned (.tuple #[.int .u64 ((header d half).1 : Int), .agg (bcs (header d half).2).toArray]) ∧ Below w.heap.size w w' := by
 obtain ⟨w1, hw1⟩ : ∃ z, z = w.alloc (.cells (bcs zero32).toArray 104) := ⟨_, rfl⟩
 have B1 := hide (show Below w.heap.size w w1 by rw [hw1]; exact below_alloc (Below.refl _ _) _)
 have K1 := hide (show Blk w1 w.heap.size 104 (bcs zero32) by rw [hw1]; exact Blk.new w _ _)
 have D1 := hide (h.under B1.out)
 have HSL := hide (h.good.slab (half * d.room))
 have HSB := hide (hb.slab (half * d.room))
 have hR : d.room ≤ 2048 := by have := h.good.few; unfold Dev.room; omega
 obtain ⟨R, hRR⟩ : ∃ R, R = d.room := ⟨_, rfl⟩
 have HRR := hide hRR
 have HH : Hid (header d half = if R = 0 then (0, nil32) else if marked (d.slab (half * R)) < 1 ∨ mostGen < marked (d.slab (half * R)) ∨ sealedB (marked (d.slab (half * R))) ≠ (d.slab (half * R)).take 48 then (0, nil32) else (marked (d.slab (half * R)), sealB (marked (d.slab (half * R))))) := by rw [hRR]; exact hide rfl
 rw [← hRR] at HSL HSB hR
 have r0 : (0 : Int) ≤ (R : Int) := by omega
 have r9 : (R : Int) ≤ 2048 := by omega
 have h0 : (0 : Int) ≤ (half : Int) := by omega
 obtain ⟨P, hP⟩ : ∃ P, P = half * R := ⟨_, rfl⟩
 have hP9 : (P : Int) ≤ 2048 := by
  obtain rfl | rfl : half = 0 ∨ half = 1 := by omega
  ·rw [hP]; simp
  ·rw [hP]; simp; omega
 have hPw : wrap64 ((half : Int) * (R : Int)) = (P : Int) := by
  rw [half_room, ← hP, ← IntWalk.i64_left, IntKind.wrap_i64]; omega
 have HPW := hide hPw
 rw [← hP] at HSL HSB HH
 obtain ⟨s, hs⟩ : ∃ s, s = d.slab P := ⟨_, rfl⟩
 rw [← hs] at HSL HSB HH
 have HS := hide hs
 clear hs hP hPw hP9
 clear hRR h hb hR
 go_enter Tryz.func104, Tryz.ntmps104
 go_wp2_with (refine wpList_alloc_agg rfl 104 rfl (bcs zero32) zero32_info ?_; simp only [pU])
 rw [← hw1]
 clear hw1
 refine (room_any w1 b F d D1.out).mono ?_
 rintro e wx ⟨rfl, rfl⟩
 rw [← HRR.out]
 by_cases hr0 : R = 0
 ·have HH0 := hide (show header d half = (0, nil32) by rw [HH.out, if_pos hr0])
  clear HH
  subst hr0
  go_wp2_with (refine wpList_store_blk rfl 104 _ _ rfl w.heap.size 0 104 (bcs zero32) (bcs zero32) (by rfl) (by rfl) K1.out (Nat.le_refl _) isH32 (bcs_one _) ?_; intro w9 o9 z9 b9; rw [lay_all _ _ rfl] at b9; simp only [Act.put])
  refine bodyPost_ret (results_tmp_cell_blk rfl _ _ w.heap.size 104 _ _ (by rfl) b9 Tryz.underlying104 rfl isH32) rfl ⟨by rw [HH0.out]; rfl, o9.under B1.out fun i hi => by have h9 : i = w.heap.size := hi; omega⟩
 ·have i1 : ¬ (R : Int) = 0 := by omega
  have i2 : ((R : Int) == 0) = false := by simp; omega
  go_wp2_with (go_at_call 65; refine (room_any w1 b F d D1.out).mono ?_; rintro e wx ⟨rfl, rfl⟩; rw [← HRR.out])
  rw [HPW.out]
  refine (read_any w1 b F d _ D1.out).mono ?_
  rintro e w2 ⟨rfl, b2⟩
  rw [show (d.read (P : Int)).1 = s from HS.out.symm]
  obtain ⟨E, hE⟩ : ∃ E, E = (d.read (P : Int)).2 := ⟨_, rfl⟩
  rw [← hE]
  have B2 := hide (Below.then_ B1.out b2)
  have K2 := hide (K1.out.under b2)
  have KZ2 := hide (Blk.new w2 94 (enc zeroS))
  have hI := hide (isz33' s HSL.out)
  clear hE b2
  go_wp2_with (first
   | (refine wpList_alloc_agg rfl 94 rfl (enc zeroS) zero33 ?_; simp only [pU])
   | (refine wpList_store_blk rfl 94 _ _ rfl w2.heap.size 0 94 (enc zeroS) (enc s) (by rfl) (by rfl) KZ2.out (Nat.le_of_eq (by rw [enc_length, enc_length, HSL.out, zeroS_length])) hI.out (enc_one _) ?_; intro w3 o3 z3 b3; rw [lay_all _ _ (by rw [enc_length, enc_length, HSL.out, zeroS_length])] at b3; have K3 := hide b3; have B23 := hide (show Below w2.heap.size w2 w3 from Below.trans ((Below.refl _ w2).alloc (Nat.le_refl _) _) (o3.below (by simp) (fun i hi e => by have h9 : i = w2.heap.size := e; omega))); have hld := loadSlabR w3 w2.heap.size 0 s b3.whole HSL.out; clear o3 z3 b3; simp only [Act.put]))
  refine (marked_any w3 s HSL.out HSB.out).mono ?_
  rintro e w4 ⟨rfl, b4⟩
  obtain ⟨G, hG⟩ : ∃ G, G = marked s := ⟨_, rfl⟩
  have HG9 := hide (show G < 18446744073709551616 by rw [hG]; exact marked_lt HSB.out HSL.out)
  rw [← hG] at HH ⊢
  have B34 := hide b4
  clear hld hG b4
  go_wp2_with fail
  refine (sealed_any w4 G HG9.out).mono ?_
  rintro e w5 ⟨A5, n5, c5, rfl, m5, _⟩
  obtain ⟨W, hW⟩ : ∃ W, W = sealedB G := ⟨_, rfl⟩
  obtain ⟨S, hS⟩ : ∃ S, S = sealB G := ⟨_, rfl⟩
  rw [← hW, ← hS] at HH
  rw [← hW] at m5
  rw [← hS]
  have N5 := hide (show n5 = 48 by rw [← m5.len, hW, sealedB_len])
  have HSS := hide (show S.length = 32 by rw [hS]; exact sha_len _)
  have B35 := hide (Below.then_ B34.out m5.below)
  have Y5 := hide m5.bys
  have K5 := hide (Blk.new w5 104 (bcs zero32))
  clear hW hS m5
  by_cases hg1 : G < 1
  ·have g1 : (G : Int) < 1 := by omega
   go_wp2_with (first
    | (refine wpList_alloc_agg rfl 104 rfl (bcs zero32) zero32_info ?_; simp only [pU])
    | (refine wpList_store_blk rfl 104 _ _ rfl w5.heap.size 0 104 (bcs zero32) (bcs S) (by rfl) (by rfl) K5.out (by rw [bcs_length, bcs_length, HSS.out]; decide) (by rw [bcs_length, HSS.out]; exact isH32) (bcs_one _) ?_; intro w6 o9 z9 b9; rw [lay_all _ _ (by rw [bcs_length, bcs_length, HSS.out]; rfl)] at b9; simp only [Act.put]; have KI := hide b9; have B56 := hide (show Below w5.heap.size w5 w6 from Below.trans ((Below.refl _ w5).alloc (Nat.le_refl _) _) (o9.below (by simp) (fun i hi e => by have h9 : i = w5.heap.size := e; omega))); clear b9 o9 z9)
    | (refine wpList_store_blk rfl 104 _ _ rfl w.heap.size 0 104 (bcs zero32) (bcs zero32) (by rfl) (by rfl) ((K2.out.under (Below.then_ B23.out B35.out)).under B56.out) (Nat.le_refl _) isH32 (bcs_one _) ?_; intro w9 o9 z9 b9; rw [lay_all _ _ rfl] at b9; simp only [Act.put]))
   refine bodyPost_ret (results_tmp_cell_blk rfl _ _ w.heap.size 104 _ _ (by rfl) b9 Tryz.underlying104 rfl isH32) rfl ⟨?_, o9.under (Below.then_ B2.out (Below.then_ B23.out (Below.then_ B35.out B56.out))) fun i hi => by have h9 : i = w.heap.size := hi; omega⟩
   rw [HH.out, if_neg hr0, if_pos (.inl hg1)]
   rfl
  ·have g1 : ¬ (G : Int) < 1 := by omega
   by_cases hg2 : mostGen < G
   ·have g2 : (4611686018427387904 : Int) < (G : Int) := by unfold mostGen at hg2; omega
    go_wp2_with (first
     | (refine wpList_alloc_agg rfl 104 rfl (bcs zero32) zero32_info ?_; simp only [pU])
     | (refine wpList_store_blk rfl 104 _ _ rfl w5.heap.size 0 104 (bcs zero32) (bcs S) (by rfl) (by rfl) K5.out (by rw [bcs_length, bcs_length, HSS.out]; decide) (by rw [bcs_length, HSS.out]; exact isH32) (bcs_one _) ?_; intro w6 o9 z9 b9; rw [lay_all _ _ (by rw [bcs_length, bcs_length, HSS.out]; rfl)] at b9; simp only [Act.put]; have KI := hide b9; have B56 := hide (show Below w5.heap.size w5 w6 from Below.trans ((Below.refl _ w5).alloc (Nat.le_refl _) _) (o9.below (by simp) (fun i hi e => by have h9 : i = w5.heap.size := e; omega))); clear b9 o9 z9)
     | (refine wpList_store_blk rfl 104 _ _ rfl w.heap.size 0 104 (bcs zero32) (bcs zero32) (by rfl) (by rfl) ((K2.out.under (Below.then_ B23.out B35.out)).under B56.out) (Nat.le_refl _) isH32 (bcs_one _) ?_; intro w9 o9 z9 b9; rw [lay_all _ _ rfl] at b9; simp only [Act.put]))
    refine bodyPost_ret (results_tmp_cell_blk rfl _ _ w.heap.size 104 _ _ (by rfl) b9 Tryz.underlying104 rfl isH32) rfl ⟨?_, o9.under (Below.then_ B2.out (Below.then_ B23.out (Below.then_ B35.out B56.out))) fun i hi => by have h9 : i = w.heap.size := hi; omega⟩
    rw [HH.out, if_neg hr0, if_pos (.inr (.inl hg2))]
    rfl
   ·have g2 : ¬ (4611686018427387904 : Int) < (G : Int) := by unfold mostGen at hg2; omega
    have n48 : (n5 : Int) = 48 := by have := N5.out; omega
    have N48 := hide n48
    rw [N5.out] at Y5 ⊢
    go_wp2_with (first
     | (refine wpList_alloc_agg rfl 104 rfl (bcs zero32) zero32_info ?_; simp only [pU])
     | (refine wpList_store_blk rfl 104 _ _ rfl w5.heap.size 0 104 (bcs zero32) (bcs S) (by rfl) (by rfl) K5.out (by rw [bcs_length, bcs_length, HSS.out]; decide) (by rw [bcs_length, HSS.out]; exact isH32) (bcs_one _) ?_; intro w6 o9 z9 b9; rw [lay_all _ _ (by rw [bcs_length, bcs_length, HSS.out]; rfl)] at b9; simp only [Act.put]; have KI := hide b9; have B56 := hide (show Below w5.heap.size w5 w6 from Below.trans ((Below.refl _ w5).alloc (Nat.le_refl _) _) (o9.below (by simp) (fun i hi e => by have h9 : i = w5.heap.size := e; omega))); clear b9 o9 z9))
    have hY6 := (K3.out.under (Below.then_ B35.out B56.out)).bys HSB.out 0 48 (by rw [HSL.out]; decide)
    rw [List.drop_zero] at hY6
    refine (BytesEqual_any w6 A5 (some ⟨w2.heap.size, 0, none⟩) 48 c5 48 128 W (s.take 48) (Y5.out.below B56.out) hY6).mono ?_
    rintro e wx ⟨rfl, rfl⟩
    have B06 := hide (Below.then_ B2.out (Below.then_ B23.out (Below.then_ B35.out B56.out)))
    by_cases he : W = s.take 48
    ·have HH0 := hide (show header d half = (G, S) by rw [HH.out, if_neg hr0, if_neg]; rintro (h | h | h); exact hg1 h; exact hg2 h; exact h he)
     rw [decide_eq_true he]
     clear hY6 he HH
     go_wp2_with fail
     refine wp_region_held_drew (S := fun w' => w'.rangeAt w5.heap.size 0 (bcs S)) (by kernel_rfl) (range_under KI.out.whole (Below.refl _ w6).drew) (fun hSA0 => ?_)
     obtain ⟨w6d, hwA⟩ : ∃ x, x = w6.drew := ⟨_, rfl⟩
     have Bd := hide (show Below w6.heap.size w6 w6d by rw [hwA]; exact (Below.refl _ w6).drew)
     rw [← hwA] at hSA0 ⊢
     clear hwA
     refine tq 0 rfl hSA0 ?_
     (refine tq 1 rfl hSA0 ?_ (fun w' hSw => by have z1 := loadH_run w' w5.heap.size 0 S hSw HSS.out; go_simp; try with_reducible rfl))
     refine tq 2 rfl hSA0 ?_
     refine ry 3 rfl fun K hK => ?_
     refine step_storeB rfl 104 _ _ rfl w.heap.size 0 104 (bcs zero32) (bcs S) (by rfl) (by rfl) (((K2.out.under (Below.then_ B23.out B35.out)).under B56.out).under Bd.out) (by rw [bcs_length, bcs_length, HSS.out]; decide) (by rw [bcs_length, HSS.out]; exact isH32) (bcs_one _) ?_
     intro wz oz zz bz
     rw [lay_all _ _ (by rw [bcs_length, bcs_length, HSS.out]; rfl)] at bz
     have hrz := range_only hSA0 oz (fun h => by have h9 : w5.heap.size = w.heap.size := h; have := K2.out.lt; have := B23.out.size; have := B35.out.size; omega)
     simp only [Act.put]
     refine hK.out _ _ (hrz) (fun hSA1 => ?_)
     clear hK K
     refine wpAnyH_done (by kernel_rfl) ?_ _
     have OZ := hide oz
     have BZ := hide bz
     clear hrz zz oz bz hSA0 hSA1
     go_wp2_with fail
     refine bodyPost_ret (results_tmp_cell_blk rfl _ _ w.heap.size 104 _ _ (by rfl) BZ.out Tryz.underlying104 rfl (by rw [bcs_length, HSS.out]; exact isH32)) rfl ⟨by rw [HH0.out]; rfl, OZ.out.under (Below.then_ B06.out Bd.out) fun i hi => by have h9 : i = w.heap.size := hi; omega⟩
    ·have HH0 := hide (show header d half = (0, nil32) by rw [HH.out, if_neg hr0, if_pos (.inr (.inr he))])
     rw [decide_eq_false he]
     clear hY6 he HH
     go_wp2_with (refine wpList_store_blk rfl 104 _ _ rfl w.heap.size 0 104 (bcs zero32) (bcs zero32) (by rfl) (by rfl) ((K2.out.under (Below.then_ B23.out B35.out)).under B56.out) (Nat.le_refl _) isH32 (bcs_one _) ?_; intro w9 o9 z9 b9; rw [lay_all _ _ rfl] at b9; simp only [Act.put])
     refine bodyPost_ret (results_tmp_cell_blk rfl _ _ w.heap.size 104 _ _ (by rfl) b9 Tryz.underlying104 rfl isH32) rfl ⟨by rw [HH0.out]; rfl, o9.under B06.out fun i hi => by have h9 : i = w.heap.size := hi; omega⟩
end
section
theorem areaFrom_len {d : Dev} (h : d.Good) (half mark : Nat) : ∀ k i, ∃ m, m ≤ k ∧ (areaFrom d half mark k i).length = 120 * m
 | 0, _ => ⟨0, by omega, rfl⟩
 | k + 1, i => by
  rw [areaFrom]
  split
  ·obtain ⟨m, hm, e⟩ := areaFrom_len h half mark k (i + 1)
   refine ⟨m + 1, by omega, ?_⟩
   rw [List.length_append, e, List.length_take, h.slab]; omega
  ·exact ⟨0, by omega, rfl⟩
theorem area_len {d : Dev} (h : d.Good) (half mark : Nat) : ∃ m, m ≤ d.room ∧ (area d half mark).length = 120 * m := by
 obtain ⟨m, hm, e⟩ := areaFrom_len h half mark (d.room - 1) 1
 exact ⟨m, by omega, e⟩
attribute [local go_sem ↓] loadSlab_fold
theorem area_any (w : World) (b : Nat) (F : Nat → Prop) (d : Dev) (half mark : Nat) (hh : half ≤ 1) (hm : mark < 18446744073709551616) (h : DevRep w b F d) (hb : d.Bytes) :
  Calls Tryz.prog 105 #[.pointer (some ⟨b, 0, none⟩), .int .i64 (half : Int), .int .u64 (mark : Int)] w fun e w' => ∃ A n c, e = .returned (.slice A n c) ∧ Mine 5 w w' A n c (area d half mark) ∧ Fr w A := by
 have D0 := hide h
 have HG := hide h.good
 have HB := hide hb
 have hR : d.room ≤ 2048 := by have := h.good.few; unfold Dev.room; omega
 obtain ⟨R, hRR⟩ : ∃ R, R = d.room := ⟨_, rfl⟩
 have HRR := hide hRR
 rw [← hRR] at hR
 have r0 : (0 : Int) ≤ (R : Int) := by omega
 have r9 : (R : Int) ≤ 2048 := by omega
 obtain ⟨P, hP⟩ : ∃ P, P = half * R := ⟨_, rfl⟩
 have hP9 : (P : Int) ≤ 2048 := by
  obtain rfl | rfl : half = 0 ∨ half = 1 := by omega
  ·rw [hP]; simp
  ·rw [hP]; simp; omega
 have hPw : wrap64 ((half : Int) * (R : Int)) = (P : Int) := by
  rw [half_room, ← hP, ← IntWalk.i64_left, IntKind.wrap_i64]; omega
 have hP0 : (0 : Int) ≤ (P : Int) := by omega
 have HP := hide hP
 have HM := hide hm
 have HAR : Hid (area d half mark = areaFrom d half mark (R - 1) 1) := by rw [hRR]; exact hide rfl
 clear hRR h hb hR hP hm hh
 go_enter Tryz.func105, Tryz.ntmps105
 go_wp2_with fail
 go_loopw [7, 8] (fun v i ws => ∃ (j : Nat) (A : Option Addr) (n c : Nat) (bs : List Int), 1 ≤ j ∧ j ≤ R + 1 ∧ i = .int .i64 (j : Int) ∧ v = .slice A n c ∧ Mine 5 w ws A n c bs ∧ Fr w A ∧ area d half mark = bs ++ areaFrom d half mark (R - j) j ∧ n ≤ 120 * j) (fun _ i _ => R + 1 - (intOf i).toNat)
 case atStart => exact ⟨1, none, 0, 0, [], by omega, by omega, rfl, rfl, Mine.nil (Below.refl _ _) _, Fr.none _, by rw [HAR.out]; rfl, by omega⟩
 case round =>
  obtain ⟨j, A, n, c, bs, hj1, hj2, rfl, rfl, hmine, hfr, har, hn⟩ := hrel
  have HFR := hide hfr
  have MR := hide hmine
  have HA := hide har
  have DR := hide (D0.out.under hmine.below)
  have HN := hide hn
  have j0 : (1 : Int) ≤ (j : Int) := by omega
  have j9 : (j : Int) ≤ 2049 := by omega
  have HJ := hide (show 1 ≤ j ∧ j ≤ R + 1 from ⟨hj1, hj2⟩)
  clear hmine hfr har hn hj1 hj2
  go_wp2_with (go_at_call 65; refine (room_any wr b F d DR.out).mono ?_; rintro e wx ⟨rfl, rfl⟩; rw [← HRR.out])
  ·have hlt : j < R := by omega
   obtain ⟨s, hs⟩ : ∃ s, s = d.slab (P + j) := ⟨_, rfl⟩
   have HSL := hide (show s.length = 128 by rw [hs]; exact HG.out.slab _)
   have HSB := hide (show Byt s by rw [hs]; exact HB.out.slab _)
   have hstep : areaFrom d half mark (R - j) j = if marked s = mark then s.take 120 ++ areaFrom d half mark (R - (j + 1)) (j + 1) else [] := by
    rw [show R - j = (R - (j + 1)) + 1 by omega, areaFrom, ← HRR.out, ← HP.out, ← hs]
   have HST := hide hstep
   have HLT := hide hlt
   have HS := hide hs
   clear hlt hs hstep
   refine (read_any wr b F d _ DR.out).mono ?_
   rintro e w2 ⟨rfl, b2⟩
   rw [show (d.read ((P : Int) + (j : Int))).1 = s from (slab_read d (P + j) _ (by simp)).trans HS.out.symm]
   obtain ⟨E, hE⟩ : ∃ E, E = (d.read ((P : Int) + (j : Int))).2 := ⟨_, rfl⟩
   rw [← hE]
   have B2 := hide b2
   have KZ2 := hide (Blk.new w2 94 (enc zeroS))
   have hI := hide (isz33' s HSL.out)
   clear hE b2
   go_wp2_with (first
    | (refine wpList_alloc_agg rfl 94 rfl (enc zeroS) zero33 ?_; simp only [pU])
    | (refine wpList_store_blk rfl 94 _ _ rfl w2.heap.size 0 94 (enc zeroS) (enc s) (by rfl) (by rfl) KZ2.out (Nat.le_of_eq (by rw [enc_length, enc_length, HSL.out, zeroS_length])) hI.out (enc_one _) ?_; intro w3 o3 z3 b3; rw [lay_all _ _ (by rw [enc_length, enc_length, HSL.out, zeroS_length])] at b3; have K3 := hide b3; have B23 := hide (show Below w2.heap.size w2 w3 from Below.trans ((Below.refl _ w2).alloc (Nat.le_refl _) _) (o3.below (by simp) (fun i hi e => by have h9 : i = w2.heap.size := e; omega))); have hld := loadSlabR w3 w2.heap.size 0 s b3.whole HSL.out; clear o3 z3 b3; simp only [Act.put]))
   refine (marked_any w3 s HSL.out HSB.out).mono ?_
   rintro e w4 ⟨rfl, b4⟩
   obtain ⟨G, hG⟩ : ∃ G, G = marked s := ⟨_, rfl⟩
   have HGG := hide hG
   rw [← hG]
   have B24 := hide (Below.then_ B23.out b4)
   have B34 := hide b4
   have B04 := hide (Below.then_ B2.out B24.out)
   clear hld hG b4
   by_cases he : G = mark
   ·subst he
    have hst := HST.out
    rw [← HGG.out, if_pos rfl] at hst
    have HA2 := hide hst
    clear hst
    go_wp2_with (at_builtin; refine wpList_app4 rfl _ _ rfl w wr A n c bs (by rfl) MR.out B04.out (some ⟨w2.heap.size, 0, none⟩) 120 128 (s.take 120) (by rfl) (by have h9 := (K3.out.under (show Below w3.heap.size w3 w4 from B34.out)).bys HSB.out 0 120 (by rw [HSL.out]; decide); rwa [List.drop_zero] at h9) (by have := HN.out; have := HJ.out; omega) ?_; intro A9 n9 c9 w9 m9 _ f9; have M9 := hide m9; have F9 := hide (f9 (by decide)); clear m9 f9; simp only [pU])
    exact ⟨⟨j + 1, A9, n9, c9, _, by omega, by have := HLT.out; omega, by go_num, rfl, M9.out, F9.out, by rw [HA.out, HA2.out, List.append_assoc], by rw [← M9.out.len, List.length_append, MR.out.len, List.length_take, HSL.out]; have := HN.out; omega⟩, by have := HLT.out; simp [intOf]; omega⟩
   ·have hne : ¬ (G : Int) = (mark : Int) := by omega
    have hst := HST.out
    rw [← HGG.out, if_neg he] at hst
    have HA2 := hide hst
    clear hst he
    go_wp2_with fail
    go_ret
    exact ⟨A, n, c, rfl, by rw [HA.out, HA2.out, List.append_nil]; exact MR.out.keep B04.out, HFR.out⟩
  ·have hge : R ≤ j := by omega
   have hz : areaFrom d half mark (R - j) j = [] := by rw [show R - j = 0 by omega]; rfl
   have HZ := hide hz
   clear hz
   go_ret
   exact ⟨A, n, c, rfl, by rw [HA.out, HZ.out, List.append_nil]; exact MR.out, HFR.out⟩
end
def lex : List Int → List Int → Int
 | [], [] => 0
 | [], _ :: _ => -1
 | _ :: _, [] => 1
 | a :: x, b :: y => if a < b then -1 else if b < a then 1 else lex x y
theorem lex_self : ∀ a, lex a a = 0
 | [] => rfl
 | a :: x => by simp [lex, lex_self x]
theorem lex_zero : ∀ a b, lex a b = 0 → a = b
 | [], [], _ => rfl
 | [], _ :: _, h => by simp [lex] at h
 | _ :: _, [], h => by simp [lex] at h
 | a :: x, b :: y, h => by
  unfold lex at h
  split at h
  ·simp at h
  ·split at h
   ·simp at h
   ·have e : a = b := by omega
    rw [e, lex_zero x y h]
theorem lex_swap : ∀ a b, lex b a = - lex a b
 | [], [] => rfl
 | [], _ :: _ => rfl
 | _ :: _, [] => rfl
 | a :: x, b :: y => by
  unfold lex
  have := lex_swap x y
  split <;> split <;> (try split) <;> omega
theorem lex_trans : ∀ a b c, lex a b < 0 → lex b c < 0 → lex a c < 0
 | [], [], c, h, _ => by simp [lex] at h
 | _ :: _, [], c, h, _ => by simp [lex] at h
 | _, _ :: _, [], _, h => by simp [lex] at h
 | [], _ :: _, _ :: _, _, _ => by simp [lex]
 | a :: x, b :: y, c :: z, h, k => by
  unfold lex at h k ⊢
  have := lex_trans x y z
  split at h
  ·split at k
   ·rw [if_pos (by omega)]; omega
   ·split at k
    ·omega
    ·rw [if_pos (by omega)]; omega
  ·split at h
   ·omega
   ·split at k
    ·rw [if_pos (by omega)]; omega
    ·split at k
     ·omega
     ·rw [if_neg (by omega), if_neg (by omega)]
      exact this h k
theorem u8_lt (a b : Int) (ha : 0 ≤ a ∧ a ≤ 255) (hb : 0 ≤ b ∧ b ≤ 255) : UInt8.ofNat a.toNat < UInt8.ofNat b.toNat ↔ a < b := by
 rw [UInt8.lt_iff_toNat_lt]
 simp only [UInt8.toNat_ofNat']
 omega
theorem compare_lex : ∀ a b : List Int, Byt a → Byt b → Lib.compareBytes (a.map fun n => UInt8.ofNat n.toNat) (b.map fun n => UInt8.ofNat n.toNat) = lex a b
 | [], [], _, _ => rfl
 | [], _ :: _, _, _ => rfl
 | _ :: _, [], _, _ => rfl
 | a :: x, b :: y, ha, hb => by
  have h1 := u8_lt a b (ha a (by simp)) (hb b (by simp))
  have h2 := u8_lt b a (hb b (by simp)) (ha a (by simp))
  have ih := compare_lex x y (fun z hz => ha z (by simp [hz])) (fun z hz => hb z (by simp [hz]))
  simp only [List.map_cons, Lib.compareBytes, lex, h1, h2, ih]
theorem ba_list (a : List Int) : (ba a).toList = a.map fun n => UInt8.ofNat n.toNat := by rw [ByteArray.toList_eq, ← ba_data]
theorem less_lex : ∀ a b : List Int, Byt a → Byt b → Op.bytesLess (a.map fun n => UInt8.ofNat n.toNat) (b.map fun n => UInt8.ofNat n.toNat) = decide (lex a b < 0)
 | [], [], _, _ => rfl
 | [], _ :: _, _, _ => rfl
 | _ :: _, [], _, _ => rfl
 | a :: x, b :: y, ha, hb => by
  have h1 := u8_lt a b (ha a (by simp)) (hb b (by simp))
  have ih := less_lex x y (fun z hz => ha z (by simp [hz])) (fun z hz => hb z (by simp [hz]))
  have h3 : (UInt8.ofNat a.toNat == UInt8.ofNat b.toNat) = decide (a = b) := by
   rw [Bool.eq_iff_iff]
   simp only [beq_iff_eq, decide_eq_true_eq]
   have := ha a (by simp); have := hb b (by simp)
   constructor
   ·intro h
    have h9 := congrArg UInt8.toNat h
    simp only [UInt8.toNat_ofNat'] at h9
    omega
   ·intro h; rw [h]
  simp only [List.map_cons, Op.bytesLess, lex, h1, h3, ih]
  by_cases c1 : a < b
  ·simp [c1]
  ·by_cases c2 : b < a
   ·have : ¬ a = b := by omega
    simp [c1, c2, this]
   ·have : a = b := by omega
    simp [this]
theorem less_ba (a b : List Int) (ha : Byt a) (hb : Byt b) : Op.bytesLess (ba a).toList (ba b).toList = decide (lex a b < 0) := by
 rw [ba_list, ba_list, less_lex a b ha hb]
structure PairD where
 key : List Int
 value : List Int
 gone : Bool
instance : DecidableEq PairD := fun a b => decidable_of_iff (a.key = b.key ∧ a.value = b.value ∧ a.gone = b.gone) ⟨fun h => by cases a; cases b; simp_all, fun h => by rw [h]; exact ⟨rfl, rfl, rfl⟩⟩
def PairD.okB (p : PairD) : Bool := decide (1 ≤ p.key.length) && (decide (p.key.length ≤ 200) && (decide (p.value.length ≤ 20000) && (!p.gone || decide (p.value.length = 0))))
def aheadB : Option (List Int) → List Int → Bool
 | none, _ => true
 | some k, x => decide (lex k x < 0)
def rightFrom : Option (List Int) → List PairD → Bool
 | _, [] => true
 | o, p :: l => (p.okB && aheadB o p.key) && rightFrom (some p.key) l
def rightB (l : List PairD) : Bool := rightFrom none l
def PairD.bytes (p : PairD) : List Int := txt p.key ++ (if p.gone then [0] else 1 :: txt p.value)
def bytesP (l : List PairD) : List Int := cnt l.length ++ l.flatMap PairD.bytes
def tbytes (l : List PairD) : List Int × Int := if rightB l then (bytesP l, 0) else ([], 151)
def Rd.pair (r : Rd) : Option (PairD × Rd) :=
 if 1 < ((r.text 200).2.fixed 1).1 then none
 else if ((r.text 200).2.fixed 1).1 = 1 then some (⟨(r.text 200).1, ((r.text 200).2.fixed 1).2.text 20000 |>.1, false⟩, ((r.text 200).2.fixed 1).2.text 20000 |>.2)
 else some (⟨(r.text 200).1, [], true⟩, ((r.text 200).2.fixed 1).2)
def Rd.pairs : Nat → Rd → Option (List PairD × Rd)
 | 0, r => some ([], r)
 | n + 1, r => if r.err ≠ 0 then some ([], r) else match r.pair with
  | none => none
  | some q => (Rd.pairs n q.2).map fun z => (q.1 :: z.1, z.2)
def doneP : Option (List PairD × Rd) → Option (List PairD)
 | none => none
 | some q => if q.2.err ≠ 0 ∨ 0 < q.2.rest.length ∨ rightB q.1 = false then none else some q.1
def parseP (b : List Int) : Option (List PairD) := doneP (Rd.pairs (Rd.count ⟨b, 0⟩ 1048576).1 (Rd.count ⟨b, 0⟩ 1048576).2)
def restP (p : PairD) (l : List PairD) (c : PairD) : List PairD := if lex p.key c.key = 0 then l else p :: l
theorem restP_len (p : PairD) (l : List PairD) (c : PairD) : (restP p l c).length ≤ l.length + 1 := by unfold restP; split <;> simp
def mergeD : List PairD → List PairD → List PairD
 | l, [] => l
 | [], c :: cs => (if c.gone then [] else [c]) ++ mergeD [] cs
 | p :: l, c :: cs =>
  if lex p.key c.key < 0 then p :: mergeD l (c :: cs)
  else (if c.gone then [] else [c]) ++ mergeD (restP p l c) cs
termination_by l c => l.length + c.length
decreasing_by
 ·simp
 ·simp
 ·have := restP_len p l c; simp only [List.length_cons]; omega
def goneIn (l : List PairD) : Bool := l.any (·.gone)
def toldR : List PairD → List (List Int) → Option (List PairD)
 | out, [] => some out
 | out, b :: bs => match parseP b with
  | none => none
  | some l => toldR (mergeD out l) bs
def orErr : Option (List PairD) → List PairD × Int
 | none => ([], 151)
 | some l => (l, 0)
def toldL : List (List Int) → List PairD × Int
 | [] => ([], 0)
 | b :: bs => match parseP b with
  | none => ([], 151)
  | some l => if goneIn l then ([], 151) else orErr (toldR l bs)
def toldT (d : Dev) : List PairD × Int := toldL (openL d).2
structure TableD where
 log : LogD
 pairs : List PairD
def openT (d : Dev) : Dev × Option TableD × Int :=
 if (toldT d).2 ≠ 0 then (d, none, (toldT d).2)
 else
  let r := beginL d (openAt (openL d).1) (tbytes (toldT d).1).1
  if r.2.2 ≠ 0 then (r.1, none, r.2.2) else (r.1, some ⟨r.2.1, (toldT d).1⟩, 0)
def keepL (d : Dev) (l : LogD) (change whole : List Int) : Dev × LogD × Int :=
 let a := addL d l change
 if a.2.2 = 0 then syncL a.1 a.2.1 else if a.2.2 = 142 then beginL a.1 a.2.1 whole else a
def applyT (d : Dev) (t : TableD) (l : List PairD) : Dev × TableD × Int :=
 if t.log.ready = false then (d, t, 141)
 else if (tbytes l).2 ≠ 0 ∨ l = [] then (d, t, (tbytes l).2)
 else if fitsB d (tbytes (mergeD t.pairs l)).1.length = false then (d, t, 142)
 else
  let r := keepL d t.log (tbytes l).1 (tbytes (mergeD t.pairs l)).1
  (r.1, ⟨r.2.1, if r.2.2 = 0 then mergeD t.pairs l else t.pairs⟩, r.2.2)
def placeP (l : List PairD) (key : List Int) : Nat := l.countP fun p => decide (lex p.key key < 0)
def foundP (l : List PairD) (key : List Int) : Bool := match l[placeP l key]? with
 | none => false
 | some p => decide (lex p.key key = 0)
def preB (pre key : List Int) : Bool := decide (pre.length ≤ key.length) && decide (key.take pre.length = pre)
def rangeP (l : List PairD) (pre from_ : List Int) (most : Int) : List PairD :=
 (((l.drop (placeP l (if lex from_ pre < 0 then pre else from_))).takeWhile fun p => preB pre p.key)).take most.toNat
end Go.Proofs.YtjnpkcabkccaoaaGreat
