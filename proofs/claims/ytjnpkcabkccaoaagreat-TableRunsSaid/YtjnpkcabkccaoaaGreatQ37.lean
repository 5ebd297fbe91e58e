/- Lemmas and walks for TableRuns, packed. -/
import Derived.Test.YtjnpkcabkccaoaaGreatQ33
import Derived.Test.YtjnpkcabkccaoaaGreatQ17
import Derived.Test.YtjnpkcabkccaoaaGreatQ35
import Derived.Test.YtjnpkcabkccaoaaGreatQ15
import Derived.Test.YtjnpkcabkccaoaaGreatQ18
import Derived.Test.YtjnpkcabkccaoaaGreatQ26
set_option maxRecDepth 100000
set_option maxHeartbeats 16000000
namespace Go.Proofs.YtjnpkcabkccaoaaGreat
open Go.RowKit
theorem rsumS_any (w : World) (bs : List Int) (hB : Byt bs) (hl : bs.length ≤ 100000000) :
  Calls Tryz.prog 95 #[.string (ba bs)] w fun e w' => e = .returned (.string (ba (sha bs))) ∧ Below w.heap.size w w' := by
 obtain ⟨w1, c1, hcv, b1, y1⟩ := str_bytes w bs hB
 have hIH : (Tryz.prog.info? 104).map (·.size) = some 32 := by kernel_rfl
 have lz32 : (bcs zero32).length = 32 := rfl
 have lsh : (bcs (sha bs)).length = 32 := by rw [bcs_length, sha_len]
 have B1 := hide b1
 have Y1 := hide y1
 have HL := hide hl
 obtain ⟨H, hH⟩ : ∃ H, H = sha bs := ⟨_, rfl⟩
 have HH := hide hH
 have HHB := hide (show Byt H ∧ H.length = 32 by rw [hH]; exact ⟨sha_byt _, sha_len _⟩)
 rw [← hH] at lsh ⊢
 obtain ⟨S, hS⟩ : ∃ S, S = ba bs := ⟨_, rfl⟩
 rw [← hS] at hcv ⊢
 clear hS hH b1 y1 hl hB
 go_enter Tryz.func95, Tryz.ntmps95
 go_wp2_with fail
 clear hcv
 refine (rsum_any w1 _ _ _ bs Y1.out HL.out).mono ?_
 rintro e w2 ⟨rfl, b2⟩
 rw [← HH.out]
 have B2 := hide (Below.then_ B1.out b2)
 have KZ := hide (Blk.new w2 104 (bcs zero32))
 clear b2
 have tokA : True := trivial
 have tokB : True := trivial
 go_wp2_with (first
  | (have _t := tokA; clear _t tokA; refine wpList_alloc_agg rfl 104 rfl (bcs zero32) zero32_info ?_; simp only [pU])
  | (have _t := tokB; clear _t tokB; refine wpList_store_blk rfl 104 _ _ rfl w2.heap.size 0 104 (bcs zero32) (bcs H) (by rfl) (by rfl) KZ.out (by rw [lz32, lsh]; decide) (by rw [hIH, lsh]) (bcs_one _) ?_; intro w9 o9 z9 b9; rw [lay_all (bcs zero32) _ (by rw [lz32, lsh])] at b9; have zs := run_str w9 (some ⟨w2.heap.size, 0, none⟩) 32 32 H (by have := Bys.of_blk b9 HHB.out.1; rwa [HHB.out.2] at this); have B9 := hide (show Below w2.heap.size w2 w9 from (below_alloc (Below.refl _ w2) _).trans (o9.below (by simp) (fun i hi e => by have h9 : i = w2.heap.size := e; omega))); clear o9 z9 b9; simp only [Act.put]))
 go_ret
 exact ⟨rfl, Below.then_ B2.out B9.out⟩
theorem within8 : (Rd.within 8).toNat = 8 := by decide
theorem within4 : (Rd.within 4).toNat = 4 := by decide
theorem byt_magic : Byt magicB := by
 intro x hx
 simp only [magicB, List.mem_cons, List.mem_nil_iff, or_false] at hx
 omega
theorem rHeader_any (w : World) (n : Nat) (hn : (n : Int) < 18446744073709551616) :
  Calls Tryz.prog 59 #[.int .u64 (n : Int)] w fun e w' => e = .returned (.string (ba (sealedB n))) ∧ Below w.heap.size w w' := by
 have HN := hide hn
 obtain ⟨v, hv⟩ : ∃ v : Int, v = (n : Int) := ⟨_, rfl⟩
 have HV := hide hv
 rw [← hv]
 clear hv hn
 go_enter Tryz.func59, Tryz.ntmps59
 go_wp2_with fail
 refine (reffixed_any w w v 8 (Below.refl _ _) (by have := HV.out; omega) (by have := HV.out; have := HN.out; omega)).mono ?_
 rintro e w1 hp
 obtain ⟨A1, n1, c1, rfl, t1, _⟩ := hp.fresh
 rw [within8, show v.toNat = n by have := HV.out; omega] at t1
 have B1 := hide t1.below
 have hcv := run_str w1 A1 n1 c1 (dig n 8) t1.bys
 have HBY := hide (show Byt (headB16 n) by
  intro x hx
  rcases List.mem_append.1 hx with h | h
  ·exact byt_magic x h
  ·exact t1.bys.2.1 x h)
 have HLN := hide (show (headB16 n).length = 16 by rw [headB16, List.length_append, dig_length]; rfl)
 obtain ⟨D, hD⟩ : ∃ D, D = ba (dig n 8) := ⟨_, rfl⟩
 have HD := hide hD
 have h8 : D.size = 8 := by rw [hD, ba_size, dig_length]
 rw [← hD] at hcv
 clear hp t1 hD
 go_wp2_with fail
 clear hcv h8
 rw [HD.out, magic_ba, ba_append, show magicB ++ dig n 8 = headB16 n from rfl]
 refine (rsumS_any w1 (headB16 n) HBY.out (by rw [HLN.out]; decide)).mono ?_
 rintro e w2 ⟨rfl, b2⟩
 have B2 := hide (Below.then_ B1.out b2)
 obtain ⟨X, hX⟩ : ∃ X, X = ba (headB16 n) := ⟨_, rfl⟩
 obtain ⟨Y, hY⟩ : ∃ Y, Y = ba (sha (headB16 n)) := ⟨_, rfl⟩
 have HZ := hide (show X ++ Y = ba (sealedB n) by rw [hX, hY, ba_append]; rfl)
 have x16 : X.size = 16 := by rw [hX, ba_size, HLN.out]
 have y32 : Y.size = 32 := by rw [hY, ba_size, sha_len]
 rw [← hX, ← hY]
 clear hX hY b2
 go_wp2_with fail
 go_ret
 exact ⟨by rw [← HZ.out]; rfl, B2.out⟩
theorem rMark_any (w : World) (s : Slb) (hl : s.length = 128) (hb : Byt s) :
  Calls Tryz.prog 94 #[.agg (enc s).toArray] w fun e w' => e = .returned (.int .u64 (marked s : Int)) ∧ Below w.heap.size w w' := by
 have B1 := hide (show Below w.heap.size w (w.alloc (.cells (enc s).toArray 94)) from below_alloc (Below.refl _ _) _)
 have K1 := hide (show Blk (w.alloc (.cells (enc s).toArray 94)) w.heap.size 94 (bcs s) from Blk.new w 94 (bcs s))
 have hcv := run_str _ _ 8 8 _ (K1.out.bys hb 120 8 (by omega))
 have HD := hide (show (s.drop 120).take 8 = s.drop 120 from List.take_of_length_le (by rw [List.length_drop, hl]; decide))
 rw [HD.out] at hcv
 have HBY := hide (show Byt (s.drop 120) from fun x hx => hb x (List.mem_of_mem_drop hx))
 have HLN := hide (show (s.drop 120).length ≤ 8 by rw [List.length_drop, hl]; decide)
 have hll := hide (show (enc s).length = 128 by rw [enc_length, hl])
 obtain ⟨X, hX⟩ : ∃ X, X = ba (s.drop 120) := ⟨_, rfl⟩
 have HX := hide hX
 rw [← hX] at hcv
 clear hl hb hX
 go_enter Tryz.func94, Tryz.ntmps94
 go_wp2_with fail
 rw [HX.out]
 refine (rnumber_any _ (s.drop 120) HBY.out HLN.out).mono ?_
 rintro e wz ⟨rfl, hwz⟩
 rw [hwz]
 clear hwz hcv
 go_wp2_with fail
 go_ret
 exact ⟨rfl, B1.out⟩
theorem rRecord_any (w : World) (kind : Int) (body ahead : List Int) (hk : 0 ≤ kind ∧ kind ≤ 255) (hB : Byt body) (hA : Byt ahead) (hl : body.length ≤ 100000) (hal : ahead.length ≤ 1000) :
  Calls Tryz.prog 60 #[.int .u8 kind, .string (ba body), .string (ba ahead)] w fun e w' => e = .returned (.string (ba (boundB kind body ahead))) ∧ Below w.heap.size w w' := by
 obtain ⟨N, hN⟩ : ∃ N, N = body.length := ⟨_, rfl⟩
 obtain ⟨M, hM⟩ : ∃ M, M = ahead.length := ⟨_, rfl⟩
 obtain ⟨BS, hBS⟩ : ∃ S, S = ba body := ⟨_, rfl⟩
 obtain ⟨AS, hAS⟩ : ∃ S, S = ba ahead := ⟨_, rfl⟩
 obtain ⟨D4, hD4⟩ : ∃ S, S = ba (dig N 4) := ⟨_, rfl⟩
 obtain ⟨K1, hK1⟩ : ∃ S, S = ba [kind] := ⟨_, rfl⟩
 have z1 : BS.size = N := by rw [hBS, ba_size, hN]
 have z2 : AS.size = M := by rw [hAS, ba_size, hM]
 have z3 : D4.size = 4 := by rw [hD4, ba_size, dig_length]
 have z4 : K1.size = 1 := by rw [hK1, ba_size]; rfl
 have HD4 := hide hD4
 have HK1 := hide hK1
 have HN := hide (show N ≤ 100000 by rw [hN]; exact hl)
 have HM := hide (show M ≤ 1000 by rw [hM]; exact hal)
 have HK := hide hk
 have HRB := hide (show Byt (recB kind body) by
  intro x hx
  rcases List.mem_append.1 hx with h | h
  ·rcases List.mem_append.1 h with h | h
   ·exact dig_byt _ _ x h
   ·rw [List.mem_singleton.1 h]; exact hk
  ·exact hB x h)
 have HREC := hide (show D4 ++ K1 ++ BS = ba (recB kind body) by rw [hD4, hK1, hBS, ba_append, ba_append, hN]; rfl)
 have HAR := hide (show AS ++ (D4 ++ K1 ++ BS) = ba (ahead ++ recB kind body) by rw [HREC.out, hAS, ba_append])
 have HAB := hide (show Byt (ahead ++ recB kind body) from fun x hx => by
  rcases List.mem_append.1 hx with h | h
  ·exact hA x h
  ·exact HRB.out x h)
 have HL2 := hide (show (ahead ++ recB kind body).length ≤ 100000000 by rw [List.length_append, recB_len]; omega)
 have wn : IntKind.u64.wrap (N : Int) = (N : Int) := by rw [IntKind.wrap_u64]; have := HN.out; omega
 rw [← hBS, ← hAS]
 clear hN hM hBS hAS hD4 hK1 hB hA hl hal hk
 go_enter Tryz.func60, Tryz.ntmps60
 go_wp2_with fail
 refine wp_region_held_drew (S := fun w' => Below w.heap.size w w') (by kernel_rfl) (by exact (Below.refl _ _).drew) (fun hSR0 => ?_)
 obtain ⟨wd, hwR⟩ : ∃ x, x = w.drew := ⟨_, rfl⟩
 rw [← hwR] at hSR0 ⊢
 have BD := hide (show Below w.heap.size w wd by rw [hwR]; exact (Below.refl _ _).drew)
 clear hwR
 refine tq 0 rfl hSR0 ?_
 refine tq 1 rfl hSR0 ?_
 refine tq 2 rfl hSR0 ?_
 refine tq 5 rfl hSR0 ?_
 refine tq 9 rfl hSR0 ?_
 refine wpAnyH_ready (rs := [3, 6]) (by kernel_rfl) (by simp) ?_
 refine AllReadyH.cons rfl (fun K hK => ?_) (AllReadyH.cons rfl (fun K hK => ?_) AllReadyH.nil)
 ·go_simp
  refine (reffixed_any wd wd (N : Int) 4 (Below.refl _ _) (by omega) (by have := HN.out; omega)).mono ?_
  rintro e u1 hp
  obtain ⟨AF, nF, cF, rfl, tF, _⟩ := hp.fresh
  rw [within4, Int.toNat_natCast] at tF
  have YF := hide tF.bys
  have BFu1 := hide (Below.then_ hSR0 tF.below)
  try have YG := hide (YG.out.below tF.below)
  clear hp tF
  go_simp
  refine hK.out _ _ (BFu1.out) (fun hSR1 => ?_)
  clear hK K
  refine wpAnyH_ready (rs := [4, 6]) (by kernel_rfl) (by simp) ?_
  refine AllReadyH.cons rfl (fun K hK => ?_) (AllReadyH.cons rfl (fun K hK => ?_) AllReadyH.nil)
  ·have zz := run_str u1 AF nF cF _ YF.out
   rw [← HD4.out] at zz
   go_simp
   clear zz
   refine hK.out _ _ (hSR1) (fun hSR2 => ?_)
   clear hK K
   refine ry 6 rfl fun K hK => ?_
   go_simp
   obtain ⟨v2, hv2⟩ : ∃ z, z = u1.alloc (.cells #[.int .u8 kind] 5) := ⟨_, rfl⟩
   obtain ⟨gK, hgK⟩ : ∃ z, z = u1.heap.size := ⟨_, rfl⟩
   have YG := hide (show Bys v2 (some ⟨gK, 0, none⟩) 1 [kind] by rw [hv2, hgK]; exact Bys.one u1 _ kind HK.out.1 HK.out.2)
   have BVv2 := hide (show Below u1.heap.size u1 v2 by rw [hv2]; exact below_alloc (Below.refl _ _) _)
   rw [← hv2, ← hgK]
   clear hv2 hgK
   try have YF := hide (YF.out.below BVv2.out)
   refine hK.out _ _ (Below.then_ hSR2 BVv2.out) (fun hSR3 => ?_)
   clear hK K
   refine ry 7 rfl fun K hK => ?_
   have zy := run_str v2 (some ⟨gK, 0, none⟩) 1 1 _ YG.out
   rw [← HK1.out] at zy
   go_simp
   clear zy
   refine hK.out _ _ (hSR3) (fun hSR4 => ?_)
   clear hK K
   refine tq 8 rfl hSR4 ?_
   (refine tq 10 rfl hSR4 ?_ (fun w' hSw => by have hb5 : (9223372036854775807 < 5 + N) = False := eq_false (by have := HN.out; omega); go_simp; try with_reducible rfl))
   refine tq 11 rfl hSR4 ?_
   refine wpAnyH_done (by kernel_rfl) ?_ _
   obtain ⟨RS, hRS⟩ : ∃ z, z = D4 ++ K1 ++ BS := ⟨_, rfl⟩
   obtain ⟨R, hR⟩ : ∃ z, z = 5 + N := ⟨_, rfl⟩
   have r5 : RS.size = R := by rw [hRS, ByteArray.size_append, ByteArray.size_append, z1, z3, z4, hR]
   have HRR := hide (show R ≤ 200000 by rw [hR]; have := HN.out; omega)
   have HRS := hide (show RS = ba (recB kind body) by rw [hRS]; exact HREC.out)
   have HAR2 := hide (show AS ++ RS = ba (ahead ++ recB kind body) by rw [hRS]; exact HAR.out)
   rw [← hRS]
   have hb6 : (9223372036854775807 < M + R) = False := eq_false (by have := HRR.out; have := HM.out; omega)
   have hb7 : (9223372036854775807 < R + 32) = False := eq_false (by have := HRR.out; omega)
   clear z1 z3 z4 hRS hR
   go_wp2_with fail
   rw [HAR2.out]
   refine (rsumS_any v2 (ahead ++ recB kind body) HAB.out HL2.out).mono ?_
   rintro e w9 ⟨rfl, b9⟩
   have B9 := hide (Below.then_ (hSR4) b9)
   obtain ⟨Y, hY⟩ : ∃ Y, Y = ba (sha (ahead ++ recB kind body)) := ⟨_, rfl⟩
   have y32 : Y.size = 32 := by rw [hY, ba_size, sha_len]
   have HZ := hide (show RS ++ Y = ba (boundB kind body ahead) by rw [HRS.out, hY, ba_append]; rfl)
   rw [← hY]
   clear hY b9
   go_wp2_with fail
   go_ret
   exact ⟨by rw [← HZ.out]; rfl, B9.out⟩
  ·go_simp
   obtain ⟨v3, hv3⟩ : ∃ z, z = u1.alloc (.cells #[.int .u8 kind] 5) := ⟨_, rfl⟩
   obtain ⟨gK, hgK⟩ : ∃ z, z = u1.heap.size := ⟨_, rfl⟩
   have YG := hide (show Bys v3 (some ⟨gK, 0, none⟩) 1 [kind] by rw [hv3, hgK]; exact Bys.one u1 _ kind HK.out.1 HK.out.2)
   have BVv3 := hide (show Below u1.heap.size u1 v3 by rw [hv3]; exact below_alloc (Below.refl _ _) _)
   rw [← hv3, ← hgK]
   clear hv3 hgK
   try have YF := hide (YF.out.below BVv3.out)
   refine hK.out _ _ (Below.then_ hSR1 BVv3.out) (fun hSR2 => ?_)
   clear hK K
   refine wpAnyH_ready (rs := [4, 7]) (by kernel_rfl) (by simp) ?_
   refine AllReadyH.cons rfl (fun K hK => ?_) (AllReadyH.cons rfl (fun K hK => ?_) AllReadyH.nil)
   ·have zz := run_str v3 AF nF cF _ YF.out
    rw [← HD4.out] at zz
    go_simp
    clear zz
    refine hK.out _ _ (hSR2) (fun hSR3 => ?_)
    clear hK K
    refine ry 7 rfl fun K hK => ?_
    have zy := run_str v3 (some ⟨gK, 0, none⟩) 1 1 _ YG.out
    rw [← HK1.out] at zy
    go_simp
    clear zy
    refine hK.out _ _ (hSR3) (fun hSR4 => ?_)
    clear hK K
    refine tq 8 rfl hSR4 ?_
    (refine tq 10 rfl hSR4 ?_ (fun w' hSw => by have hb5 : (9223372036854775807 < 5 + N) = False := eq_false (by have := HN.out; omega); go_simp; try with_reducible rfl))
    refine tq 11 rfl hSR4 ?_
    refine wpAnyH_done (by kernel_rfl) ?_ _
    obtain ⟨RS, hRS⟩ : ∃ z, z = D4 ++ K1 ++ BS := ⟨_, rfl⟩
    obtain ⟨R, hR⟩ : ∃ z, z = 5 + N := ⟨_, rfl⟩
    have r5 : RS.size = R := by rw [hRS, ByteArray.size_append, ByteArray.size_append, z1, z3, z4, hR]
    have HRR := hide (show R ≤ 200000 by rw [hR]; have := HN.out; omega)
    have HRS := hide (show RS = ba (recB kind body) by rw [hRS]; exact HREC.out)
    have HAR2 := hide (show AS ++ RS = ba (ahead ++ recB kind body) by rw [hRS]; exact HAR.out)
    rw [← hRS]
    have hb6 : (9223372036854775807 < M + R) = False := eq_false (by have := HRR.out; have := HM.out; omega)
    have hb7 : (9223372036854775807 < R + 32) = False := eq_false (by have := HRR.out; omega)
    clear z1 z3 z4 hRS hR
    go_wp2_with fail
    rw [HAR2.out]
    refine (rsumS_any v3 (ahead ++ recB kind body) HAB.out HL2.out).mono ?_
    rintro e w9 ⟨rfl, b9⟩
    have B9 := hide (Below.then_ (hSR4) b9)
    obtain ⟨Y, hY⟩ : ∃ Y, Y = ba (sha (ahead ++ recB kind body)) := ⟨_, rfl⟩
    have y32 : Y.size = 32 := by rw [hY, ba_size, sha_len]
    have HZ := hide (show RS ++ Y = ba (boundB kind body ahead) by rw [HRS.out, hY, ba_append]; rfl)
    rw [← hY]
    clear hY b9
    go_wp2_with fail
    go_ret
    exact ⟨by rw [← HZ.out]; rfl, B9.out⟩
   ·have zy := run_str v3 (some ⟨gK, 0, none⟩) 1 1 _ YG.out
    rw [← HK1.out] at zy
    go_simp
    clear zy
    refine hK.out _ _ (hSR2) (fun hSR3 => ?_)
    clear hK K
    refine ry 4 rfl fun K hK => ?_
    have zz := run_str v3 AF nF cF _ YF.out
    rw [← HD4.out] at zz
    go_simp
    clear zz
    refine hK.out _ _ (hSR3) (fun hSR4 => ?_)
    clear hK K
    refine tq 8 rfl hSR4 ?_
    (refine tq 10 rfl hSR4 ?_ (fun w' hSw => by have hb5 : (9223372036854775807 < 5 + N) = False := eq_false (by have := HN.out; omega); go_simp; try with_reducible rfl))
    refine tq 11 rfl hSR4 ?_
    refine wpAnyH_done (by kernel_rfl) ?_ _
    obtain ⟨RS, hRS⟩ : ∃ z, z = D4 ++ K1 ++ BS := ⟨_, rfl⟩
    obtain ⟨R, hR⟩ : ∃ z, z = 5 + N := ⟨_, rfl⟩
    have r5 : RS.size = R := by rw [hRS, ByteArray.size_append, ByteArray.size_append, z1, z3, z4, hR]
    have HRR := hide (show R ≤ 200000 by rw [hR]; have := HN.out; omega)
    have HRS := hide (show RS = ba (recB kind body) by rw [hRS]; exact HREC.out)
    have HAR2 := hide (show AS ++ RS = ba (ahead ++ recB kind body) by rw [hRS]; exact HAR.out)
    rw [← hRS]
    have hb6 : (9223372036854775807 < M + R) = False := eq_false (by have := HRR.out; have := HM.out; omega)
    have hb7 : (9223372036854775807 < R + 32) = False := eq_false (by have := HRR.out; omega)
    clear z1 z3 z4 hRS hR
    go_wp2_with fail
    rw [HAR2.out]
    refine (rsumS_any v3 (ahead ++ recB kind body) HAB.out HL2.out).mono ?_
    rintro e w9 ⟨rfl, b9⟩
    have B9 := hide (Below.then_ (hSR4) b9)
    obtain ⟨Y, hY⟩ : ∃ Y, Y = ba (sha (ahead ++ recB kind body)) := ⟨_, rfl⟩
    have y32 : Y.size = 32 := by rw [hY, ba_size, sha_len]
    have HZ := hide (show RS ++ Y = ba (boundB kind body ahead) by rw [HRS.out, hY, ba_append]; rfl)
    rw [← hY]
    clear hY b9
    go_wp2_with fail
    go_ret
    exact ⟨by rw [← HZ.out]; rfl, B9.out⟩
 ·go_simp
  obtain ⟨v4, hv4⟩ : ∃ z, z = wd.alloc (.cells #[.int .u8 kind] 5) := ⟨_, rfl⟩
  obtain ⟨gK, hgK⟩ : ∃ z, z = wd.heap.size := ⟨_, rfl⟩
  have YG := hide (show Bys v4 (some ⟨gK, 0, none⟩) 1 [kind] by rw [hv4, hgK]; exact Bys.one wd _ kind HK.out.1 HK.out.2)
  have BVv4 := hide (show Below wd.heap.size wd v4 by rw [hv4]; exact below_alloc (Below.refl _ _) _)
  rw [← hv4, ← hgK]
  clear hv4 hgK
  try have YF := hide (YF.out.below BVv4.out)
  refine hK.out _ _ (Below.then_ hSR0 BVv4.out) (fun hSR1 => ?_)
  clear hK K
  refine wpAnyH_ready (rs := [3, 7]) (by kernel_rfl) (by simp) ?_
  refine AllReadyH.cons rfl (fun K hK => ?_) (AllReadyH.cons rfl (fun K hK => ?_) AllReadyH.nil)
  ·go_simp
   refine (reffixed_any v4 v4 (N : Int) 4 (Below.refl _ _) (by omega) (by have := HN.out; omega)).mono ?_
   rintro e u5 hp
   obtain ⟨AF, nF, cF, rfl, tF, _⟩ := hp.fresh
   rw [within4, Int.toNat_natCast] at tF
   have YF := hide tF.bys
   have BFu5 := hide (Below.then_ hSR1 tF.below)
   try have YG := hide (YG.out.below tF.below)
   clear hp tF
   go_simp
   refine hK.out _ _ (BFu5.out) (fun hSR2 => ?_)
   clear hK K
   refine wpAnyH_ready (rs := [4, 7]) (by kernel_rfl) (by simp) ?_
   refine AllReadyH.cons rfl (fun K hK => ?_) (AllReadyH.cons rfl (fun K hK => ?_) AllReadyH.nil)
   ·have zz := run_str u5 AF nF cF _ YF.out
    rw [← HD4.out] at zz
    go_simp
    clear zz
    refine hK.out _ _ (hSR2) (fun hSR3 => ?_)
    clear hK K
    refine ry 7 rfl fun K hK => ?_
    have zy := run_str u5 (some ⟨gK, 0, none⟩) 1 1 _ YG.out
    rw [← HK1.out] at zy
    go_simp
    clear zy
    refine hK.out _ _ (hSR3) (fun hSR4 => ?_)
    clear hK K
    refine tq 8 rfl hSR4 ?_
    (refine tq 10 rfl hSR4 ?_ (fun w' hSw => by have hb5 : (9223372036854775807 < 5 + N) = False := eq_false (by have := HN.out; omega); go_simp; try with_reducible rfl))
    refine tq 11 rfl hSR4 ?_
    refine wpAnyH_done (by kernel_rfl) ?_ _
    obtain ⟨RS, hRS⟩ : ∃ z, z = D4 ++ K1 ++ BS := ⟨_, rfl⟩
    obtain ⟨R, hR⟩ : ∃ z, z = 5 + N := ⟨_, rfl⟩
    have r5 : RS.size = R := by rw [hRS, ByteArray.size_append, ByteArray.size_append, z1, z3, z4, hR]
    have HRR := hide (show R ≤ 200000 by rw [hR]; have := HN.out; omega)
    have HRS := hide (show RS = ba (recB kind body) by rw [hRS]; exact HREC.out)
    have HAR2 := hide (show AS ++ RS = ba (ahead ++ recB kind body) by rw [hRS]; exact HAR.out)
    rw [← hRS]
    have hb6 : (9223372036854775807 < M + R) = False := eq_false (by have := HRR.out; have := HM.out; omega)
    have hb7 : (9223372036854775807 < R + 32) = False := eq_false (by have := HRR.out; omega)
    clear z1 z3 z4 hRS hR
    go_wp2_with fail
    rw [HAR2.out]
    refine (rsumS_any u5 (ahead ++ recB kind body) HAB.out HL2.out).mono ?_
    rintro e w9 ⟨rfl, b9⟩
    have B9 := hide (Below.then_ (hSR4) b9)
    obtain ⟨Y, hY⟩ : ∃ Y, Y = ba (sha (ahead ++ recB kind body)) := ⟨_, rfl⟩
    have y32 : Y.size = 32 := by rw [hY, ba_size, sha_len]
    have HZ := hide (show RS ++ Y = ba (boundB kind body ahead) by rw [HRS.out, hY, ba_append]; rfl)
    rw [← hY]
    clear hY b9
    go_wp2_with fail
    go_ret
    exact ⟨by rw [← HZ.out]; rfl, B9.out⟩
   ·have zy := run_str u5 (some ⟨gK, 0, none⟩) 1 1 _ YG.out
    rw [← HK1.out] at zy
    go_simp
    clear zy
    refine hK.out _ _ (hSR2) (fun hSR3 => ?_)
    clear hK K
    refine ry 4 rfl fun K hK => ?_
    have zz := run_str u5 AF nF cF _ YF.out
    rw [← HD4.out] at zz
    go_simp
    clear zz
    refine hK.out _ _ (hSR3) (fun hSR4 => ?_)
    clear hK K
    refine tq 8 rfl hSR4 ?_
    (refine tq 10 rfl hSR4 ?_ (fun w' hSw => by have hb5 : (9223372036854775807 < 5 + N) = False := eq_false (by have := HN.out; omega); go_simp; try with_reducible rfl))
    refine tq 11 rfl hSR4 ?_
    refine wpAnyH_done (by kernel_rfl) ?_ _
    obtain ⟨RS, hRS⟩ : ∃ z, z = D4 ++ K1 ++ BS := ⟨_, rfl⟩
    obtain ⟨R, hR⟩ : ∃ z, z = 5 + N := ⟨_, rfl⟩
    have r5 : RS.size = R := by rw [hRS, ByteArray.size_append, ByteArray.size_append, z1, z3, z4, hR]
    have HRR := hide (show R ≤ 200000 by rw [hR]; have := HN.out; omega)
    have HRS := hide (show RS = ba (recB kind body) by rw [hRS]; exact HREC.out)
    have HAR2 := hide (show AS ++ RS = ba (ahead ++ recB kind body) by rw [hRS]; exact HAR.out)
    rw [← hRS]
    have hb6 : (9223372036854775807 < M + R) = False := eq_false (by have := HRR.out; have := HM.out; omega)
    have hb7 : (9223372036854775807 < R + 32) = False := eq_false (by have := HRR.out; omega)
    clear z1 z3 z4 hRS hR
    go_wp2_with fail
    rw [HAR2.out]
    refine (rsumS_any u5 (ahead ++ recB kind body) HAB.out HL2.out).mono ?_
    rintro e w9 ⟨rfl, b9⟩
    have B9 := hide (Below.then_ (hSR4) b9)
    obtain ⟨Y, hY⟩ : ∃ Y, Y = ba (sha (ahead ++ recB kind body)) := ⟨_, rfl⟩
    have y32 : Y.size = 32 := by rw [hY, ba_size, sha_len]
    have HZ := hide (show RS ++ Y = ba (boundB kind body ahead) by rw [HRS.out, hY, ba_append]; rfl)
    rw [← hY]
    clear hY b9
    go_wp2_with fail
    go_ret
    exact ⟨by rw [← HZ.out]; rfl, B9.out⟩
  ·have zy := run_str v4 (some ⟨gK, 0, none⟩) 1 1 _ YG.out
   rw [← HK1.out] at zy
   go_simp
   clear zy
   refine hK.out _ _ (hSR1) (fun hSR2 => ?_)
   clear hK K
   refine ry 3 rfl fun K hK => ?_
   go_simp
   refine (reffixed_any v4 v4 (N : Int) 4 (Below.refl _ _) (by omega) (by have := HN.out; omega)).mono ?_
   rintro e u6 hp
   obtain ⟨AF, nF, cF, rfl, tF, _⟩ := hp.fresh
   rw [within4, Int.toNat_natCast] at tF
   have YF := hide tF.bys
   have BFu6 := hide (Below.then_ hSR2 tF.below)
   try have YG := hide (YG.out.below tF.below)
   clear hp tF
   go_simp
   refine hK.out _ _ (BFu6.out) (fun hSR3 => ?_)
   clear hK K
   refine ry 4 rfl fun K hK => ?_
   have zz := run_str u6 AF nF cF _ YF.out
   rw [← HD4.out] at zz
   go_simp
   clear zz
   refine hK.out _ _ (hSR3) (fun hSR4 => ?_)
   clear hK K
   refine tq 8 rfl hSR4 ?_
   (refine tq 10 rfl hSR4 ?_ (fun w' hSw => by have hb5 : (9223372036854775807 < 5 + N) = False := eq_false (by have := HN.out; omega); go_simp; try with_reducible rfl))
   refine tq 11 rfl hSR4 ?_
   refine wpAnyH_done (by kernel_rfl) ?_ _
   obtain ⟨RS, hRS⟩ : ∃ z, z = D4 ++ K1 ++ BS := ⟨_, rfl⟩
   obtain ⟨R, hR⟩ : ∃ z, z = 5 + N := ⟨_, rfl⟩
   have r5 : RS.size = R := by rw [hRS, ByteArray.size_append, ByteArray.size_append, z1, z3, z4, hR]
   have HRR := hide (show R ≤ 200000 by rw [hR]; have := HN.out; omega)
   have HRS := hide (show RS = ba (recB kind body) by rw [hRS]; exact HREC.out)
   have HAR2 := hide (show AS ++ RS = ba (ahead ++ recB kind body) by rw [hRS]; exact HAR.out)
   rw [← hRS]
   have hb6 : (9223372036854775807 < M + R) = False := eq_false (by have := HRR.out; have := HM.out; omega)
   have hb7 : (9223372036854775807 < R + 32) = False := eq_false (by have := HRR.out; omega)
   clear z1 z3 z4 hRS hR
   go_wp2_with fail
   rw [HAR2.out]
   refine (rsumS_any u6 (ahead ++ recB kind body) HAB.out HL2.out).mono ?_
   rintro e w9 ⟨rfl, b9⟩
   have B9 := hide (Below.then_ (hSR4) b9)
   obtain ⟨Y, hY⟩ : ∃ Y, Y = ba (sha (ahead ++ recB kind body)) := ⟨_, rfl⟩
   have y32 : Y.size = 32 := by rw [hY, ba_size, sha_len]
   have HZ := hide (show RS ++ Y = ba (boundB kind body ahead) by rw [HRS.out, hY, ba_append]; rfl)
   rw [← hY]
   clear hY b9
   go_wp2_with fail
   go_ret
   exact ⟨by rw [← HZ.out]; rfl, B9.out⟩
section
theorem DocRep.under {w w' : World} {b : Nat} {F : Nat → Prop} {d : Dev} (h : DocRep w b F d) (hb : Below w.heap.size w w') : DocRep w' b F d := h.keep (Only.of_below hb fun _ => False) (fun _ _ h => h)
structure DocOk (d : Dev) : Prop where
 ok : d.Ok
 few : d.written.length ≤ 1000000
 bytes : d.Bytes
attribute [local go_sem ↓] loadSlab_fold
theorem rarea_any (w : World) (b : Nat) (F : Nat → Prop) (d : Dev) (half mark : Nat) (hh : half ≤ 1) (hm : mark < 18446744073709551616) (h : DocRep w b F d) (hd : DocOk d) :
  Calls Tryz.prog 90 #[.pointer (some ⟨b, 0, none⟩), .int .i64 (half : Int), .int .u64 (mark : Int)] w fun e w' => e = .returned (.string (ba (area d half mark))) ∧ Below w.heap.size w w' := by
 have D0 := hide h
 have HG := hide h.good
 have HDO := hide hd
 have hR : d.room ≤ 2048 := by have := h.good.few; unfold Dev.room; omega
 obtain ⟨R, hRR⟩ : ∃ R, R = d.room := ⟨_, rfl⟩
 have HRR := hide hRR
 rw [← hRR] at hR
 have r0 : (0 : Int) ≤ (R : Int) := by omega
 have r9 : (R : Int) ≤ 2048 := by omega
 obtain ⟨P, hP⟩ : ∃ P, P = half * R := ⟨_, rfl⟩
 have hP9 : (P : Int) ≤ 2048 := by
  obtain rfl | rfl : half = 0 ∨ half = 1 := by omega
  ·rw [hP]; simp
  ·rw [hP]; simp; omega
 have hPw : RowKit.wrap64 ((half : Int) * (R : Int)) = (P : Int) := by
  rw [half_room, ← hP, ← IntWalk.i64_left, IntKind.wrap_i64]; omega
 have hP0 : (0 : Int) ≤ (P : Int) := by omega
 have HP := hide hP
 have HM := hide hm
 have HAR : Hid (area d half mark = areaFrom d half mark (R - 1) 1) := by rw [hRR]; exact hide rfl
 clear hRR h hd hR hP hm hh
 go_enter Tryz.func90, Tryz.ntmps90
 go_wp2_with fail
 go_loopw [7, 8] (fun v i ws => ∃ (j : Nat) (A : Option Addr) (n c : Nat) (bs : List Int), 1 ≤ j ∧ j ≤ R + 1 ∧ i = .int .i64 (j : Int) ∧ v = .slice A n c ∧ Mine 5 w ws A n c bs ∧ area d half mark = bs ++ areaFrom d half mark (R - j) j ∧ n ≤ 120 * j) (fun _ i _ => R + 1 - (intOf i).toNat)
 case atStart => exact ⟨1, _, 0, 0, [], by omega, by omega, rfl, rfl, Mine.nil (below_alloc (Below.refl _ _) _) _, by rw [HAR.out]; rfl, by omega⟩
 case round =>
  obtain ⟨j, A, n, c, bs, hj1, hj2, rfl, rfl, hmine, har, hn⟩ := hrel
  have MR := hide hmine
  have HA := hide har
  have DR := hide (D0.out.under hmine.below)
  have HN := hide hn
  have j0 : (1 : Int) ≤ (j : Int) := by omega
  have j9 : (j : Int) ≤ 2049 := by omega
  have HJ := hide (show 1 ≤ j ∧ j ≤ R + 1 from ⟨hj1, hj2⟩)
  clear hmine har hn hj1 hj2
  go_wp2_with fail
  refine (rHalf_any wr b F d DR.out).mono ?_
  rintro e wx ⟨rfl, hwx⟩
  rw [hwx, ← HRR.out]
  clear hwx
  by_cases hlt : j < R
  ·have hlt2 : (j : Int) < (R : Int) := by omega
   obtain ⟨s, hs⟩ : ∃ s, s = d.slab (P + j) := ⟨_, rfl⟩
   have HSL := hide (show s.length = 128 by rw [hs]; exact HG.out.slab _)
   have HSB := hide (show Byt s by rw [hs]; exact HDO.out.bytes.slab _)
   have hstep : areaFrom d half mark (R - j) j = if marked s = mark then s.take 120 ++ areaFrom d half mark (R - (j + 1)) (j + 1) else [] := by
    rw [show R - j = (R - (j + 1)) + 1 by omega, areaFrom, ← HRR.out, ← HP.out, ← hs]
   have HST := hide hstep
   have HLT := hide hlt
   have HS := hide hs
   clear hlt hs hstep
   go_wp2_with fail
   refine (rHalf_any wr b F d DR.out).mono ?_
   rintro e wx ⟨rfl, hwx⟩
   rw [hwx, ← HRR.out]
   clear hwx
   go_wp2_with fail
   refine (docread_any wr b F d _ DR.out HDO.out.ok HDO.out.few).mono ?_
   rintro e w2 ⟨rfl, b2⟩
   rw [show (d.read ((P : Int) + (j : Int))).1 = s from (slab_read d (P + j) _ (by simp)).trans HS.out.symm]
   obtain ⟨E, hE⟩ : ∃ E, E = (d.read ((P : Int) + (j : Int))).2 := ⟨_, rfl⟩
   rw [← hE]
   have B2 := hide b2
   have KZ2 := hide (Blk.new w2 94 (enc zeroS))
   have hI := hide (isz33' s HSL.out)
   have tokA : True := trivial
   have tokB : True := trivial
   clear hE b2
   go_wp2_with (first
    | (have _t := tokA; clear _t tokA; refine wpList_alloc_agg rfl 94 rfl (enc zeroS) zero33 ?_; simp only [pU])
    | (have _t := tokB; clear _t tokB; refine wpList_store_blk rfl 94 _ _ rfl w2.heap.size 0 94 (enc zeroS) (enc s) (by rfl) (by rfl) KZ2.out (Nat.le_of_eq (by rw [enc_length, enc_length, HSL.out, zeroS_length])) hI.out (enc_one _) ?_; intro w3 o3 z3 b3; rw [lay_all _ _ (by rw [enc_length, enc_length, HSL.out, zeroS_length])] at b3; have K3 := hide b3; have B23 := hide (show Below w2.heap.size w2 w3 from Below.trans ((Below.refl _ w2).alloc (Nat.le_refl _) _) (o3.below (by simp) (fun i hi e => by have h9 : i = w2.heap.size := e; omega))); have hld := loadSlabR w3 w2.heap.size 0 s b3.whole HSL.out; clear o3 z3 b3; simp only [Act.put]))
   refine (rMark_any w3 s HSL.out HSB.out).mono ?_
   rintro e w4 ⟨rfl, b4⟩
   obtain ⟨G, hG⟩ : ∃ G, G = marked s := ⟨_, rfl⟩
   have HGG := hide hG
   rw [← hG]
   have B24 := hide (Below.then_ B23.out b4)
   have B34 := hide b4
   have B04 := hide (Below.then_ B2.out B24.out)
   clear hld hG b4
   by_cases he : G = mark
   ·subst he
    have hst := HST.out
    rw [← HGG.out, if_pos rfl] at hst
    have HA2 := hide hst
    clear hst
    go_wp2_with (at_builtin; refine wpList_app4 rfl _ _ rfl w wr A n c bs (by rfl) MR.out B04.out (some ⟨w2.heap.size, 0, none⟩) 120 128 (s.take 120) (by rfl) (by have h9 := (K3.out.under (show Below w3.heap.size w3 w4 from B34.out)).bys HSB.out 0 120 (by rw [HSL.out]; decide); rwa [List.drop_zero] at h9) (by have := HN.out; have := HJ.out; omega) ?_; intro A9 n9 c9 w9 m9 _ f9; have M9 := hide m9; clear m9 f9; simp only [pU])
    exact ⟨⟨j + 1, A9, n9, c9, _, by omega, by have := HLT.out; omega, by go_num, rfl, M9.out, by rw [HA.out, HA2.out, List.append_assoc], by rw [← M9.out.len, List.length_append, MR.out.len, List.length_take, HSL.out]; have := HN.out; omega⟩, by have := HLT.out; simp [intOf]; omega⟩
   ·have hne : ¬ (G : Int) = (mark : Int) := by omega
    have hst := HST.out
    rw [← HGG.out, if_neg he] at hst
    have HA2 := hide (show area d half mark = bs by rw [HA.out, hst, List.append_nil])
    have hcv := run_str w4 A n c bs (MR.out.keep B04.out).bys
    rw [← HA2.out] at hcv
    clear hst he
    go_wp2_with fail
    go_ret
    exact ⟨rfl, (MR.out.keep B04.out).below⟩
  ·have hlt2 : ¬ (j : Int) < (R : Int) := by omega
   have hz : areaFrom d half mark (R - j) j = [] := by rw [show R - j = 0 by omega]; rfl
   have HA2 := hide (show area d half mark = bs by rw [HA.out, hz, List.append_nil])
   have hcv := run_str wr A n c bs MR.out.bys
   rw [← HA2.out] at hcv
   clear hz
   go_wp2_with fail
   go_ret
   exact ⟨rfl, MR.out.below⟩
end
section
attribute [local go_sem ↓] loadSlab_fold
theorem rTop_any (w : World) (b : Nat) (F : Nat → Prop) (d : Dev) (h : DocRep w b F d) (hd : DocOk d) :
  Calls Tryz.prog 58 #[.pointer (some ⟨b, 0, none⟩)] w fun e w' => e = .returned (.int .u64 (topL d : Int)) ∧ Below w.heap.size w w' := by
 have D0 := hide h
 have HG := hide h.good
 have HDO := hide hd
 have hR : d.room ≤ 2048 := by have := h.good.few; unfold Dev.room; omega
 obtain ⟨R, hRR⟩ : ∃ R, R = d.room := ⟨_, rfl⟩
 have HRR := hide hRR
 rw [← hRR] at hR
 have r0 : (0 : Int) ≤ (R : Int) := by omega
 have r9 : (R : Int) ≤ 2048 := by omega
 have hPw2 : IntKind.i64.wrap (2 * (R : Int)) = 2 * (R : Int) := by rw [IntKind.wrap_i64]; omega
 have HR := hide hR
 clear hRR h hd hR
 go_enter Tryz.func58, Tryz.ntmps58
 go_wp2_with fail
 go_loopw [3, 4] (fun v i ws => ∃ j : Nat, j ≤ 2 * R ∧ i = .int .i64 (j : Int) ∧ v = .int .u64 (topTo d j : Int) ∧ Below w.heap.size w ws) (fun _ i _ => 2 * R - (intOf i).toNat)
 case atStart => exact ⟨0, by omega, rfl, rfl, Below.refl _ _⟩
 case round =>
  obtain ⟨j, hj, rfl, rfl, hbw⟩ := hrel
  have BW := hide hbw
  have DR := hide (D0.out.under hbw)
  obtain ⟨T, hT⟩ : ∃ T, T = topTo d j := ⟨_, rfl⟩
  rw [← hT]
  have HT := hide hT
  have j0 : (0 : Int) ≤ (j : Int) := by omega
  have j9 : (j : Int) ≤ 4096 := by omega
  have t0 : (0 : Int) ≤ (T : Int) := by omega
  have HJ := hide hj
  clear hbw hT hj
  go_wp2_with fail
  refine (rHalf_any wr b F d DR.out).mono ?_
  rintro e wx ⟨rfl, hwx⟩
  rw [hwx, ← HRR.out]
  clear hwx
  by_cases hlt : j < 2 * R
  ·have i1 : (j : Int) < 2 * (R : Int) := by omega
   obtain ⟨s, hs⟩ : ∃ s, s = d.slab j := ⟨_, rfl⟩
   have HSL := hide (show s.length = 128 by rw [hs]; exact HG.out.slab _)
   have HSB := hide (show Byt s by rw [hs]; exact HDO.out.bytes.slab _)
   have HLT := hide hlt
   have HS := hide hs
   clear hlt hs
   go_wp2_with fail
   refine (docread_any wr b F d _ DR.out HDO.out.ok HDO.out.few).mono ?_
   rintro e w2 ⟨rfl, b2⟩
   rw [show (d.read (j : Int)).1 = s from (slab_read d j _ (by simp)).trans HS.out.symm]
   obtain ⟨E, hE⟩ : ∃ E, E = (d.read (j : Int)).2 := ⟨_, rfl⟩
   rw [← hE]
   have B2 := hide b2
   have KZ2 := hide (Blk.new w2 94 (enc zeroS))
   have hI := hide (isz33' s HSL.out)
   have tokA : True := trivial
   have tokB : True := trivial
   clear hE b2
   go_wp2_with (first
    | (have _t := tokA; clear _t tokA; refine wpList_alloc_agg rfl 94 rfl (enc zeroS) zero33 ?_; simp only [pU])
    | (have _t := tokB; clear _t tokB; refine wpList_store_blk rfl 94 _ _ rfl w2.heap.size 0 94 (enc zeroS) (enc s) (by rfl) (by rfl) KZ2.out (Nat.le_of_eq (by rw [enc_length, enc_length, HSL.out, zeroS_length])) hI.out (enc_one _) ?_; intro w3 o3 z3 b3; rw [lay_all _ _ (by rw [enc_length, enc_length, HSL.out, zeroS_length])] at b3; have K3 := hide b3; have B23 := hide (show Below w2.heap.size w2 w3 from Below.trans ((Below.refl _ w2).alloc (Nat.le_refl _) _) (o3.below (by simp) (fun i hi e => by have h9 : i = w2.heap.size := e; omega))); have hld := loadSlabR w3 w2.heap.size 0 s b3.whole HSL.out; clear o3 z3 b3; simp only [Act.put]))
   refine (rMark_any w3 s HSL.out HSB.out).mono ?_
   rintro e w4 ⟨rfl, b4⟩
   obtain ⟨G, hG⟩ : ∃ G, G = marked s := ⟨_, rfl⟩
   have HGG := hide hG
   rw [← hG]
   have B24 := hide (Below.then_ B23.out b4)
   have B04 := hide (Below.then_ B2.out B24.out)
   have he : Hid (topTo d (j + 1) = max T G) := hide (by rw [topTo, ← HT.out, ← HS.out, ← HGG.out])
   clear hld hG b4
   by_cases hc : T ≤ G
   ·have HE := hide (show topTo d (j + 1) = G by rw [he.out]; omega)
    have hm : max (T : Int) (G : Int) = (G : Int) := by omega
    have hc1 : (T : Int) ≤ (G : Int) := by omega
    clear he hc
    go_wp2_with fail
    exact ⟨⟨j + 1, by have := HLT.out; omega, by go_num, by rw [HE.out]; congr 1; split <;> omega, Below.then_ BW.out B04.out⟩, by have := HLT.out; simp [intOf]; omega⟩
   ·have HE := hide (show topTo d (j + 1) = T by rw [he.out]; omega)
    have hm : max (T : Int) (G : Int) = (T : Int) := by omega
    have hc1 : ¬ (T : Int) ≤ (G : Int) := by omega
    clear he hc
    go_wp2_with fail
    exact ⟨⟨j + 1, by have := HLT.out; omega, by go_num, by rw [HE.out]; congr 1; split <;> omega, Below.then_ BW.out B04.out⟩, by have := HLT.out; simp [intOf]; omega⟩
  ·have i1 : ¬ (j : Int) < 2 * (R : Int) := by omega
   have HJR := hide (show j = 2 * R by have := HJ.out; omega)
   clear hlt
   go_wp2_with fail
   go_ret
   exact ⟨by rw [HT.out, HJR.out, HRR.out]; rfl, BW.out⟩
end
section
theorem str_ne {a b : List Int} (ha : Byt a) (hb : Byt b) (h : a ≠ b) : (ba a).toList ≠ (ba b).toList := fun e => h (by
 have h1 := baBeq a b ha hb
 rw [e] at h1
 simpa using h1)
attribute [local go_sem ↓] loadSlab_fold
theorem rGen_any (w : World) (b : Nat) (F : Nat → Prop) (d : Dev) (half : Nat) (hh : half ≤ 1) (h : DocRep w b F d) (hd : DocOk d) :
  Calls Tryz.prog 89 #[.pointer (some ⟨b, 0, none⟩), .int .i64 (half : Int)] w fun e w' => e = .returned (.int .u64 ((header d half).1 : Int)) ∧ Below w.heap.size w w' := by
 have D0 := hide h
 have HG := hide h.good
 have HDO := hide hd
 have hR : d.room ≤ 2048 := by have := h.good.few; unfold Dev.room; omega
 obtain ⟨R, hRR⟩ : ∃ R, R = d.room := ⟨_, rfl⟩
 have HRR := hide hRR
 rw [← hRR] at hR
 have r0 : (0 : Int) ≤ (R : Int) := by omega
 have r9 : (R : Int) ≤ 2048 := by omega
 obtain ⟨P, hP⟩ : ∃ P, P = half * R := ⟨_, rfl⟩
 have hP9 : (P : Int) ≤ 2048 := by
  obtain rfl | rfl : half = 0 ∨ half = 1 := by omega
  ·rw [hP]; simp
  ·rw [hP]; simp; omega
 have hPw : RowKit.wrap64 ((half : Int) * (R : Int)) = (P : Int) := by
  rw [half_room, ← hP, ← IntWalk.i64_left, IntKind.wrap_i64]; omega
 have hP0 : (0 : Int) ≤ (P : Int) := by omega
 have HP := hide hP
 clear hRR h hd hR hP hh
 by_cases hz : R = 0
 ·have HE := hide (show (header d half).1 = 0 by rw [header, if_pos (by rw [← HRR.out]; exact hz)])
  subst hz
  go_enter Tryz.func89, Tryz.ntmps89
  go_wp2_with fail
  refine (rHalf_any w b F d D0.out).mono ?_
  rintro e wx ⟨rfl, hwx⟩
  rw [hwx, ← HRR.out]
  clear hwx
  go_wp2_with fail
  go_ret
  exact ⟨by rw [HE.out]; rfl, Below.refl _ _⟩
 have hz2 : ¬ (R : Int) = 0 := by omega
 obtain ⟨s, hs⟩ : ∃ s, s = d.slab P := ⟨_, rfl⟩
 have HSL := hide (show s.length = 128 by rw [hs]; exact HG.out.slab _)
 have HSB := hide (show Byt s by rw [hs]; exact HDO.out.bytes.slab _)
 have HSS := hide hs
 have HHD := hide (show header d half = if marked s < 1 ∨ mostGen < marked s ∨ sealedB (marked s) ≠ s.take 48 then (0, nil32) else (marked s, sealB (marked s)) by
  rw [header, if_neg (by rw [← HRR.out]; exact hz), ← HRR.out, ← HP.out, ← hs])
 clear hz hs
 go_enter Tryz.func89, Tryz.ntmps89
 go_wp2_with fail
 refine (rHalf_any w b F d D0.out).mono ?_
 rintro e wx ⟨rfl, hwx⟩
 rw [hwx, ← HRR.out]
 clear hwx
 go_wp2_with fail
 refine (rHalf_any w b F d D0.out).mono ?_
 rintro e wx ⟨rfl, hwx⟩
 rw [hwx, ← HRR.out]
 clear hwx
 go_wp2_with fail
 refine (docread_any w b F d _ D0.out HDO.out.ok HDO.out.few).mono ?_
 rintro e w2 ⟨rfl, b2⟩
 rw [show (d.read (P : Int)).1 = s from (slab_read d P _ (by simp)).trans HSS.out.symm]
 obtain ⟨E, hE⟩ : ∃ E, E = (d.read (P : Int)).2 := ⟨_, rfl⟩
 rw [← hE]
 have B2 := hide b2
 have KZ2 := hide (Blk.new w2 94 (enc zeroS))
 have hI := hide (isz33' s HSL.out)
 have tokA : True := trivial
 have tokB : True := trivial
 clear hE b2
 go_wp2_with (first
  | (have _t := tokA; clear _t tokA; refine wpList_alloc_agg rfl 94 rfl (enc zeroS) zero33 ?_; simp only [pU])
  | (have _t := tokB; clear _t tokB; refine wpList_store_blk rfl 94 _ _ rfl w2.heap.size 0 94 (enc zeroS) (enc s) (by rfl) (by rfl) KZ2.out (Nat.le_of_eq (by rw [enc_length, enc_length, HSL.out, zeroS_length])) hI.out (enc_one _) ?_; intro w3 o3 z3 b3; rw [lay_all _ _ (by rw [enc_length, enc_length, HSL.out, zeroS_length])] at b3; have K3 := hide b3; have B23 := hide (show Below w2.heap.size w2 w3 from Below.trans ((Below.refl _ w2).alloc (Nat.le_refl _) _) (o3.below (by simp) (fun i hi e => by have h9 : i = w2.heap.size := e; omega))); have hld := loadSlabR w3 w2.heap.size 0 s b3.whole HSL.out; clear o3 z3 b3; simp only [Act.put]))
 refine (rMark_any w3 s HSL.out HSB.out).mono ?_
 rintro e w4 ⟨rfl, b4⟩
 obtain ⟨G, hG⟩ : ∃ G, G = marked s := ⟨_, rfl⟩
 have HGG := hide hG
 rw [← hG] at HHD ⊢
 obtain ⟨v, hv⟩ : ∃ v, v = (G : Int) := ⟨_, rfl⟩
 have HV := hide hv
 rw [← hv]
 have K4 := hide (show Blk w4 w2.heap.size 94 (bcs s) from K3.out.under b4)
 have B4 := hide (Below.then_ B2.out (Below.then_ B23.out b4))
 obtain ⟨g, hg⟩ : ∃ g, g = w2.heap.size := ⟨_, rfl⟩
 rw [← hg] at K4 ⊢
 clear hld hG b4 hg hv
 by_cases hb1 : G < 1
 ·have HE := hide (show (header d half).1 = 0 by rw [HHD.out, if_pos (.inl hb1)])
  have q1 : decide (v < 1) = true := decide_eq_true (show v < 1 by have := HV.out; omega)
  clear hb1
  by_cases hb2 : mostGen < G
  ·have q2 : decide ((4611686018427387904 : Int) < v) = true := decide_eq_true (show (4611686018427387904 : Int) < v by unfold mostGen at hb2; have := HV.out; omega)
   clear hb2
   go_wp2_with fail
   refine wp_region_held_drew (S := fun w' => Below w4.heap.size w4 w') (by kernel_rfl) ((Below.refl _ w4).drew) (fun hSN0 => ?_)
   obtain ⟨w4d, hwN⟩ : ∃ x, x = w4.drew := ⟨_, rfl⟩
   rw [← hwN] at hSN0 ⊢
   clear hwN
   refine tq 0 rfl hSN0 ?_
   refine tq 1 rfl hSN0 ?_
   refine tq 2 rfl hSN0 ?_
   first | (refine tm 3 rfl hSN0 ?_) | (refine tq 3 rfl hSN0 ?_)
   first | (refine tm 4 rfl hSN0 ?_) | (refine tq 4 rfl hSN0 ?_)
   refine tq 5 rfl hSN0 ?_
   refine tq 6 rfl hSN0 ?_
   refine tm 7 rfl hSN0 ?_
   refine tm 8 rfl hSN0 ?_
   refine tm 9 rfl hSN0 ?_
   refine tm 10 rfl hSN0 ?_
   refine tm 11 rfl hSN0 ?_
   refine tq 12 rfl hSN0 ?_
   refine wpAnyH_done (by kernel_rfl) ?_ _
   go_wp2_with fail
   go_ret
   exact ⟨by rw [HE.out]; first | rfl | (rw [← HV.out]; rfl), Below.then_ B4.out (hSN0)⟩
  ·have q2 : decide ((4611686018427387904 : Int) < v) = false := decide_eq_false (show ¬ (4611686018427387904 : Int) < v by unfold mostGen at hb2; have := HV.out; omega)
   clear hb2
   go_wp2_with fail
   refine wp_region_held_drew (S := fun w' => Below w4.heap.size w4 w') (by kernel_rfl) ((Below.refl _ w4).drew) (fun hSN0 => ?_)
   obtain ⟨w4d, hwN⟩ : ∃ x, x = w4.drew := ⟨_, rfl⟩
   rw [← hwN] at hSN0 ⊢
   clear hwN
   refine tq 0 rfl hSN0 ?_
   refine tq 1 rfl hSN0 ?_
   refine tq 2 rfl hSN0 ?_
   first | (refine tm 3 rfl hSN0 ?_) | (refine tq 3 rfl hSN0 ?_)
   first | (refine tm 4 rfl hSN0 ?_) | (refine tq 4 rfl hSN0 ?_)
   refine tq 5 rfl hSN0 ?_
   refine tq 6 rfl hSN0 ?_
   refine tm 7 rfl hSN0 ?_
   refine tm 8 rfl hSN0 ?_
   refine tm 9 rfl hSN0 ?_
   refine tm 10 rfl hSN0 ?_
   refine tm 11 rfl hSN0 ?_
   refine tq 12 rfl hSN0 ?_
   refine wpAnyH_done (by kernel_rfl) ?_ _
   go_wp2_with fail
   go_ret
   exact ⟨by rw [HE.out]; first | rfl | (rw [← HV.out]; rfl), Below.then_ B4.out (hSN0)⟩
 have q1 : decide (v < 1) = false := decide_eq_false (show ¬ v < 1 by have := HV.out; omega)
 by_cases hb2 : mostGen < G
 ·have HE := hide (show (header d half).1 = 0 by rw [HHD.out, if_pos (.inr (.inl hb2))])
  have q2 : decide ((4611686018427387904 : Int) < v) = true := decide_eq_true (show (4611686018427387904 : Int) < v by unfold mostGen at hb2; have := HV.out; omega)
  clear hb1 hb2
  go_wp2_with fail
  refine wp_region_held_drew (S := fun w' => Below w4.heap.size w4 w') (by kernel_rfl) ((Below.refl _ w4).drew) (fun hSN0 => ?_)
  obtain ⟨w4d, hwN⟩ : ∃ x, x = w4.drew := ⟨_, rfl⟩
  rw [← hwN] at hSN0 ⊢
  clear hwN
  refine tq 0 rfl hSN0 ?_
  refine tq 1 rfl hSN0 ?_
  refine tq 2 rfl hSN0 ?_
  first | (refine tm 3 rfl hSN0 ?_) | (refine tq 3 rfl hSN0 ?_)
  first | (refine tm 4 rfl hSN0 ?_) | (refine tq 4 rfl hSN0 ?_)
  refine tq 5 rfl hSN0 ?_
  refine tq 6 rfl hSN0 ?_
  refine tm 7 rfl hSN0 ?_
  refine tm 8 rfl hSN0 ?_
  refine tm 9 rfl hSN0 ?_
  refine tm 10 rfl hSN0 ?_
  refine tm 11 rfl hSN0 ?_
  refine tq 12 rfl hSN0 ?_
  refine wpAnyH_done (by kernel_rfl) ?_ _
  go_wp2_with fail
  go_ret
  exact ⟨by rw [HE.out]; first | rfl | (rw [← HV.out]; rfl), Below.then_ B4.out (hSN0)⟩
 have q2 : decide ((4611686018427387904 : Int) < v) = false := decide_eq_false (show ¬ (4611686018427387904 : Int) < v by unfold mostGen at hb2; have := HV.out; omega)
 have HQ := hide (show ¬ G < 1 ∧ ¬ mostGen < G from ⟨hb1, hb2⟩)
 have HGL := hide (show (G : Int) < 18446744073709551616 by unfold mostGen at hb2; omega)
 obtain ⟨X, hX⟩ : ∃ X, X = ba (s.take 48) := ⟨_, rfl⟩
 have HX := hide hX
 clear hb1 hb2
 by_cases he : sealedB G = s.take 48
 ·have HE := hide (show (header d half).1 = G by rw [HHD.out, if_neg (by rintro (h | h | h); exact HQ.out.1 h; exact HQ.out.2 h; exact h he)])
  have HY := hide (show ba (sealedB G) = X by rw [hX, he])
  clear hX he
  go_wp2_with fail
  refine wp_region_held_drew (S := fun w' => Below w4.heap.size w4 w') (by kernel_rfl) ((Below.refl _ w4).drew) (fun hSY0 => ?_)
  obtain ⟨w4d, hwY⟩ : ∃ x, x = w4.drew := ⟨_, rfl⟩
  rw [← hwY] at hSY0 ⊢
  clear hwY
  refine tq 0 rfl hSY0 ?_
  refine tq 1 rfl hSY0 ?_
  refine tq 2 rfl hSY0 ?_
  first | (refine tm 3 rfl hSY0 ?_) | (refine tq 3 rfl hSY0 ?_)
  first | (refine tm 4 rfl hSY0 ?_) | (refine tq 4 rfl hSY0 ?_)
  refine tq 5 rfl hSY0 ?_
  refine tq 6 rfl hSY0 ?_
  refine tq 7 rfl hSY0 ?_
  (refine tq 8 rfl hSY0 ?_ (fun w' hSw => by have z8 := run_str w' (some ⟨g, 0, none⟩) 48 128 (s.take 48) (by have h9 := (K4.out.under hSw).bys HSB.out 0 48 (by rw [HSL.out]; decide); rwa [List.drop_zero] at h9); rw [← HX.out] at z8; go_simp; try with_reducible rfl))
  refine tq 9 rfl hSY0 ?_
  refine ry 10 rfl fun K hK => ?_
  go_simp
  have hh := rHeader_any w4d G HGL.out
  rw [← HV.out] at hh
  refine hh.mono ?_
  rintro e wH ⟨rfl, bH⟩
  rw [HY.out]
  have BH := hide (Below.then_ (hSY0) bH)
  clear bH hh
  go_simp
  refine hK.out _ _ (BH.out) (fun hSY1 => ?_)
  clear hK K
  refine tq 11 rfl hSY1 ?_
  refine tq 12 rfl hSY1 ?_
  refine wpAnyH_done (by kernel_rfl) ?_ _
  go_wp2_with fail
  go_ret
  exact ⟨by rw [HE.out]; first | rfl | (rw [← HV.out]; rfl), Below.then_ B4.out (hSY1)⟩
 ·have HE := hide (show (header d half).1 = 0 by rw [HHD.out, if_pos (.inr (.inr he))])
  obtain ⟨Y, hY⟩ : ∃ Y, ba (sealedB G) = Y := ⟨_, rfl⟩
  have HY := hide hY
  have hne : X.toList ≠ Y.toList := by
   rw [hX, ← hY]
   exact str_ne (fun x hx => HSB.out x (List.mem_of_mem_take hx)) (sealedB_byt G) (fun e => he e.symm)
  have hbe : (X.toList == Y.toList) = false := by simpa using hne
  clear hX he hY
  go_wp2_with fail
  refine wp_region_held_drew (S := fun w' => Below w4.heap.size w4 w') (by kernel_rfl) ((Below.refl _ w4).drew) (fun hSY0 => ?_)
  obtain ⟨w4d, hwY⟩ : ∃ x, x = w4.drew := ⟨_, rfl⟩
  rw [← hwY] at hSY0 ⊢
  clear hwY
  refine tq 0 rfl hSY0 ?_
  refine tq 1 rfl hSY0 ?_
  refine tq 2 rfl hSY0 ?_
  first | (refine tm 3 rfl hSY0 ?_) | (refine tq 3 rfl hSY0 ?_)
  first | (refine tm 4 rfl hSY0 ?_) | (refine tq 4 rfl hSY0 ?_)
  refine tq 5 rfl hSY0 ?_
  refine tq 6 rfl hSY0 ?_
  refine tq 7 rfl hSY0 ?_
  (refine tq 8 rfl hSY0 ?_ (fun w' hSw => by have z8 := run_str w' (some ⟨g, 0, none⟩) 48 128 (s.take 48) (by have h9 := (K4.out.under hSw).bys HSB.out 0 48 (by rw [HSL.out]; decide); rwa [List.drop_zero] at h9); rw [← HX.out] at z8; go_simp; try with_reducible rfl))
  refine tq 9 rfl hSY0 ?_
  refine ry 10 rfl fun K hK => ?_
  go_simp
  have hh := rHeader_any w4d G HGL.out
  rw [← HV.out] at hh
  refine hh.mono ?_
  rintro e wH ⟨rfl, bH⟩
  rw [HY.out]
  have BH := hide (Below.then_ (hSY0) bH)
  clear bH hh
  go_simp
  refine hK.out _ _ (BH.out) (fun hSY1 => ?_)
  clear hK K
  refine tq 11 rfl hSY1 ?_
  refine tq 12 rfl hSY1 ?_
  refine wpAnyH_done (by kernel_rfl) ?_ _
  go_wp2_with fail
  go_ret
  exact ⟨by rw [HE.out]; first | rfl | (rw [← HV.out]; rfl), Below.then_ B4.out (hSY1)⟩
end
end Go.Proofs.YtjnpkcabkccaoaaGreat
