/- Lemmas and walks for TableRuns, packed. -/
import Derived.Test.YtjnpkcabkccaoaaGreatQ46
set_option maxRecDepth 100000
set_option maxHeartbeats 16000000
namespace Go.Proofs.YtjnpkcabkccaoaaGreat
open Go.RowKit
theorem tbytes_right {l : List PairD} (h : (tbytes l).2 = 0) : rightB l = true := by
 unfold tbytes at h
 cases hr : rightB l with
 | true => rfl
 | false => rw [hr] at h; cases h
theorem RTabG.cells {H : Nat → Prop} {w0 W : World} {t g b : Nat} {F : Nat → Prop} {d : Dev} {T : TableD} {A : Option Addr} {k c : Nat} {xs : List PairV} (h : RTabG H w0 W t g b F d T A k c xs) :
  W.cell? ⟨t, 0, none⟩ = some (.pointer (some ⟨g, 0, none⟩)) ∧ W.cell? ⟨t, 1, none⟩ = some (.slice A k c) := ⟨h.blk.c0, h.blk.c1⟩
theorem addL_ok {d : Dev} (h : d.Ok) (l : LogD) (b : List Int) : (addL d l b).1.Ok := by
 unfold addL
 split
 ·exact h
 ·split
  ·exact h
  ·simp only
   split
   ·exact writeL_ok h _ _ _ _
   ·exact writeL_ok h _ _ _ _
def RTabPost (H : Nat → Prop) (w0 w : World) (t g b : Nat) (F : Nat → Prop) (r : Dev × TableD × Int) (e : Ending) (w' : World) : Prop :=
 e = .returned (.int .i64 r.2.2) ∧ ∃ F', RTabW H w0 w' t g b F' r.1 r.2.1 ∧ (∀ i, F' i → F i ∨ w.heap.size ≤ i) ∧ Only (fun i => F i ∨ i = g ∨ i = t) w w'
theorem rtab_same {H : Nat → Prop} {w0 w w' : World} {t g b : Nat} {F : Nat → Prop} {d : Dev} {T : TableD} {r : Dev × TableD × Int} {x : Int} {e : Ending} (h : RTabW H w0 w' t g b F d T) (hb : Below w.heap.size w w') (hr : r = (d, T, x)) (he : e = .returned (.int .i64 x)) : RTabPost H w0 w t g b F r e w' := by
 subst hr
 exact ⟨he, F, h, fun i hf => .inl hf, Only.of_below hb _⟩
theorem rApply_any (H : Nat → Prop) (w0 w : World) (t g b : Nat) (F : Nat → Prop) (d : Dev) (T : TableD) (A : Option Addr) (n c : Nat) (ys : List PairV) (hT : RTabW H w0 w t g b F d T) (hOk : T.Ok) (hdb : d.Bytes) (hdo : d.Ok) (hw : d.written.length ≤ 600000) (hX : PKeep w (fun i => F i ∨ i = g ∨ i = t ∨ H i) A n ys) (hn : n ≤ 1000000) (hs : psize (ys.map PairV.d) ≤ 10000000) (hH : ∀ i, H i → i < w.heap.size) :
  Calls Tryz.prog 11 #[.pointer (some ⟨t, 0, none⟩), .slice A n c] w (RTabPost H w0 w t g b F (applyT d T (ys.map PairV.d))) := by
 obtain ⟨A1, k1, c1, xs, hG⟩ := hT
 have HT := hide hG
 have HH := hide hH
 have OK := hide hOk
 have HDD := hide (And.intro hdb hdo)
 have HW := hide hw
 have HX := hide hX
 have HS := hide hs
 have HN := hide hn
 have n9 : (n : Int) ≤ 1000000 := by omega
 have n0 : (0 : Int) ≤ (n : Int) := by omega
 have HSM := hide (psize_small hX.in_ (by omega))
 have hby := hide (refPBytes_fr w A n c ys hX.in_ (by omega) HSM.out (by omega))
 obtain ⟨L, hL⟩ : ∃ L, L = ys.map PairV.d := ⟨_, rfl⟩
 have HL := hide hL
 have HLN := hide (show L.length = n by rw [hL, List.length_map, hX.in_.1])
 rw [← hL] at hby HS ⊢
 obtain ⟨SE, hSE⟩ := hG.log.log
 have HSE := hide hSE
 have c5 := hSE.cready
 have c0 := HT.out.cells.1
 have AQ := hide (show applyT d T L = if T.log.ready = false then (d, T, 141) else if (tbytes L).2 ≠ 0 ∨ L = [] then (d, T, (tbytes L).2) else if fitsB d (tbytes (mergeD T.pairs L)).1.length = false then (d, T, 142) else ((keepL d T.log (tbytes L).1 (tbytes (mergeD T.pairs L)).1).1, ⟨(keepL d T.log (tbytes L).1 (tbytes (mergeD T.pairs L)).1).2.1, if (keepL d T.log (tbytes L).1 (tbytes (mergeD T.pairs L)).1).2.2 = 0 then mergeD T.pairs L else T.pairs⟩, (keepL d T.log (tbytes L).1 (tbytes (mergeD T.pairs L)).1).2.2) from rfl)
 clear hG hOk hdb hdo hw hX hs hn hL hH hSE
 cases hr : T.log.ready with
 | false =>
  have Q := hide (show applyT d T L = (d, T, 141) by rw [AQ.out, if_pos hr])
  rw [hr] at c5
  clear hr
  go_enter Tryz.func11, Tryz.ntmps11
  go_wp2_with fail
  go_ret
  exact rtab_same ⟨A1, k1, c1, xs, HT.out⟩ (Below.refl _ _) Q.out rfl
 | true =>
  rw [hr] at c5
  have Q1 := hide (show applyT d T L = if (tbytes L).2 ≠ 0 ∨ L = [] then (d, T, (tbytes L).2) else if fitsB d (tbytes (mergeD T.pairs L)).1.length = false then (d, T, 142) else ((keepL d T.log (tbytes L).1 (tbytes (mergeD T.pairs L)).1).1, ⟨(keepL d T.log (tbytes L).1 (tbytes (mergeD T.pairs L)).1).2.1, if (keepL d T.log (tbytes L).1 (tbytes (mergeD T.pairs L)).1).2.2 = 0 then mergeD T.pairs L else T.pairs⟩, (keepL d T.log (tbytes L).1 (tbytes (mergeD T.pairs L)).1).2.2) by
   rw [AQ.out, if_neg (by rw [hr]; decide)])
  clear hr AQ
  have HRT := hide (@tbytes_right L)
  obtain ⟨X, er, hX⟩ : ∃ X er, tbytes L = (X, er) := ⟨_, _, rfl⟩
  have HTB := hide hX
  rw [hX] at hby Q1 HRT
  simp only at Q1 HRT
  clear hX
  go_enter Tryz.func11, Tryz.ntmps11
  go_wp2_with fail
  refine hby.out.mono ?_
  rintro e w2 ⟨A2, m2, c2', rfl, t2, f2⟩
  have F2 := hide f2
  have T2 := hide t2
  have B2 := hide t2.below
  have H2 := hide (HT.out.under t2.below)
  have X2 := hide (HX.out.under t2.below)
  have c12 := H2.out.cells.2
  clear t2 f2 hby c0 c5
  simp only
  by_cases h0 : er = 0
  ·subst h0
   have q0 : ((0 : Int) != 0) = false := rfl
   by_cases hn0 : n = 0
   ·subst hn0
    have Q := hide (show applyT d T L = (d, T, 0) by
     rw [Q1.out, if_pos (.inr (List.eq_nil_of_length_eq_zero HLN.out))])
    go_wp2_with fail
    go_ret
    exact rtab_same ⟨A1, k1, c1, xs, H2.out⟩ B2.out Q.out rfl
   ·have qn : ((n : Int) == 0) = false := by simp; omega
    have HNZ := hide (show L ≠ [] from fun e => hn0 (by rw [← HLN.out, e]; rfl))
    have HRL := hide (HRT.out rfl)
    have Q2 := hide (show applyT d T L = if fitsB d (tbytes (mergeD T.pairs L)).1.length = false then (d, T, 142) else ((keepL d T.log X (tbytes (mergeD T.pairs L)).1).1, ⟨(keepL d T.log X (tbytes (mergeD T.pairs L)).1).2.1, if (keepL d T.log X (tbytes (mergeD T.pairs L)).1).2.2 = 0 then mergeD T.pairs L else T.pairs⟩, (keepL d T.log X (tbytes (mergeD T.pairs L)).1).2.2) by
     rw [Q1.out, if_neg]
     rintro (h9 | h9)
     ·exact h9 rfl
     ·exact HNZ.out h9)
    have HK1 := hide (show k1 ≤ 300000 by
     have h7 := right_len OK.out.right
     have h8 := OK.out.size
     have h9 := congrArg List.length HT.out.data
     rw [List.length_map, HT.out.keep.in_.1] at h9
     omega)
    clear hn0 Q1 HRT
    go_wp2_with fail
    refine (refMergeP_any w2 A1 A k1 c1 n c xs ys H2.out.keep.in_ X2.out.in_ (by have := HK1.out; omega) (by have := HN.out; omega)).mono ?_
    rintro e w3 ⟨g6, k6, c6, us, rfl, hud, hrow, hmem⟩
    rw [H2.out.data, ← HL.out, merge_eq (right_sorted OK.out.right) (right_sorted HRL.out)] at hud
    have HUD := hide hud
    have HROW := hide hrow
    have B3 := hide hrow.below
    have H3 := hide (H2.out.under hrow.below)
    have HLT2 := hide (show ∀ i, F i ∨ i = g ∨ i = t ∨ H i → i < w2.heap.size from fun i hi => by
     rcases hi with hi | rfl | rfl | hi
     ·exact H2.out.log.dev.lt i hi
     ·exact H2.out.log.gl
     ·exact H2.out.blk.lt
     ·have h8 := HH.out i hi; have h9 := B2.out.size; omega)
    have HKP := hide (hrow.keep hmem (H2.out.keep.under hrow.below) (X2.out.under hrow.below) HLT2.out)
    have HK6 := hide (show k6 ≤ 2000000 by
     have h6 := merge_len T.pairs L
     have h7 := congrArg List.length hud
     rw [List.length_map, hrow.len] at h7
     have h8 := HLN.out
     have h9 := congrArg List.length HT.out.data
     rw [List.length_map, HT.out.keep.in_.1] at h9
     have := HK1.out; have := HN.out
     omega)
    have HPS := hide (show psize (mergeD T.pairs L) ≤ 20000000 by
     have h6 := merge_size T.pairs L
     have h7 := OK.out.size
     have h8 := HS.out
     omega)
    clear c12 hud hrow hmem
    have hby := hide (refPBytes_fr w3 (some ⟨g6, 0, none⟩) k6 c6 us HKP.out.in_ (by have := HK6.out; omega) (right_small HKP.out.in_ (by rw [HUD.out]; exact mergeD_right OK.out.right HRL.out)) (by rw [HUD.out]; have := HPS.out; omega))
    rw [HUD.out] at hby
    go_wp2_with fail
    refine hby.out.mono ?_
    rintro e w4 ⟨A4, m4, c4, rfl, t4, f4⟩
    have F4 := hide f4
    have T4 := hide t4
    have B4 := hide t4.below
    have H4 := hide (H3.out.under t4.below)
    have M4 := hide (show (tbytes (mergeD T.pairs L)).1.length = m4 ∧ m4 ≤ 100000000 by
     have h5 := t4.len
     have h6 := tbytes_len (mergeD T.pairs L)
     have h7 := HPS.out
     have h8 := merge_len T.pairs L
     have h9 := congrArg List.length HT.out.data
     rw [List.length_map, HT.out.keep.in_.1] at h9
     have := HK1.out; have := HN.out; have := HLN.out
     exact ⟨h5, by omega⟩)
    have B24 := hide (Below.then_ B2.out (Below.then_ B3.out B4.out))
    have US4 := hide (HKP.out.under B4.out)
    have X4 := hide (show Bys w4 A2 m2 X from (T2.out.bys.below B3.out).below B4.out)
    have NX := hide (show X.length ≤ 100000000 by
     have h6 := tbytes_len L
     have h7 := HS.out
     have h8 := HLN.out
     have h9 := HN.out
     rw [HTB.out] at h6
     have h10 : X.length ≤ 9 + psize L + 20 * L.length := h6
     omega)
    obtain ⟨W, hW⟩ : ∃ W, W = (tbytes (mergeD T.pairs L)).1 := ⟨_, rfl⟩
    have HTW := hide (show Bys w4 A4 m4 W by rw [hW]; exact t4.bys)
    rw [← hW] at Q2 M4
    have m49 : (m4 : Int) ≤ 100000000 := by have := M4.out.2; omega
    have m40 : (0 : Int) ≤ (m4 : Int) := by omega
    have hfit := hide (rFits_any w4 b F d (m4 : Int) H4.out.log.dev m40 (by omega))
    have y0 := H4.out.cells.1
    obtain ⟨S4, hS4⟩ := H4.out.log.log
    have z0 := hS4.cd
    have L4 := hide hS4
    clear t4 f4 hby hW hS4
    simp only
    go_wp2_with fail
    refine hfit.out.mono ?_
    rintro e wz ⟨rfl, hwz⟩
    rw [hwz]
    clear hfit hwz z0
    rw [M4.out.1] at Q2
    cases hf : fitsB d (m4 : Int) with
    | false =>
     have Q := hide (show applyT d T L = (d, T, 142) by rw [Q2.out, if_pos hf])
     clear hf
     go_wp2_with fail
     go_ret
     exact rtab_same ⟨A1, k1, c1, xs, H4.out⟩ B24.out Q.out rfl
    | true =>
     have Q3 := hide (show applyT d T L = ((keepL d T.log X W).1, ⟨(keepL d T.log X W).2.1, if (keepL d T.log X W).2.2 = 0 then mergeD T.pairs L else T.pairs⟩, (keepL d T.log X W).2.2) by rw [Q2.out, if_neg (by rw [hf]; decide)])
     have KE := hide (show keepL d T.log X W = if (addL d T.log X).2.2 = 0 then syncL (addL d T.log X).1 (addL d T.log X).2.1 else if (addL d T.log X).2.2 = 142 then beginL (addL d T.log X).1 (addL d T.log X).2.1 W else addL d T.log X from rfl)
     have GR := hide (addL_grew d T.log X X4.out.2.1)
     have OKA := hide (addL_ok HDD.out.2 T.log X)
     obtain ⟨d6, l6, e6, hkl⟩ : ∃ d6 l6 e6, keepL d T.log X W = (d6, l6, e6) := ⟨_, _, _, rfl⟩
     have HKL := hide hkl
     rw [hkl] at Q3
     simp only at Q3
     obtain ⟨d5, l5, e5, hal⟩ : ∃ d5 l5 e5, addL d T.log X = (d5, l5, e5) := ⟨_, _, _, rfl⟩
     have HAL := hide hal
     rw [hal] at KE GR OKA
     simp only at KE GR OKA
     have SZ4 := hide (show w.heap.size ≤ w2.heap.size ∧ w2.heap.size ≤ w4.heap.size ∧ w.heap.size ≤ w4.heap.size by have h7 := B2.out.size; have h8 := B3.out.size; have h9 := B4.out.size; omega)
     have APX := hide (show Apart A2 m2 (fun i => F i ∨ i = g) from fun _ ad e hf => by
      have h5 := F2.out ad e
      rcases hf with hf | hf
      ·have := HT.out.log.dev.lt _ hf; omega
      ·have := HT.out.log.gl; have h9 : ad.block = g := hf; omega)
     have APW := hide (show Apart A4 m4 (fun i => F i ∨ i = g) from fun _ ad e hf => by
      have h5 := F4.out ad e
      rcases hf with hf | hf
      ·have := H3.out.log.dev.lt _ hf; omega
      ·have := H3.out.log.gl; have h9 : ad.block = g := hf; omega)
     have NTG := hide (show ¬ (F t ∨ t = g) from fun hf => by
      rcases hf with hf | hf
      ·exact H4.out.nt hf
      ·exact H4.out.ne hf)
     obtain ⟨XS, hXS⟩ : ∃ S, S = ba X := ⟨_, rfl⟩
     have HXS := hide hXS
     obtain ⟨WS, hWS⟩ : ∃ S, S = ba W := ⟨_, rfl⟩
     have HWS := hide hWS
     clear hXS hWS y0
     clear hf hkl Q2 hal
     go_wp2_with fail
     refine wp_region_held_drew (S := fun w' => Only (fun i => F i ∨ i = g) w4 w') (by kernel_rfl) ((Only.refl _ _).drew) (fun hSA0 => ?_)
     obtain ⟨w4d, hwA⟩ : ∃ x, x = w4.drew := ⟨_, rfl⟩
     first | rw [← hwA] at hSA0 ⊢ | rw [← hwA]
     have BD := hide (show Below w4.heap.size w4 w4d by rw [hwA]; exact (Below.refl _ w4).drew)
     clear hwA
     refine tq 0 rfl hSA0 ?_
     refine tq 1 rfl hSA0 ?_
     refine tq 2 rfl hSA0 ?_
     (refine tq 3 rfl hSA0 ?_ (fun w' hSw => by have z3 := (hSw.blk H4.out.blk NTG.out).c0; go_simp; try with_reducible rfl))
     refine tq 4 rfl hSA0 ?_
     (refine tq 5 rfl hSA0 ?_ (fun w' hSw => by have z5 := run_str w' A2 m2 c2' X (X4.out.keep hSw APX.out); rw [← HXS.out] at z5; go_simp; try with_reducible rfl))
     refine ry 6 rfl fun K hK => ?_
     go_simp
     have hrr := rAdd_any w4d g b F d T.log S4 X (L4.out.under BD.out) (H4.out.log.dev.under BD.out) HDD.out.1 HDD.out.2 H4.out.log.ng X4.out.2.1 (by have := NX.out; omega) OK.out.log (by have := HW.out; omega)
     rw [← HXS.out, HAL.out] at hrr
     refine hrr.mono ?_
     clear hrr
     rintro e wA hp
     obtain ⟨he, F5, hL5, hF5, o5⟩ := (H4.out.log.under BD.out).post hp
     subst he
     have L5 := hide hL5
     have FF5 := hide (show ∀ i, F5 i → F i ∨ w4.heap.size ≤ i from fun i hi => by
      rcases hF5 i hi with h9 | h9
      ·exact .inl h9
      ·right; have := BD.out.size; omega)
     have O5 := hide (show Only (fun i => F i ∨ i = g) w4 wA from (Only.of_below BD.out _).trans o5 (fun _ _ h => h))
     clear hp hL5 hF5 o5
     go_simp
     refine hK.out _ _ (O5.out) (fun hSA1 => ?_)
     clear hK K
     refine tq 7 rfl hSA1 ?_
     refine wpAnyH_done (by kernel_rfl) ?_ _
     go_upto_if 61 with fail
     go_cut [6] (fun v w' => v = .int .i64 e6 ∧ ∃ F6, RLogW w0 w' g b F6 d6 l6 ∧ (∀ i, F6 i → F i ∨ w4.heap.size ≤ i) ∧ Only (fun i => F i ∨ i = g) w4 w')
     case first =>
      by_cases h5 : e5 = 0
      ·subst h5
       have KQ := hide (show syncL d5 l5 = (d6, l6, e6) by rw [← HKL.out, KE.out, if_pos rfl])
       obtain ⟨S5, hS5⟩ := L5.out.log
       have c0 := (O5.out.blk H4.out.blk NTG.out).c0
       have hsy := hide (rSync_any wA g b F5 d5 l5 S5 hS5 L5.out.dev L5.out.ng (by have := GR.out.many; have := HW.out; omega))
       rw [KQ.out] at hsy
       clear hS5
       go_wp2_with fail
       refine hsy.out.mono ?_
       rintro e w6 hp
       obtain ⟨he, F6, hL6, hF6, o6⟩ := L5.out.post hp
       subst he
       have L6 := hide hL6
       have FF6 := hide (show ∀ i, F6 i → F i ∨ w4.heap.size ≤ i from fun i hi => by
        rcases hF6 i hi with h9 | h9
        ·exact FF5.out i h9
        ·right; have := O5.out.size; omega)
       have O6 := hide (show Only (fun i => F i ∨ i = g) w4 w6 from O5.out.trans o6 (fun i hi hf => by
        rcases hf with hf | hf
        ·rcases FF5.out i hf with h9 | h9
         ·exact .inl h9
         ·omega
        ·exact .inr hf))
       clear hp hL6 hF6 o6 c0 hsy
       go_wp2_with fail
       go_meet
       case rel => exact ⟨rfl, F6, L6.out, FF6.out, O6.out⟩
      ·have q0 : (e5 == 0) = false := by simpa using h5
       by_cases h2 : e5 = 142
       ·subst h2
        have KQ := hide (show beginL d5 l5 W = (d6, l6, e6) by rw [← HKL.out, KE.out, if_neg h5, if_pos rfl])
        obtain ⟨S5, hS5⟩ := L5.out.log
        have LS5 := hide hS5
        clear h5 hS5 q0
        go_wp2_with fail
        refine wp_region_held_drew (S := fun w' => Only (fun i => F i ∨ i = g) w4 w') (by kernel_rfl) (O5.out.drew) (fun hSB0 => ?_)
        obtain ⟨wAd, hwB⟩ : ∃ x, x = wA.drew := ⟨_, rfl⟩
        first | rw [← hwB] at hSB0 ⊢ | rw [← hwB]
        have BE := hide (show Below wA.heap.size wA wAd by rw [hwB]; exact (Below.refl _ wA).drew)
        clear hwB
        refine tq 0 rfl hSB0 ?_
        refine tq 1 rfl hSB0 ?_
        refine tq 2 rfl hSB0 ?_
        (refine tq 3 rfl hSB0 ?_ (fun w' hSw => by have z3 := (hSw.blk H4.out.blk NTG.out).c0; go_simp; try with_reducible rfl))
        refine tq 4 rfl hSB0 ?_
        (refine tq 5 rfl hSB0 ?_ (fun w' hSw => by have z5 := run_str w' A4 m4 c4 W (HTW.out.keep hSw APW.out); rw [← HWS.out] at z5; go_simp; try with_reducible rfl))
        refine ry 6 rfl fun K hK => ?_
        go_simp
        have hrr := rBegin_any wAd g b F5 d5 l5 S5 W (LS5.out.under BE.out) (L5.out.dev.under BE.out) (GR.out.bytes HDD.out.1) OKA.out L5.out.ng HTW.out.2.1 (by rw [M4.out.1]; have := M4.out.2; omega) (by have := GR.out.many; have := HW.out; omega)
        rw [← HWS.out, KQ.out] at hrr
        refine hrr.mono ?_
        clear hrr
        rintro e wB hp
        obtain ⟨he, F6, hL6, hF6, o6⟩ := (L5.out.under BE.out).post hp
        subst he
        have L6 := hide hL6
        have FF6 := hide (show ∀ i, F6 i → F i ∨ w4.heap.size ≤ i from fun i hi => by
         rcases hF6 i hi with h9 | h9
         ·exact FF5.out i h9
         ·right; have := O5.out.size; have := BE.out.size; omega)
        have O6 := hide (show Only (fun i => F i ∨ i = g) w4 wB from (O5.out.trans (Only.of_below BE.out (fun _ => False)) (fun _ _ h => h.elim)).trans o6 (fun i hi hf => by
         rcases hf with hf | hf
         ·rcases FF5.out i hf with h9 | h9
          ·exact .inl h9
          ·omega
         ·exact .inr hf))
        clear hp hL6 hF6 o6
        go_simp
        refine hK.out _ _ (O6.out) (fun hSB1 => ?_)
        clear hK K
        refine tq 7 rfl hSB1 ?_
        refine wpAnyH_done (by kernel_rfl) ?_ _
        go_wp2_with fail
        go_meet
        case rel => exact ⟨rfl, F6, L6.out, FF6.out, O6.out⟩
       ·have q2 : (e5 == 142) = false := by simpa using h2
        have KQ := hide (show (d5, l5, e5) = (d6, l6, e6) by rw [← HKL.out, KE.out, if_neg h5, if_neg h2])
        clear h5 h2
        go_wp2_with fail
        go_meet
        case rel =>
         have k9 := KQ.out
         injection k9 with k1 k2
         injection k2 with k2 k3
         rw [← k1, ← k2, ← k3]
         exact ⟨rfl, F5, L5.out, FF5.out, O5.out⟩
     case rest =>
      obtain ⟨rfl, F6, hL6, hF6, o6⟩ := hcut
      have L6 := hide hL6
      have FF := hide hF6
      have O6 := hide o6
      have K6 := hide (o6.blk H4.out.blk NTG.out)
      have FW := hide (show ∀ i, F6 i → F i ∨ w.heap.size ≤ i from fun i hi => by
       rcases hF6 i hi with h9 | h9
       ·exact .inl h9
       ·right; have := SZ4.out; omega)
      have OW := hide (show Only (fun i => F i ∨ i = g ∨ i = t) w wc from (Only.of_below B24.out _).trans o6 (fun i _ hf => by
       rcases hf with hf | hf
       ·exact .inl hf
       ·exact .inr (.inl hf)))
      have NT := hide (show ¬ F6 t from fun hf => by
       rcases hF6 t hf with h9 | h9
       ·exact H4.out.nt h9
       ·have := H2.out.blk.lt; have := SZ4.out; omega)
      have HLT4 := hide (show ∀ i, i < w4.heap.size → (F6 i ∨ i = g ∨ i = t ∨ H i) → (F i ∨ i = g ∨ i = t ∨ H i) ∨ w4.heap.size ≤ i from fun i _ hf => by
       rcases hf with hf | hf
       ·rcases hF6 i hf with h9 | h9
        ·exact .inl (.inl h9)
        ·exact .inr h9
       ·exact .inl (.inr hf))
      have PK : ∀ {A' : Option Addr} {k' : Nat} {zs : List PairV}, PKeep w4 (fun i => F i ∨ i = g ∨ i = t ∨ H i) A' k' zs → PKeep wc (fun i => F6 i ∨ i = g ∨ i = t ∨ H i) A' k' zs := fun h => by
       have h9 := (h.step (Only.refl (fun i => F i ∨ i = g ∨ i = t ∨ H i) w4) (G := fun i => (F i ∨ i = g ∨ i = t ∨ H i) ∨ w4.heap.size ≤ i) fun i hi hf => by
        rcases hf with hf | hf
        ·exact hf
        ·omega)
       exact h9.step (O6.out.mono fun i _ hf => .inl (by
        rcases hf with hf | hf
        ·exact .inl hf
        ·exact .inr (.inl hf))) HLT4.out
      have PKK := hide (PK US4.out)
      have PKO := hide (PK H4.out.keep)
      clear hL6 hF6 o6 PK
      by_cases h6 : e6 = 0
      ·subst h6
       have Q := hide (show applyT d T L = (d6, ⟨l6, mergeD T.pairs L⟩, 0) by rw [Q3.out, if_pos rfl])
       have c1 := K6.out.c1
       have f1 := K6.out.frozen 1
       have O7 := hide (Only.cell1 wc t 1 (.slice (some ⟨g6, 0, none⟩) k6 c6))
       have K7 := hide (show Blk (wc.setCell ⟨t, 1, none⟩ (.slice (some ⟨g6, 0, none⟩) k6 c6)) t 57 [.pointer (some ⟨g, 0, none⟩), .slice (some ⟨g6, 0, none⟩) k6 c6] from K6.out.set_ 1 _)
       go_wp2_with fail
       go_ret
       rw [Q.out]
       obtain ⟨S6, hS6⟩ := L6.out.log
       refine ⟨rfl, F6, ⟨some ⟨g6, 0, none⟩, k6, c6, us, ⟨L6.out.dev.keep O7.out (fun i hi e => NT.out (by have h9 : i = t := e; rw [← h9]; exact hi)), ⟨S6, hS6.keep O7.out (fun e => H4.out.ne e.symm)⟩, L6.out.ng, Nat.lt_of_lt_of_le L6.out.gl O7.out.size, L6.out.g0, O7.out.under L6.out.below (fun i hi => by have h9 : i = t := hi; rw [h9]; exact H4.out.t0), L6.out.fresh⟩, K7.out, NT.out, H4.out.ne, H4.out.t0, PKK.out.step (O7.out.mono fun i _ hf => .inr (.inr (.inl hf))) (fun _ _ h => h), HUD.out, HROW.out.cap⟩, FW.out, OW.out.trans O7.out (fun i _ hf => .inr (.inr hf))⟩
      ·have q6 : (e6 == 0) = false := by simpa using h6
       have Q := hide (show applyT d T L = (d6, ⟨l6, T.pairs⟩, e6) by rw [Q3.out, if_neg h6])
       clear h6
       go_wp2_with fail
       go_ret
       rw [Q.out]
       exact ⟨rfl, F6, ⟨A1, k1, c1, xs, L6.out, K6.out, NT.out, H4.out.ne, H4.out.t0, PKO.out, H4.out.data, H4.out.cap⟩, FW.out, OW.out⟩
  ·have q0 : (er != 0) = true := by simpa using h0
   have Q := hide (show applyT d T L = (d, T, er) by rw [Q1.out, if_pos (.inl h0)])
   clear h0
   go_wp2_with fail
   go_ret
   exact rtab_same ⟨A1, k1, c1, xs, H2.out⟩ B2.out Q.out rfl
end Go.Proofs.YtjnpkcabkccaoaaGreat
