/- Lemmas and walks for TableRuns, packed. -/
import Derived.Test.YtjnpkcabkccaoaaGreatQ42
import Derived.Test.YtjnpkcabkccaoaaGreatQ41
import Derived.Test.YtjnpkcabkccaoaaGreatQ43
import Derived.Test.YtjnpkcabkccaoaaGreatQ30
set_option maxRecDepth 100000
set_option maxHeartbeats 16000000
namespace Go.Proofs.YtjnpkcabkccaoaaGreat
open Go.RowKit
section
theorem str_bytes_cap (w : World) (bs : List Int) (hB : Byt bs) :
  ∃ w' c, (convert 9 23 (.string (ba bs))).run Tryz.prog w = .ok (.slice (some ⟨w.heap.size, 0, none⟩) bs.length c) w' ∧ Below w.heap.size w w' ∧ Bys w' (some ⟨w.heap.size, 0, none⟩) bs.length bs ∧ bs.length ≤ c := by
 obtain ⟨w', c, h1, h2, h3⟩ := str_bytes w bs hB
 refine ⟨w', c, h1, h2, h3, ?_⟩
 have hr := run_bytes_of_string (P := Tryz.prog) w 9 23 5 (ba bs) Tryz.underlying9 Tryz.underlying23 Tryz.underlying5
 rw [h1] at hr
 injection hr with e1 e2
 injection e1 with _ _ e
 rw [e]
 have := grownCap_ge w (ba bs).size 0 5
 rw [ba_size] at this ⊢
 exact this
theorem RRow.keep {w0 w' : World} {F : Nat → Prop} {A B : Option Addr} {n m g k c : Nat} {xs ys zs : List PairV} (h : RRow w0 w' g k c zs) (hm : ∀ z ∈ zs, z ∈ xs ∨ z ∈ ys) (hX : PKeep w' F A n xs) (hY : PKeep w' F B m ys) (hF : ∀ i, F i → i < w0.heap.size) : PKeep w' F (some ⟨g, 0, none⟩) k zs :=
 fun w'' ho => rowsOf h.len (fun _ _ => rfl) (ho.own h.row fun i hi hf => by have h1 := hF i hf; have h2 := (h.row.lt i hi).1; omega) fun z hz => by
  rcases hm z hz with h1 | h1
  ·exact (hX w'' ho).2.1 z h1
  ·exact (hY w'' ho).2.1 z h1
attribute [local go_sem ↓] loadPr_fold
theorem rTold_any (w : World) (b : Nat) (F : Nat → Prop) (d : Dev) (h : DocRep w b F d) (hd : DocOk d) :
  Calls Tryz.prog 17 #[.pointer (some ⟨b, 0, none⟩)] w (ToldPost w (toldT d)) := by
 have hop := hide (rOpen_any w b F d h hd)
 have HSUM := hide (openL_sum d h.good)
 have HTL := hide (show toldT d = toldL (openL d).2 from rfl)
 obtain ⟨O, hO⟩ : ∃ O, O = (openL d).2 := ⟨_, rfl⟩
 rw [← hO] at HSUM HTL
 have HO := hide hO
 clear h hd hO
 go_enter Tryz.func17, Tryz.ntmps17
 go_wp2_with fail
 refine hop.out.mono ?_
 rintro e w1 ⟨gl, S, X, R, m, c, rfl, _, _, _, b1, hcase⟩
 rw [← HO.out] at hcase ⊢
 have B1 := hide b1
 clear b1 hop HO
 cases O with
 | nil =>
  have HE := hide (show toldT d = ([], 0) from HTL.out)
  clear hcase
  go_wp2_with fail
  go_ret2
  rw [HE.out]
  exact ⟨B1.out, none, 0, 0, [], rfl, rfl, Nat.le_refl _, PKeep.nil _ _ _⟩
 | cons x bs =>
  obtain ⟨hX, hxb, hst, hmc, hm3⟩ := hcase x bs rfl
  have HR := hide hst
  have HM := hide hm3
  have m9 : (m : Int) ≤ 3000 := by omega
  have HSM := hide (show x.length ≤ 1000000000 ∧ ∀ y ∈ bs, y.length ≤ 1000000000 from ⟨by have h8 := HSUM.out; have h9 := sum_mem _ x (List.mem_cons_self (a := x) (l := bs)); omega, fun y hy => by have h8 := HSUM.out; have h9 := sum_mem _ y (List.mem_cons_of_mem x hy); omega⟩)
  obtain ⟨w2, c2, hcv, b2, y2, hc2⟩ := str_bytes_cap w1 x hxb
  obtain ⟨nx, hnx⟩ : ∃ n, n = x.length := ⟨_, rfl⟩
  rw [← hX] at hcv
  rw [← hnx] at hcv y2 hc2
  have B2 := hide b2
  have Y2 := hide y2
  have C2 := hide hc2
  have NX := hide hnx
  clear hcase hX hxb hst hmc hm3 b2 y2 hc2 hnx
  have hq : (decide (x :: bs ≠ [])) = true := rfl
  rw [hq]
  clear hq
  go_wp2_with fail
  clear hcv
  refine (refPParse_any w2 _ nx c2 x Y2.out C2.out (by rw [NX.out]; exact HSM.out.1)).mono ?_
  rintro e w3 ⟨b3, h3⟩
  have B3 := hide (Below.then_ B1.out (Below.then_ B2.out b3))
  have HR3 := hide (HR.out.below (Below.then_ B2.out b3))
  have B23 := hide (Below.then_ B2.out b3)
  clear b3
  rcases h3 with ⟨ho, rfl⟩ | ⟨A1, k1, c1, xs, ho, rfl, hkc, hk, hk1⟩
  ·have HE := hide (show toldT d = ([], 151) by rw [HTL.out, toldL_cons, ho])
   clear ho
   go_wp2_with fail
   go_ret2
   rw [HE.out]
   exact ⟨B3.out, none, 0, 0, [], rfl, rfl, Nat.le_refl _, PKeep.nil _ _ _⟩
  ·have HK := hide hk
   have HO := hide ho
   have HKC := hide hkc
   have HK1 := hide hk1
   have k9 : (k1 : Int) ≤ 1048576 := by omega
   obtain ⟨L, hL⟩ : ∃ L, L = xs.map PairV.d := ⟨_, rfl⟩
   have HL := hide hL
   clear ho hk hkc hk1 hL
   go_wp2_with fail
   go_loopw [11, 35] (fun _ i ws => ∃ j : Nat, j ≤ k1 ∧ i = .int .i64 (j : Int) ∧ goneIn L = goneIn (L.drop j) ∧ Below w3.heap.size w3 ws) (fun _ i _ => k1 - (intOf i).toNat)
   case atStart => exact ⟨0, Nat.zero_le _, rfl, rfl, Below.refl _ _⟩
   case round =>
    obtain ⟨j, hj, rfl, hgn, hbw⟩ := hrel
    obtain ⟨wo, rfl⟩ : ∃ z : World, z = wr := ⟨_, rfl⟩
    have BW := hide hbw
    have XR := hide (HK.out.under hbw).in_
    by_cases hlt : j < k1
    ·obtain ⟨pb, off, hpa, hrow⟩ := XR.out.2.2 (by omega)
     subst hpa
     obtain ⟨q, hq⟩ : ∃ q, xs[j]? = some q := ⟨_, List.getElem?_eq_getElem (by rw [XR.out.1]; exact hlt)⟩
     have HGN := hide (gone_step L j q.d (by rw [HL.out]; exact pmap_get hq) hgn)
     have hld := loadPr_run wo pb (off + j * 3) q (hrow j q hq)
     have HLT := hide hlt
     have i0 : (0 : Int) ≤ (j : Int) := by omega
     have i1 : (j : Int) < (k1 : Int) := by omega
     have tokA : True := trivial
     have tokB : True := trivial
     clear hgn hbw hq hlt hrow hj
     go_wp2_with (first
      | (have _t := tokA; clear _t tokA; refine wpList_alloc_agg rfl 59 rfl zeroPr zeroPr_info ?_; simp only [pU])
      | (have _t := tokB; clear _t tokB; refine pr_store rfl _ _ rfl wo rfl (by rfl) q (by rfl) ?_; intro w5 b5 s5 k5; have B5 := hide b5; have cg := k5.c2; clear b5 s5 k5 hld; simp only [Act.put]))
     all_goals rename_i hg
     ·have HE := hide (show toldT d = ([], 151) by
       rw [HTL.out, toldL_cons, HO.out]
       simp only
       rw [if_pos]
       rw [← HL.out, HGN.out, show q.d.gone = true from hg]
       rfl)
      go_ret2
      rw [HE.out]
      exact ⟨Below.then_ B3.out (Below.then_ BW.out B5.out), none, 0, 0, [], rfl, rfl, Nat.le_refl _, PKeep.nil _ _ _⟩
     ·have HG2 := hide (show goneIn L = goneIn (L.drop (j + 1)) by rw [HGN.out, show q.d.gone = false from hg]; rfl)
      exact ⟨⟨j + 1, by have := HLT.out; omega, by go_num, HG2.out, Below.then_ BW.out B5.out⟩, by have := HLT.out; simp [intOf]; omega⟩
    ·have HGF := hide (show goneIn L = false by
      rw [hgn, List.drop_of_length_le (by rw [HL.out, List.length_map, XR.out.1]; omega)]; rfl)
     have i1 : ¬ (j : Int) < (k1 : Int) := by omega
     have HE := hide (show toldT d = orErr (toldR (xs.map PairV.d) bs) by
      rw [HTL.out, toldL_cons, HO.out]
      simp only
      rw [if_neg (by rw [← HL.out, HGF.out]; decide)])
     obtain ⟨l0, hl0⟩ : ∃ l0, l0 = xs.map PairV.d := ⟨_, rfl⟩
     rw [← hl0] at HE
     have B0 := hide (Below.then_ B3.out BW.out)
     have HRW := hide (HR3.out.below BW.out)
     have T0 := hide (show ToldAt w wo l0 bs 0 A1 k1 c1 xs from ⟨(HK.out.under BW.out).mono fun i _ hi => by have h8 := B1.out.size; have h9 := B2.out.size; show i < w2.heap.size; omega, HKC.out, (parse_some HO.out).1, by rw [hl0]; rfl, by have := HK1.out; omega, B0.out⟩)
     clear hgn hbw hlt hj hl0
     go_wp2_with fail
     go_loopw [8, 44] (fun v i wr => ∃ (j : Nat) (A4 : Option Addr) (k c4 : Nat) (ys : List PairV), j ≤ m ∧ i = .int .i64 (j : Int) ∧ v = .slice A4 k c4 ∧ ToldAt w wr l0 bs j A4 k c4 ys ∧ Below wo.heap.size wo wr) (fun _ i _ => m - (intOf i).toNat)
     case atStart => exact ⟨0, A1, k1, c1, xs, Nat.zero_le _, rfl, rfl, T0.out, Below.refl _ _⟩
     case round =>
      clear T0
      obtain ⟨j, A4, k, c4, ys, hj, rfl, rfl, ht, hbo⟩ := hrel
      have HT := hide ht
      have BO := hide hbo
      have XR := hide (HRW.out.below hbo)
      clear ht hbo
      by_cases hlt : j < m
      ·obtain ⟨rb, ro, hra, hrc⟩ := XR.out.2.2 (by omega)
       subst hra
       obtain ⟨s, hs⟩ : ∃ s, bs[j]? = some s := ⟨_, List.getElem?_eq_getElem (by rw [XR.out.1]; exact hlt)⟩
       have hcell := hrc j s hs
       obtain ⟨w4, c6, hcv, b4, y4, hc4⟩ := str_bytes_cap wr s (XR.out.2.1 s (List.mem_of_getElem? hs))
       obtain ⟨ns, hns⟩ : ∃ n, n = s.length := ⟨_, rfl⟩
       obtain ⟨Z, hZ⟩ : ∃ Z, Z = ba s := ⟨_, rfl⟩
       rw [← hZ] at hcell hcv
       rw [← hns] at hcv y4 hc4
       have B4 := hide b4
       have Y4 := hide y4
       have C4 := hide hc4
       have NS := hide (show ns ≤ 1000000000 by rw [hns]; exact HSM.out.2 s (List.mem_of_getElem? hs))
       have HDR := hide (show bs.drop j = s :: bs.drop (j + 1) by
        obtain ⟨h8, h9⟩ := List.getElem?_eq_some_iff.1 hs
        rw [List.drop_eq_getElem_cons h8, h9])
       have HJ := hide (show j < m ∧ m ≤ 3000 from ⟨hlt, HM.out⟩)
       have i0 : (0 : Int) ≤ (j : Int) := by omega
       have i1 : (j : Int) < (m : Int) := by omega
       clear hs hrc hlt hj b4 y4 hc4 hns hZ
       go_wp2_with fail
       clear hcv hcell
       refine (refPParse_any w4 _ ns c6 s Y4.out C4.out NS.out).mono ?_
       rintro e w5 ⟨b5, h5⟩
       have B5 := hide (Below.then_ B4.out b5)
       have B45 := hide b5
       clear b5
       rcases h5 with ⟨ho, rfl⟩ | ⟨A5, k5, c5, zs, ho, rfl, hkc, hk, hk5⟩
       ·have HE2 := hide (show orErr (toldR l0 bs) = ([], 151) by rw [HT.out.eq, HDR.out, toldR, ho]; rfl)
        clear ho
        go_wp2_with fail
        go_ret2
        rw [HE.out, HE2.out]
        exact ⟨Below.then_ HT.out.below B5.out, none, 0, 0, [], rfl, rfl, Nat.le_refl _, PKeep.nil _ _ _⟩
       ·have HO5 := hide ho
        have HK5 := hide hk
        have HL5 := hide hk5
        have PS := hide (parse_some ho)
        clear ho hk hkc hk5
        have T5 := hide (HT.out.keep.under B5.out)
        have SZ := hide (show w.heap.size ≤ wr.heap.size ∧ wr.heap.size ≤ w4.heap.size ∧ w4.heap.size ≤ w5.heap.size by have h7 := HT.out.below.size; have h8 := B4.out.size; have h9 := B45.out.size; exact ⟨h7, h8, h9⟩)
        go_wp2_with fail
        refine (refMergeP_any w5 A4 A5 k c4 k5 c5 ys zs T5.out.in_ HK5.out.in_ (by have h7 := HT.out.len; have h8 := HJ.out; have h9 : (j + 1) * 1048576 ≤ 3001 * 1048576 := Nat.mul_le_mul_right _ (by omega); omega) (by have := HL5.out; omega)).mono ?_
        rintro e w6 ⟨g6, k6, c7, us, rfl, hud, hrow, hmem⟩
        rw [merge_eq (right_sorted HT.out.right) (right_sorted PS.out.1)] at hud
        have HUD := hide hud
        have HROW := hide hrow
        have HMEM := hide hmem
        clear hud hrow hmem
        go_wp2_with fail
        refine ⟨⟨j + 1, some ⟨g6, 0, none⟩, k6, c7, us, by have := HJ.out; omega, by go_num, rfl, ⟨HROW.out.keep HMEM.out (T5.out.under HROW.out.below) ((HK5.out.under HROW.out.below).mono fun i _ h9 => ?_) (fun i h9 => ?_), HROW.out.cap, by rw [HUD.out]; exact mergeD_right HT.out.right PS.out.1, ?_, ?_, Below.then_ HT.out.below (Below.then_ B5.out HROW.out.below)⟩, Below.then_ BO.out (Below.then_ B5.out HROW.out.below)⟩, by have := HJ.out; simp [intOf]; omega⟩
        ·have := SZ.out; show i < w4.heap.size; omega
        ·have := SZ.out; omega
        ·rw [HT.out.eq, HDR.out, toldR, HO5.out, HUD.out]
        ·have h7 := congrArg List.length HUD.out
         have h8 := merge_len (ys.map PairV.d) (zs.map PairV.d)
         have h9 := HT.out.len
         have h10 := HROW.out.len
         have h11 := HT.out.klen
         have h12 := HK5.out.in_.1
         have h13 := HL5.out
         rw [List.length_map] at h7
         rw [List.length_map, List.length_map] at h8
         omega
      ·have HJ := hide (show j = m by omega)
       have i1 : ¬ (j : Int) < (m : Int) := by omega
       have HE2 := hide (show orErr (toldR l0 bs) = (ys.map PairV.d, 0) by
        rw [HT.out.eq, List.drop_of_length_le (by rw [XR.out.1]; omega), toldR]; rfl)
       clear hlt hj
       go_wp2_with fail
       go_ret2
       rw [HE.out, HE2.out]
       exact ⟨HT.out.below, A4, k, c4, ys, rfl, rfl, HT.out.cap, HT.out.keep⟩
end
end Go.Proofs.YtjnpkcabkccaoaaGreat
