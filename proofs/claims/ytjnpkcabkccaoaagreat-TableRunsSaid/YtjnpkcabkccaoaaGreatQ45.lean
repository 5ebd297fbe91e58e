/- Lemmas and walks for TableRuns, packed. -/
import Derived.Test.YtjnpkcabkccaoaaGreatQ42
import Derived.Test.YtjnpkcabkccaoaaGreatQ29
set_option maxRecDepth 100000
set_option maxHeartbeats 16000000
namespace Go.Proofs.YtjnpkcabkccaoaaGreat
open Go.RowKit
theorem bound_drop (k : Int) (b a : List Int) : (boundB k b a).drop (b.length + 5) = sha (a ++ recB k b) := by rw [boundB, List.drop_left' (recB_len k b)]
def RLogPost (w : World) (g b : Nat) (F : Nat → Prop) (r : Dev × LogD × Int) (e : Ending) (w' : World) : Prop :=
 e = .returned (.int .i64 r.2.2) ∧ ∃ F' S', DocRep w' b F' r.1 ∧ RLogAt w' g b r.2.1 S' ∧ Only (fun i => F i ∨ i = g) w w' ∧ ∀ i, F' i → F i ∨ w.heap.size ≤ i
theorem RLogAt.unready {w : World} {g b : Nat} {l : LogD} {S : ByteArray} (h : RLogAt w g b l S) : RLogAt (w.setCell ⟨g, 5, none⟩ (.bool false)) g b { l with ready := false } S :=
 ⟨h.blk.set_ 5 _, (fun h => by cases h), h.len, h.byt, h.half, h.mark⟩
theorem DocRep.far {w : World} {g b i : Nat} {F : Nat → Prop} {d : Dev} {v : Value} (h : DocRep w b F d) (hg : ¬ F g) : DocRep (w.setCell ⟨g, i, none⟩ v) b F d :=
 h.keep (Only.cell1 w g i v) fun j hj e => hg (by have h9 : j = g := e; rw [← h9]; exact hj)
theorem rLeft_any (w : World) (g b : Nat) (F : Nat → Prop) (d : Dev) (l : LogD) (S : ByteArray) (hL : RLogAt w g b l S) (h : DocRep w b F d) (hl : l.In) :
  Calls Tryz.prog 69 #[.pointer (some ⟨g, 0, none⟩)] w fun e w' => e = .returned (.int .i64 (leftL d l)) ∧ Below w.heap.size w w' := by
 have c5 := hL.cready
 have C0 := hide hL.cd
 have C2 := hide hL.cat
 have D0 := hide h
 have HR := hide (show d.room ≤ 2048 by have := h.good.few; unfold Dev.room; omega)
 have HE := hide (show leftL d l = if l.ready then (d.room : Int) - l.at_ else 0 from rfl)
 obtain ⟨rd, hrd⟩ : ∃ v, v = l.ready := ⟨_, rfl⟩
 obtain ⟨at_, hat⟩ : ∃ v, v = l.at_ := ⟨_, rfl⟩
 obtain ⟨R, hR⟩ : ∃ v, v = d.room := ⟨_, rfl⟩
 have wl := wrap_left d.room l.at_ HR.out hl.1 (by have := hl.2; omega)
 rw [← hrd] at c5 HE
 rw [← hat] at C2 HE wl
 rw [← hR] at HE wl
 have HRR := hide hR
 clear hL h hl hrd hat hR
 cases rd with
 | false =>
  go_enter Tryz.func69, Tryz.ntmps69
  go_wp2_with fail
  go_ret
  exact ⟨by rw [HE.out]; rfl, Below.refl _ _⟩
 | true =>
  go_enter Tryz.func69, Tryz.ntmps69
  go_wp2_with fail
  refine wp_region_held_drew (S := fun w' => Below w.heap.size w w') (by kernel_rfl) (by exact (Below.refl _ _).drew) (fun hSL0 => ?_)
  obtain ⟨wd, hwL⟩ : ∃ x, x = w.drew := ⟨_, rfl⟩
  first | rw [← hwL] at hSL0 ⊢ | rw [← hwL]
  clear hwL
  refine tq 0 rfl hSL0 ?_
  refine tq 1 rfl hSL0 ?_
  refine tq 2 rfl hSL0 ?_
  (refine tq 3 rfl hSL0 ?_ (fun w' hSw => by have z3 := cell_under hSw C0.out; go_simp; try with_reducible rfl))
  refine tq 5 rfl hSL0 ?_
  refine tq 6 rfl hSL0 ?_
  refine tq 7 rfl hSL0 ?_
  (refine tq 8 rfl hSL0 ?_ (fun w' hSw => by have z8 := cell_under hSw C2.out; go_simp; try with_reducible rfl))
  refine ry 4 rfl fun K hK => ?_
  go_simp
  refine (rHalf_any wd b F d (D0.out.under (hSL0))).mono ?_
  rintro e wz ⟨rfl, hwz⟩
  rw [hwz, ← HRR.out]
  clear hwz
  go_simp
  refine hK.out _ _ (hSL0) (fun hSL1 => ?_)
  clear hK K
  refine tq 9 rfl hSL1 ?_
  refine tq 10 rfl hSL1 ?_
  refine wpAnyH_done (by kernel_rfl) ?_ _
  go_wp2_with fail
  go_ret
  exact ⟨by rw [HE.out]; rfl, hSL1⟩
theorem rSync_any (w : World) (g b : Nat) (F : Nat → Prop) (d : Dev) (l : LogD) (S : ByteArray) (hL : RLogAt w g b l S) (h : DocRep w b F d) (hgF : ¬ F g) (hw : d.written.length ≤ 1000000) :
  Calls Tryz.prog 36 #[.pointer (some ⟨g, 0, none⟩)] w (RLogPost w g b F (syncL d l)) := by
 have c5 := hL.cready
 have c0 := hL.cd
 obtain ⟨v, hv⟩ : ∃ v, v = l.ready := ⟨_, rfl⟩
 rw [← hv] at c5
 have L0 := hide hL
 have D0 := hide h
 cases v with
 | false =>
  have hs : syncL d l = (d, l, 141) := by rw [syncL, if_pos hv.symm]
  rw [hs]
  clear hL h hs hw hv
  go_enter Tryz.func36, Tryz.ntmps36
  go_wp2_with fail
  go_ret
  exact ⟨rfl, F, S, D0.out, L0.out, Only.refl _ _, fun _ h => .inl h⟩
 | true =>
  have hs : syncL d l = (d.sync.1, { l with ready := decide (d.sync.2 = 0) }, d.sync.2) := by rw [syncL, if_neg (by rw [← hv]; decide)]
  rw [hs]
  have HS := hide (docsync_any w b F d h hw)
  have HSE := hide (hL.seal_ hv.symm)
  obtain ⟨V, hV⟩ : ∃ V, V = d.sync.2 := ⟨_, rfl⟩
  obtain ⟨d', hd'⟩ : ∃ d', d' = d.sync.1 := ⟨_, rfl⟩
  rw [← hV, ← hd'] at HS ⊢
  have HGL := hide (And.intro hL.blk.lt hgF)
  clear hL h hs hw hv hV hd' hgF
  go_enter Tryz.func36, Tryz.ntmps36
  go_wp2_with fail
  refine HS.out.mono ?_
  rintro e w9 ⟨rfl, F9, h9, o9, f9⟩
  have L9 := hide (L0.out.keep o9 HGL.out.2)
  have fr := L9.out.blk.frozen 5
  have cr := L9.out.cready
  have D9 := hide h9
  have O9 := hide o9
  have F99 := hide f9
  have NG := hide (show ¬ F9 g from fun hf => by
   rcases f9 g hf with h | h
   ·exact HGL.out.2 h
   ·have := HGL.out.1; omega)
  clear h9 o9 f9 c0 c5
  go_wp2_with fail
  go_ret
  refine ⟨rfl, F9, S, D9.out.far NG.out, ⟨L9.out.blk.set_ 5 _, fun _ => HSE.out, L9.out.len, L9.out.byt, L9.out.half, L9.out.mark⟩, (O9.out.mono (fun i _ h => .inl h)).trans (Only.cell1 w9 g 5 _) (fun i _ h => .inr h), F99.out⟩
theorem rAdd_any (w : World) (g b : Nat) (F : Nat → Prop) (d : Dev) (l : LogD) (S : ByteArray) (body : List Int) (hL : RLogAt w g b l S) (h : DocRep w b F d) (hdb : d.Bytes) (hdo : d.Ok) (hgF : ¬ F g) (hB : Byt body) (hn : body.length ≤ 1000000000) (hl : l.In) (hw : d.written.length ≤ 800000) :
  Calls Tryz.prog 35 #[.pointer (some ⟨g, 0, none⟩), .string (ba body)] w (RLogPost w g b F (addL d l body)) := by
 obtain ⟨n, hn'⟩ : ∃ n : Int, n = (body.length : Int) := ⟨_, rfl⟩
 obtain ⟨X, hX⟩ : ∃ X, X = ba body := ⟨_, rfl⟩
 have xs : (X.size : Int) = n := by rw [hX, ba_size, hn']
 have HXX := hide hX
 have HNN := hide hn'
 have n0 : 0 ≤ n := by omega
 have n9 : n ≤ 1000000000 := by omega
 have L0 := hide hL
 have D0 := hide h
 have HDD := hide (And.intro hdb hdo)
 have HB := hide hB
 have HG := hide (And.intro hgF hL.blk.lt)
 have HIN := hide hl
 have HW := hide hw
 have c5 := hL.cready
 have HE := hide (show addL d l body = if l.ready = false then (d, l, 141) else if 100000 < body.length ∨ leftL d l < (slabsN body.length : Int) then (d, l, 142)
  else if (writeL d l.half l.at_ (boundB 2 body l.ward) l.mark).2 ≠ 0 then ((writeL d l.half l.at_ (boundB 2 body l.ward) l.mark).1, { l with ready := false }, (writeL d l.half l.at_ (boundB 2 body l.ward) l.mark).2)
  else ((writeL d l.half l.at_ (boundB 2 body l.ward) l.mark).1, { l with at_ := l.at_ + (slabsN body.length : Int), ward := sha (l.ward ++ recB 2 body) }, 0) from rfl)
 have HS := hide hL.seal_
 obtain ⟨rd, hrd⟩ : ∃ v, v = l.ready := ⟨_, rfl⟩
 have HRD := hide hrd
 rw [← hrd] at c5 HE HS
 rw [← hX]
 clear hX hn' hL h hdb hdo hgF hB hn hl hw hrd
 cases rd with
 | false =>
  have HQ := hide (show addL d l body = (d, l, 141) by rw [HE.out, if_pos rfl])
  clear HE HS
  go_enter Tryz.func35, Tryz.ntmps35
  go_wp2_with fail
  go_ret
  rw [HQ.out]
  exact ⟨rfl, F, S, D0.out, L0.out, Only.refl _ _, fun _ h => .inl h⟩
 | true =>
  have HE2 := hide (HE.out.trans (if_neg (by decide)))
  have HSS := hide (HS.out rfl)
  clear HE HS
  by_cases hbig : 100000 < body.length
  ·have i1 : 100000 < n := by have := HNN.out; omega
   have HQ := hide (show addL d l body = (d, l, 142) by rw [HE2.out, if_pos (.inl hbig)])
   clear hbig HE2
   go_enter Tryz.func35, Tryz.ntmps35
   go_wp2_with fail
   go_ret
   rw [HQ.out]
   exact ⟨rfl, F, S, D0.out, L0.out, Only.refl _ _, fun _ h => .inl h⟩
  ·have i1 : ¬ 100000 < n := by have := HNN.out; omega
   have HN5 := hide (show body.length ≤ 100000 by omega)
   obtain ⟨U, hU⟩ : ∃ U, U = slabsN n := ⟨_, rfl⟩
   have HU := hide hU
   have HUS := hide (show U ≤ 1000 by rw [hU, HNN.out]; exact slabsN_small _ (by omega))
   have u9 : (U : Int) ≤ 1000 := by have := HUS.out; omega
   have u0 : (0 : Int) ≤ (U : Int) := by omega
   obtain ⟨lf, hlf⟩ : ∃ v, v = leftL d l := ⟨_, rfl⟩
   have HLF := hide hlf
   clear hU hbig
   go_enter Tryz.func35, Tryz.ntmps35
   go_wp2_with fail
   refine (rSlabs_any w n n0 n9).mono ?_
   rintro e wz ⟨rfl, hwz⟩
   rw [hwz, ← HU.out]
   clear hwz
   go_wp2_with fail
   refine (rLeft_any w g b F d l S L0.out D0.out HIN.out).mono ?_
   rintro e w1 ⟨rfl, b1⟩
   rw [← HLF.out]
   have B1 := hide b1
   have L1 := hide (L0.out.under b1)
   have D1 := hide (D0.out.under b1)
   have c4 := L1.out.cseal
   clear b1 c5 hlf
   by_cases hroom : lf < (U : Int)
   ·have HQ := hide (show addL d l body = (d, l, 142) by rw [HE2.out, if_pos (.inr (by rw [← HLF.out, ← HNN.out, ← HU.out]; exact hroom))])
    have HRM := hide hroom
    clear HE2
    go_wp2_with fail
    go_ret
    rw [HQ.out]
    exact ⟨rfl, F, S, D1.out, L1.out, Only.of_below B1.out _, fun _ h => .inl h⟩
   ·have HE3 := hide (HE2.out.trans (if_neg (by rintro (h | h); have := HN5.out; omega; exact hroom (by rw [HLF.out, HU.out, HNN.out]; exact h))))
    clear HE2
    go_wp2_with fail
    clear c4 hroom
    have hrr := rRecord_any w1 2 body l.ward (by decide) HB.out L1.out.byt HN5.out (by rw [L1.out.len]; decide)
    rw [← HXX.out, ← HSS.out] at hrr
    refine hrr.mono ?_
    clear hrr
    rintro e w2 ⟨rfl, b2⟩
    obtain ⟨R, hR⟩ : ∃ R, R = boundB 2 body l.ward := ⟨_, rfl⟩
    have HR := hide hR
    have HRB := hide (show Byt R by rw [hR]; exact boundB_byt (by decide) HB.out)
    have HRL := hide (show (R.length : Int) = n + 37 by rw [hR, boundB_len, HNN.out]; simp)
    rw [← hR] at HE3 ⊢
    have L2 := hide (L1.out.under b2)
    have D2 := hide (D1.out.under b2)
    have B2 := hide (Below.then_ B1.out b2)
    obtain ⟨Y, hY⟩ : ∃ Y, Y = ba R := ⟨_, rfl⟩
    have ys : (Y.size : Int) = n + 37 := by rw [hY, ba_size, HRL.out]
    have HY := hide hY
    rw [← hY]
    clear b2 hR hY
    go_wp2_with fail
    refine wp_region_held_drew (S := fun w' => RLogAt w' g b l S) (by kernel_rfl) (L2.out.under (Below.refl _ w2).drew) (fun hSA0 => ?_)
    obtain ⟨w2d, hwA⟩ : ∃ x, x = w2.drew := ⟨_, rfl⟩
    first | rw [← hwA] at hSA0 ⊢ | rw [← hwA]
    have BD := hide (show Below w2.heap.size w2 w2d by rw [hwA]; exact (Below.refl _ w2).drew)
    clear hwA
    refine tq 0 rfl hSA0 ?_
    refine tq 1 rfl hSA0 ?_
    refine tq 2 rfl hSA0 ?_
    refine tq 3 rfl hSA0 ?_
    (refine tq 4 rfl hSA0 ?_ (fun w' hSw => by have z4 := hSw.chalf; go_simp; try with_reducible rfl))
    refine tq 5 rfl hSA0 ?_
    refine tq 6 rfl hSA0 ?_
    refine tq 7 rfl hSA0 ?_
    (refine tq 8 rfl hSA0 ?_ (fun w' hSw => by have z8 := hSw.cat; go_simp; try with_reducible rfl))
    refine tq 9 rfl hSA0 ?_
    refine tq 10 rfl hSA0 ?_
    refine tq 11 rfl hSA0 ?_
    refine tq 12 rfl hSA0 ?_
    (refine tq 13 rfl hSA0 ?_ (fun w' hSw => by have z13 := hSw.cmark; go_simp; try with_reducible rfl))
    refine ry 14 rfl fun K hK => ?_
    go_simp
    have hrr := rwrite_any w2d g b F d l S l.half l.at_ R l.mark (L2.out.under BD.out) (D2.out.under BD.out) HDD.out.1 HDD.out.2 HG.out.1 HRB.out (by have := HRL.out; have := HNN.out; have := HN5.out; omega) L2.out.half HIN.out.1 (by have := HIN.out.2; omega) L2.out.mark (by have := HW.out; omega)
    rw [← HY.out] at hrr
    refine hrr.mono ?_
    clear hrr
    rintro e wW ⟨rfl, F2, hD2, o2, hF2⟩
    have D3 := hide hD2
    have O3 := hide (show Only F w wW from ((Only.of_below B2.out F).trans (Only.of_below BD.out F) (fun _ _ h => h)).trans o2 (fun _ _ h => h))
    have L3 := hide ((L2.out.under BD.out).keep o2 HG.out.1)
    have FF := hide (show ∀ i, F2 i → F i ∨ w.heap.size ≤ i from fun i hi => by rcases hF2 i hi with h9 | h9; exact .inl h9; right; have := (Below.then_ B2.out BD.out).size; omega)
    clear hD2 o2 hF2
    go_simp
    refine hK.out _ _ (L3.out) (fun hSA1 => ?_)
    clear hK K
    refine tq 15 rfl hSA1 ?_
    refine wpAnyH_done (by kernel_rfl) ?_ _
    obtain ⟨d3, e3, he3⟩ : ∃ d3 e3, writeL d l.half l.at_ R l.mark = (d3, e3) := ⟨_, _, rfl⟩
    rw [he3] at D3 HE3 ⊢
    simp only at D3 HE3 ⊢
    clear he3
    have NG := hide (show ¬ F2 g from fun hf => by
     rcases FF.out g hf with h | h
     ·exact HG.out.1 h
     ·have := HG.out.2; omega)
    by_cases h0 : e3 = 0
    ·subst h0
     have HQ := hide (HE3.out.trans (if_neg (fun h => h rfl)))
     have wat := wrap_next l.at_ U HIN.out.1 (by have := HIN.out.2; omega) HUS.out
     have w32 : IntKind.i64.wrap (n + 37 - 32) = n + 37 - 32 := by rw [IntKind.wrap_i64]; omega
     have hsl := fun w => str_from R (body.length + 5) (by have := HRL.out; have := HNN.out; omega) w
     rw [← HY.out, show R.drop (body.length + 5) = sha (l.ward ++ recB 2 body) by rw [HR.out, bound_drop], show ((body.length + 5 : Nat) : Int) = n + 37 - 32 by rw [HNN.out]; simp; omega] at hsl
     go_wp2_with fail
     refine wp_region_held_drew (S := fun _ => True) (by kernel_rfl) (trivial) (fun hSB0 => ?_)
     obtain ⟨wWd, hwB⟩ : ∃ x, x = wW.drew := ⟨_, rfl⟩
     first | rw [← hwB] at hSB0 ⊢ | rw [← hwB]
     have BE := hide (show Below wW.heap.size wW wWd by rw [hwB]; exact (Below.refl _ wW).drew)
     have LD := hide (L3.out.under BE.out)
     clear hwB
     refine tq 0 rfl hSB0 ?_
     refine tq 1 rfl hSB0 ?_
     refine tq 2 rfl hSB0 ?_
     refine tq 4 rfl hSB0 ?_
     refine tq 5 rfl hSB0 ?_
     refine wpAnyH_ready (rs := [3, 6]) (by kernel_rfl) (by simp) ?_
     refine AllReadyH.cons rfl (fun K hK => ?_) (AllReadyH.cons rfl (fun K hK => ?_) AllReadyH.nil)
     ·have z3 := LD.out.cat
      go_simp
      clear z3
      refine hK.out _ _ (trivial) (fun hSB1 => ?_)
      clear hK K
      refine ry 6 rfl fun K hK => ?_
      go_simp
      refine (rSlabs_any wWd n n0 n9).mono ?_
      rintro e wz ⟨rfl, hwz⟩
      rw [hwz, ← HU.out]
      clear hwz
      go_simp
      refine hK.out _ _ (trivial) (fun hSB2 => ?_)
      clear hK K
      refine tq 7 rfl hSB2 ?_
      refine tq 8 rfl hSB2 ?_
      refine tq 9 rfl hSB2 ?_
      refine ry 10 rfl fun K hK => ?_
      have z10 := LD.out.cat
      have f10 := LD.out.blk.frozen 2
      go_simp
      clear z10 f10
      refine hK.out _ _ (trivial) (fun hSB3 => ?_)
      clear hK K
      refine wpAnyH_done (by kernel_rfl) ?_ _
      obtain ⟨w5, hw5⟩ : ∃ z, (wWd.setCell ⟨g, 2, none⟩ (.int .i64 (l.at_ + (U : Int)))) = z := ⟨_, rfl⟩
      rw [hw5]
      have L5 := hide (show RLogAt w5 g b { l with at_ := l.at_ + (U : Int) } S by rw [← hw5]; exact ⟨LD.out.blk.set_ 2 _, LD.out.seal_, LD.out.len, LD.out.byt, LD.out.half, LD.out.mark⟩)
      have D5 := hide (show DocRep w5 b F2 d3 by rw [← hw5]; exact (D3.out.under BE.out).far NG.out)
      have O5 := hide (show Only (fun i => F i ∨ i = g) w w5 by rw [← hw5]; exact ((O3.out.mono (fun i _ h => .inl h)).trans (Only.of_below BE.out (fun _ => False)) (fun _ _ h => h.elim)).trans (Only.cell1 wWd g 2 _) (fun i _ h => .inr h))
      have c4 := L5.out.cseal
      have f4 := L5.out.blk.frozen 4
      clear hw5
      go_wp2_with fail
      go_ret
      rw [HQ.out]
      refine ⟨rfl, F2, ba (sha (l.ward ++ recB 2 body)), D5.out.far NG.out, ⟨?_, fun _ => rfl, sha_len _, sha_byt _, L5.out.half, L5.out.mark⟩, O5.out.trans (Only.cell1 w5 g 4 _) (fun i _ h => .inr h), FF.out⟩
      have hb := L5.out.blk.set_ 4 (.string (ba (sha (l.ward ++ recB 2 body))))
      rw [HU.out, HNN.out, ← HRD.out] at hb
      exact hb
     ·go_simp
      refine (rSlabs_any wWd n n0 n9).mono ?_
      rintro e wz ⟨rfl, hwz⟩
      rw [hwz, ← HU.out]
      clear hwz
      go_simp
      refine hK.out _ _ (trivial) (fun hSB1 => ?_)
      clear hK K
      refine ry 3 rfl fun K hK => ?_
      have z3 := LD.out.cat
      go_simp
      clear z3
      refine hK.out _ _ (trivial) (fun hSB2 => ?_)
      clear hK K
      refine tq 7 rfl hSB2 ?_
      refine tq 8 rfl hSB2 ?_
      refine tq 9 rfl hSB2 ?_
      refine ry 10 rfl fun K hK => ?_
      have z10 := LD.out.cat
      have f10 := LD.out.blk.frozen 2
      go_simp
      clear z10 f10
      refine hK.out _ _ (trivial) (fun hSB3 => ?_)
      clear hK K
      refine wpAnyH_done (by kernel_rfl) ?_ _
      obtain ⟨w5, hw5⟩ : ∃ z, (wWd.setCell ⟨g, 2, none⟩ (.int .i64 (l.at_ + (U : Int)))) = z := ⟨_, rfl⟩
      rw [hw5]
      have L5 := hide (show RLogAt w5 g b { l with at_ := l.at_ + (U : Int) } S by rw [← hw5]; exact ⟨LD.out.blk.set_ 2 _, LD.out.seal_, LD.out.len, LD.out.byt, LD.out.half, LD.out.mark⟩)
      have D5 := hide (show DocRep w5 b F2 d3 by rw [← hw5]; exact (D3.out.under BE.out).far NG.out)
      have O5 := hide (show Only (fun i => F i ∨ i = g) w w5 by rw [← hw5]; exact ((O3.out.mono (fun i _ h => .inl h)).trans (Only.of_below BE.out (fun _ => False)) (fun _ _ h => h.elim)).trans (Only.cell1 wWd g 2 _) (fun i _ h => .inr h))
      have c4 := L5.out.cseal
      have f4 := L5.out.blk.frozen 4
      clear hw5
      go_wp2_with fail
      go_ret
      rw [HQ.out]
      refine ⟨rfl, F2, ba (sha (l.ward ++ recB 2 body)), D5.out.far NG.out, ⟨?_, fun _ => rfl, sha_len _, sha_byt _, L5.out.half, L5.out.mark⟩, O5.out.trans (Only.cell1 w5 g 4 _) (fun i _ h => .inr h), FF.out⟩
      have hb := L5.out.blk.set_ 4 (.string (ba (sha (l.ward ++ recB 2 body))))
      rw [HU.out, HNN.out, ← HRD.out] at hb
      exact hb
    ·have e1 : (e3 != 0) = true := by simpa using h0
     have HQ := hide (HE3.out.trans (if_pos h0))
     have f5 := L3.out.blk.frozen 5
     have c5 := L3.out.cready
     clear h0 HE3
     go_wp2_with fail
     go_ret
     rw [HQ.out]
     exact ⟨rfl, F2, S, D3.out.far NG.out, L3.out.unready, (O3.out.mono (fun i _ h => .inl h)).trans (Only.cell1 wW g 5 _) (fun i _ h => .inr h), FF.out⟩
end Go.Proofs.YtjnpkcabkccaoaaGreat
