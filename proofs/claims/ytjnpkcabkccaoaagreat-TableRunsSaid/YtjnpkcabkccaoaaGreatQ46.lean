/- Lemmas and walks for TableRuns, packed. -/
import Derived.Test.YtjnpkcabkccaoaaGreatQ45
import Derived.Test.YtjnpkcabkccaoaaGreatQ29
import Derived.Test.YtjnpkcabkccaoaaGreatQ44
import Derived.Test.YtjnpkcabkccaoaaGreatQ31
set_option maxRecDepth 100000
set_option maxHeartbeats 16000000
namespace Go.Proofs.YtjnpkcabkccaoaaGreat
open Go.RowKit
theorem writeL_ok {d : Dev} (h : d.Ok) (half : Nat) (at_ : Int) (b : List Int) (mark : Nat) : (writeL d half at_ b mark).1.Ok := writeC_ok mark _ _ _ h
theorem RLogPost.mk {w w' : World} {g b : Nat} {F F' : Nat → Prop} {d' : Dev} {l' : LogD} {x : Int} {S' : ByteArray} {r : Dev × LogD × Int} (hr : r = (d', l', x)) (h1 : DocRep w' b F' d') (h2 : RLogAt w' g b l' S') (h3 : Only (fun i => F i ∨ i = g) w w') (h4 : ∀ i, F' i → F i ∨ w.heap.size ≤ i) : RLogPost w g b F r (.returned (.int .i64 x)) w' := by
 subst hr
 exact ⟨rfl, F', S', h1, h2, h3, h4⟩
theorem rBegin_any (w : World) (g b : Nat) (F : Nat → Prop) (d : Dev) (l : LogD) (S : ByteArray) (body : List Int) (hL : RLogAt w g b l S) (h : DocRep w b F d) (hdb : d.Bytes) (hdo : d.Ok) (hgF : ¬ F g) (hB : Byt body) (hn : body.length ≤ 1000000000) (hw : d.written.length ≤ 700000) :
  Calls Tryz.prog 29 #[.pointer (some ⟨g, 0, none⟩), .string (ba body)] w (RLogPost w g b F (beginL d l body)) := by
 obtain ⟨n, hn'⟩ : ∃ n : Int, n = (body.length : Int) := ⟨_, rfl⟩
 obtain ⟨X, hX⟩ : ∃ X, X = ba body := ⟨_, rfl⟩
 have xs : (X.size : Int) = n := by rw [hX, ba_size, hn']
 have HXX := hide hX
 have HNN := hide hn'
 have n0 : 0 ≤ n := by omega
 have n9 : n ≤ 1000000000 := by omega
 have L0 := hide hL
 have D0 := hide h
 have HDD := hide (And.intro hdb hdo)
 have HB := hide hB
 have HG := hide (And.intro hgF hL.blk.lt)
 have HW := hide hw
 have c0 := hL.cd
 have HTOP := hide (rTop_any w b F d h ⟨hdo, by omega, hdb⟩)
 obtain ⟨M, hM⟩ : ∃ M : Int, M = (topL d : Int) := ⟨_, rfl⟩
 have HM := hide hM
 rw [← hM] at HTOP
 have m0 : 0 ≤ M := by omega
 rw [← hX]
 clear hX hn' hL h hdb hdo hgF hB hn hw hM
 go_enter Tryz.func29, Tryz.ntmps29
 go_wp2_with fail
 refine HTOP.out.mono ?_
 rintro e w1 ⟨rfl, b1⟩
 have B1 := hide b1
 have L1 := hide (L0.out.under b1)
 have D1 := hide (D0.out.under b1)
 have c1 := L1.out.cd
 clear b1 c0 HTOP
 go_wp2_with fail
 refine (rFits_any w1 b F d n D1.out n0 n9).mono ?_
 rintro e wz ⟨rfl, hwz⟩
 rw [hwz]
 clear hwz
 obtain ⟨f, hf⟩ : ∃ f, f = fitsB d n := ⟨_, rfl⟩
 have HF := hide hf
 rw [← hf]
 clear hf
 by_cases hc : f = false ∨ 4611686018427387904 ≤ M
 ·have HQ := hide (show beginL d l body = (d, l, 142) by
   unfold beginL
   rw [if_pos]
   rcases hc with hc | hc
   ·exact .inl (by rw [← HNN.out, ← HF.out]; exact hc)
   ·exact .inr (by have := HM.out; unfold mostGen; omega))
  cases f with
  | false =>
   go_wp2_with fail
   go_ret
   exact RLogPost.mk HQ.out D1.out L1.out (Only.of_below B1.out _) fun _ h => .inl h
  | true =>
   have hM9 : 4611686018427387904 ≤ M := by simpa using hc
   clear hc
   go_wp2_with fail
   go_ret
   exact RLogPost.mk HQ.out D1.out L1.out (Only.of_below B1.out _) fun _ h => .inl h
 ·have hft : f = true := by
   cases f with
   | true => rfl
   | false => exact absurd (.inl rfl) hc
  have hM9 : ¬ 4611686018427387904 ≤ M := fun h => hc (.inr h)
  have HFY := hide (show fitsB d body.length = true by rw [← HNN.out, ← HF.out]; exact hft)
  have HN5 := hide (show body.length ≤ 100000 from (fits_room HFY.out).1)
  obtain ⟨G, hG⟩ : ∃ G, G = topL d + 1 := ⟨_, rfl⟩
  obtain ⟨h1, hh1⟩ : ∃ h1, h1 = 1 - l.half := ⟨_, rfl⟩
  have HBE := hide (show beginL d l body = if (writeL d h1 0 (sealedB G) G).2 ≠ 0 then ((writeL d h1 0 (sealedB G) G).1, { l with ready := false }, (writeL d h1 0 (sealedB G) G).2)
   else if (writeL (writeL d h1 0 (sealedB G) G).1 h1 1 (boundB 1 body (sealB G)) G).2 ≠ 0 then ((writeL (writeL d h1 0 (sealedB G) G).1 h1 1 (boundB 1 body (sealB G)) G).1, { l with ready := false }, (writeL (writeL d h1 0 (sealedB G) G).1 h1 1 (boundB 1 body (sealB G)) G).2)
   else if (writeL (writeL d h1 0 (sealedB G) G).1 h1 1 (boundB 1 body (sealB G)) G).1.sync.2 ≠ 0 then ((writeL (writeL d h1 0 (sealedB G) G).1 h1 1 (boundB 1 body (sealB G)) G).1.sync.1, { l with ready := false }, (writeL (writeL d h1 0 (sealedB G) G).1 h1 1 (boundB 1 body (sealB G)) G).1.sync.2)
   else ((writeL (writeL d h1 0 (sealedB G) G).1 h1 1 (boundB 1 body (sealB G)) G).1.sync.1, ⟨h1, 1 + (slabsN body.length : Int), G, sha (sealB G ++ recB 1 body), true⟩, 0) by
   unfold beginL
   rw [if_neg, hG, hh1]
   rintro (h9 | h9)
   ·rw [HFY.out] at h9; cases h9
   ·have := HM.out; unfold mostGen at h9; omega)
  have wG : IntKind.u64.wrap (M + 1) = (G : Int) := by rw [IntKind.wrap_u64, hG]; have := HM.out; omega
  have HGG := hide (show (G : Int) < 18446744073709551616 by rw [hG]; have := HM.out; omega)
  have wh := wrap_other l.half h1 L1.out.half hh1
  have HH1 := hide (show h1 ≤ 1 by omega)
  obtain ⟨w2, hw2⟩ : ∃ z, w1.setCell ⟨g, 5, none⟩ (.bool false) = z := ⟨_, rfl⟩
  have L2 := hide (show RLogAt w2 g b { l with ready := false } S by rw [← hw2]; exact L1.out.unready)
  have D2 := hide (show DocRep w2 b F d by rw [← hw2]; exact D1.out.far HG.out.1)
  have O2 := hide (show Only (fun i => F i ∨ i = g) w w2 by rw [← hw2]; exact (Only.of_below B1.out _).trans (Only.cell1 w1 g 5 _) (fun i _ h => .inr h))
  have f5 := L1.out.blk.frozen 5
  have c5 := L1.out.cready
  have qM : decide ((4611686018427387904 : Int) ≤ M) = false := decide_eq_false hM9
  subst hft
  clear hc hG hh1 hM9
  go_wp2_with fail
  try rw [hw2]
  clear hw2 f5 c5 c1
  refine (rHeader_any w2 G HGG.out).mono ?_
  rintro e w3 ⟨rfl, b3⟩
  obtain ⟨HD, hHD⟩ : ∃ S, S = ba (sealedB G) := ⟨_, rfl⟩
  have HHD := hide hHD
  have hsl := str_from (sealedB G) 16 (by rw [sealedB_len]; omega) w3
  rw [sealed_drop, ← hHD] at hsl
  have hsl2 : (Instr.slice 9 (.string HD) (some (.int .i64 16)) none none).run Tryz.prog w3 = .ok (.string (ba (sealB G))) w3 := hsl
  have B3 := hide b3
  have L3 := hide (L2.out.under b3)
  have D3 := hide (D2.out.under b3)
  rw [← hHD]
  clear hsl hHD b3
  go_wp2_with fail
  clear hsl2
  have hrr := rRecord_any w3 1 body (sealB G) (by decide) HB.out (sha_byt _) HN5.out (by rw [sealB, sha_len]; decide)
  rw [← HXX.out] at hrr
  refine hrr.mono ?_
  clear hrr
  rintro e w4 ⟨rfl, b4⟩
  obtain ⟨R, hR⟩ : ∃ R, R = boundB 1 body (sealB G) := ⟨_, rfl⟩
  have HR := hide hR
  have HRB := hide (show Byt R by rw [hR]; exact boundB_byt (by decide) HB.out)
  have HRL := hide (show (R.length : Int) = n + 37 by rw [hR, boundB_len, HNN.out]; simp)
  rw [← hR] at HBE ⊢
  obtain ⟨Y, hY⟩ : ∃ Y, Y = ba R := ⟨_, rfl⟩
  have ys : (Y.size : Int) = n + 37 := by rw [hY, ba_size, HRL.out]
  have HY := hide hY
  rw [← hY]
  have L4 := hide (L3.out.under b4)
  have D4 := hide (D3.out.under b4)
  have O4 := hide (show Only (fun i => F i ∨ i = g) w w4 from (O2.out.trans (Only.of_below B3.out (fun _ => False)) (fun _ _ h => h.elim)).trans (Only.of_below b4 (fun _ => False)) (fun _ _ h => h.elim))
  have c1 := L4.out.chalf
  clear b4 hR hY
  go_wp2_with fail
  have hrr := rwrite_any w4 g b F d { l with ready := false } S h1 0 (sealedB G) G L4.out D4.out HDD.out.1 HDD.out.2 HG.out.1 (sealedB_byt G) (by rw [sealedB_len]; decide) HH1.out (Int.le_refl 0) (by decide) (by have := HGG.out; omega) (by have := HW.out; omega)
  rw [← HHD.out] at hrr
  refine hrr.mono ?_
  clear hrr c1
  have GR1 := hide (writeL_grew d h1 0 (sealedB G) G (sealedB_byt G) (by rw [sealedB_len]; decide))
  have OK1 := hide (writeL_ok HDD.out.2 h1 0 (sealedB G) G)
  obtain ⟨d1, e1, he1⟩ : ∃ d1 e1, writeL d h1 0 (sealedB G) G = (d1, e1) := ⟨_, _, rfl⟩
  rw [he1] at HBE GR1 OK1 ⊢
  simp only at HBE GR1 OK1 ⊢
  rintro e w5 ⟨rfl, F5, hD5, o5, hF5⟩
  have D5 := hide hD5
  have L5 := hide (L4.out.keep o5 HG.out.1)
  have O5 := hide (show Only (fun i => F i ∨ i = g) w w5 from O4.out.trans o5 (fun i _ h => .inl h))
  have FF5 := hide (show ∀ i, F5 i → F i ∨ w.heap.size ≤ i from fun i hi => by
   rcases hF5 i hi with h9 | h9
   ·exact .inl h9
   ·right; have := O4.out.size; omega)
  have NG5 := hide (show ¬ F5 g from fun hf => by
   rcases FF5.out g hf with h9 | h9
   ·exact HG.out.1 h9
   ·have := HG.out.2; omega)
  clear hD5 o5 hF5 he1
  by_cases h0 : e1 = 0
  ·subst h0
   have HB2 := hide (HBE.out.trans (if_neg (fun h => h rfl)))
   have c1 := L5.out.chalf
   clear HBE
   go_wp2_with fail
   have hrr := rwrite_any w5 g b F5 d1 { l with ready := false } S h1 1 R G L5.out D5.out (GR1.out.bytes HDD.out.1) OK1.out NG5.out HRB.out (by have := HRL.out; have := HNN.out; have := HN5.out; omega) HH1.out (by decide) (by decide) (by have := HGG.out; omega) (by have := HW.out; have := GR1.out.many; omega)
   rw [← HY.out] at hrr
   refine hrr.mono ?_
   clear hrr c1
   have GR2 := hide (writeL_grew d1 h1 1 R G HRB.out (by have := HRL.out; have := HNN.out; have := HN5.out; omega))
   obtain ⟨d2, e2, he2⟩ : ∃ d2 e2, writeL d1 h1 1 R G = (d2, e2) := ⟨_, _, rfl⟩
   rw [he2] at HB2 GR2 ⊢
   simp only at HB2 GR2 ⊢
   rintro e w6 ⟨rfl, F6, hD6, o6, hF6⟩
   have D6 := hide hD6
   have L6 := hide (L5.out.keep o6 NG5.out)
   have O6 := hide (show Only (fun i => F i ∨ i = g) w w6 from O5.out.trans o6 (fun i hi h => by
    rcases FF5.out i h with h9 | h9
    ·exact .inl h9
    ·omega))
   have FF6 := hide (show ∀ i, F6 i → F i ∨ w.heap.size ≤ i from fun i hi => by
    rcases hF6 i hi with h9 | h9
    ·exact FF5.out i h9
    ·right; have := O5.out.size; omega)
   have NG6 := hide (show ¬ F6 g from fun hf => by
    rcases FF6.out g hf with h9 | h9
    ·exact HG.out.1 h9
    ·have := HG.out.2; omega)
   clear hD6 o6 hF6 he2
   by_cases h0 : e2 = 0
   ·subst h0
    have HB3 := hide (HB2.out.trans (if_neg (fun h => h rfl)))
    have c0 := L6.out.cd
    clear HB2
    go_wp2_with fail
    clear c0
    refine (docsync_any w6 b F6 d2 D6.out (by have := HW.out; have := GR1.out.many; have := GR2.out.many; omega)).mono ?_
    obtain ⟨d3, e3, he3⟩ : ∃ d3 e3, d2.sync = (d3, e3) := ⟨_, _, rfl⟩
    rw [he3] at HB3 ⊢
    simp only at HB3 ⊢
    rintro e w7 ⟨rfl, F7, hD7, o7, hF7⟩
    have D7 := hide hD7
    have L7 := hide (L6.out.keep o7 NG6.out)
    have O7 := hide (show Only (fun i => F i ∨ i = g) w w7 from O6.out.trans o7 (fun i hi h => by
     rcases FF6.out i h with h9 | h9
     ·exact .inl h9
     ·omega))
    have FF7 := hide (show ∀ i, F7 i → F i ∨ w.heap.size ≤ i from fun i hi => by
     rcases hF7 i hi with h9 | h9
     ·exact FF6.out i h9
     ·right; have := O6.out.size; omega)
    have NG7 := hide (show ¬ F7 g from fun hf => by
     rcases FF7.out g hf with h9 | h9
     ·exact HG.out.1 h9
     ·have := HG.out.2; omega)
    clear hD7 o7 hF7 he3
    by_cases h0 : e3 = 0
    ·subst h0
     have HB4 := hide (HB3.out.trans (if_neg (fun h => h rfl)))
     have c1 := L7.out.chalf
     have f1 := L7.out.blk.frozen 1
     obtain ⟨U, hU⟩ : ∃ U, U = slabsN n := ⟨_, rfl⟩
     have HU := hide hU
     have HUS := hide (show U ≤ 1000 by rw [hU, HNN.out]; exact slabsN_small _ HN5.out)
     have wU : IntKind.i64.wrap (1 + (U : Int)) = 1 + (U : Int) := by rw [IntKind.wrap_i64]; have := HUS.out; omega
     have w32 : IntKind.i64.wrap (n + 37 - 32) = n + 37 - 32 := by rw [IntKind.wrap_i64]; omega
     have hsl := fun w => str_from R (body.length + 5) (by have := HRL.out; have := HNN.out; omega) w
     rw [← HY.out, show R.drop (body.length + 5) = sha (sealB G ++ recB 1 body) by rw [HR.out, bound_drop], show ((body.length + 5 : Nat) : Int) = n + 37 - 32 by rw [HNN.out]; simp; omega] at hsl
     obtain ⟨Z, hZ⟩ : ∃ Z, Z = ba (sha (sealB G ++ recB 1 body)) := ⟨_, rfl⟩
     have HZ := hide hZ
     rw [← hZ] at hsl
     have step : ∀ (W : World) (cs : List Value) (i : Nat) (v : Value), Blk W g 65 cs ∧ DocRep W b F7 d3 ∧ Only (fun i => F i ∨ i = g) w W → Blk (W.setCell ⟨g, i, none⟩ v) g 65 (cs.set i v) ∧ DocRep (W.setCell ⟨g, i, none⟩ v) b F7 d3 ∧ Only (fun i => F i ∨ i = g) w (W.setCell ⟨g, i, none⟩ v) := fun W cs i v h =>
      ⟨h.1.set_ i v, h.2.1.far NG7.out, h.2.2.trans (Only.cell1 W g i v) (fun i _ h => .inr h)⟩
     have S8 := step w7 _ 1 (.int .i64 (h1 : Int)) ⟨L7.out.blk, D7.out, O7.out⟩
     obtain ⟨w8, hw8⟩ : ∃ z, w7.setCell ⟨g, 1, none⟩ (.int .i64 (h1 : Int)) = z := ⟨_, rfl⟩
     rw [hw8] at S8
     have S9 := step w8 _ 2 (.int .i64 (1 + (U : Int))) S8
     obtain ⟨w9, hw9⟩ : ∃ z, w8.setCell ⟨g, 2, none⟩ (.int .i64 (1 + (U : Int))) = z := ⟨_, rfl⟩
     rw [hw9] at S9
     have S10 := step w9 _ 3 (.int .u64 (G : Int)) S9
     obtain ⟨w10, hw10⟩ : ∃ z, w9.setCell ⟨g, 3, none⟩ (.int .u64 (G : Int)) = z := ⟨_, rfl⟩
     rw [hw10] at S10
     have S11 := step w10 _ 4 (.string Z) S10
     obtain ⟨w11, hw11⟩ : ∃ z, w10.setCell ⟨g, 4, none⟩ (.string Z) = z := ⟨_, rfl⟩
     rw [hw11] at S11
     have S12 := step w11 _ 5 (.bool true) S11
     have t2 : w8.cell? ⟨g, 2, none⟩ = some (.int .i64 l.at_) := (S8.1.cell 2).trans rfl
     have t3 : w9.cell? ⟨g, 3, none⟩ = some (.int .u64 (l.mark : Int)) := (S9.1.cell 3).trans rfl
     have t4 : w10.cell? ⟨g, 4, none⟩ = some (.string S) := (S10.1.cell 4).trans rfl
     have t5 : w11.cell? ⟨g, 5, none⟩ = some (.bool false) := (S11.1.cell 5).trans rfl
     have f2 := S8.1.frozen 2
     have f3 := S9.1.frozen 3
     have f4 := S10.1.frozen 4
     have f5 := S11.1.frozen 5
     have HS12 := hide S12
     clear step S8 S9 S10 S11 S12 hU hZ HB3
     go_wp2_with fail
     refine (rSlabs_any w8 n n0 n9).mono ?_
     rintro e wz ⟨rfl, hwz⟩
     rw [hwz, ← HU.out]
     clear hwz
     go_wp2_with fail
     go_ret
     refine RLogPost.mk HB4.out HS12.out.2.1 ⟨?_, fun _ => HZ.out, sha_len _, sha_byt _, HH1.out, by have := HGG.out; show G < _; omega⟩ HS12.out.2.2 FF7.out
     have hb := HS12.out.1
     rw [HU.out, HNN.out] at hb
     exact hb
    ·have q3 : (e3 == 0) = false := by simpa using h0
     have HQ := hide (HB3.out.trans (if_pos h0))
     clear h0 HB3
     go_wp2_with fail
     go_ret
     exact RLogPost.mk HQ.out D7.out L7.out O7.out FF7.out
   ·have q2 : (e2 == 0) = false := by simpa using h0
    have HQ := hide (HB2.out.trans (if_pos h0))
    clear h0 HB2
    go_wp2_with fail
    go_ret
    exact RLogPost.mk HQ.out D6.out L6.out O6.out FF6.out
  ·have q1 : (e1 == 0) = false := by simpa using h0
   have HQ := hide (HBE.out.trans (if_pos h0))
   clear h0 HBE
   go_wp2_with fail
   go_ret
   exact RLogPost.mk HQ.out D5.out L5.out O5.out FF5.out
section
structure RLogW (w0 W : World) (g b : Nat) (F : Nat → Prop) (d : Dev) (l : LogD) : Prop where
 dev : DocRep W b F d
 log : ∃ S, RLogAt W g b l S
 ng : ¬ F g
 gl : g < W.heap.size
 g0 : w0.heap.size ≤ g
 below : Below w0.heap.size w0 W
 fresh : ∀ i, F i → w0.heap.size ≤ i
theorem RLogW.under {w0 W W' : World} {g b : Nat} {F : Nat → Prop} {d : Dev} {l : LogD} (h : RLogW w0 W g b F d l) (hb : Below W.heap.size W W') : RLogW w0 W' g b F d l :=
 ⟨h.dev.under hb, h.log.imp fun _ h => h.under hb, h.ng, Nat.lt_of_lt_of_le h.gl hb.size, h.g0, Below.then_ h.below hb, h.fresh⟩
theorem RLogW.post {w0 W W' : World} {g b : Nat} {F : Nat → Prop} {d : Dev} {l : LogD} {r : Dev × LogD × Int} {e : Ending} (h : RLogW w0 W g b F d l) (hp : RLogPost W g b F r e W') :
  e = .returned (.int .i64 r.2.2) ∧ ∃ F', RLogW w0 W' g b F' r.1 r.2.1 ∧ (∀ i, F' i → F i ∨ W.heap.size ≤ i) ∧ Only (fun i => F i ∨ i = g) W W' := by
 obtain ⟨h1, F', S', h2, h3, h4, h5⟩ := hp
 refine ⟨h1, F', ⟨h2, ⟨S', h3⟩, fun hf => ?_, Nat.lt_of_lt_of_le h.gl h4.size, h.g0, h4.under h.below fun i hi => ?_, fun i hi => ?_⟩, h5, h4⟩
 ·rcases h5 g hf with h9 | h9
  ·exact h.ng h9
  ·have := h.gl; omega
 ·rcases hi with hi | hi
  ·exact h.fresh i hi
  ·have := h.g0; omega
 ·rcases h5 i hi with h9 | h9
  ·exact h.fresh i h9
  ·have := h.below.size; omega
structure RTabG (H : Nat → Prop) (w0 W : World) (t g b : Nat) (F : Nat → Prop) (d : Dev) (T : TableD) (A : Option Addr) (k c : Nat) (xs : List PairV) : Prop where
 log : RLogW w0 W g b F d T.log
 blk : Blk W t 57 [.pointer (some ⟨g, 0, none⟩), .slice A k c]
 nt : ¬ F t
 ne : t ≠ g
 t0 : w0.heap.size ≤ t
 keep : PKeep W (fun i => F i ∨ i = g ∨ i = t ∨ H i) A k xs
 data : xs.map PairV.d = T.pairs
 cap : k ≤ c
def RTabW (H : Nat → Prop) (w0 W : World) (t g b : Nat) (F : Nat → Prop) (d : Dev) (T : TableD) : Prop := ∃ (A : Option Addr) (k c : Nat) (xs : List PairV), RTabG H w0 W t g b F d T A k c xs
theorem RTabG.under {H : Nat → Prop} {w0 W W' : World} {t g b : Nat} {F : Nat → Prop} {d : Dev} {T : TableD} {A : Option Addr} {k c : Nat} {xs : List PairV} (h : RTabG H w0 W t g b F d T A k c xs) (hb : Below W.heap.size W W') : RTabG H w0 W' t g b F d T A k c xs :=
 ⟨h.log.under hb, h.blk.under hb, h.nt, h.ne, h.t0, h.keep.under hb, h.data, h.cap⟩
theorem RTabW.under {H : Nat → Prop} {w0 W W' : World} {t g b : Nat} {F : Nat → Prop} {d : Dev} {T : TableD} (h : RTabW H w0 W t g b F d T) (hb : Below W.heap.size W W') : RTabW H w0 W' t g b F d T := by
 obtain ⟨A, k, c, xs, h⟩ := h
 exact ⟨A, k, c, xs, h.under hb⟩
theorem RTabW.other {H H' K : Nat → Prop} {w0 W W' : World} {t g b : Nat} {F : Nat → Prop} {d : Dev} {T : TableD} (h : RTabW H w0 W t g b F d T) (ho : Only K W W') (hK : ∀ i, K i → H i ∧ ¬ F i ∧ i ≠ g ∧ i ≠ t ∧ w0.heap.size ≤ i) (hH : ∀ i, i < W.heap.size → H' i → H i) : RTabW H' w0 W' t g b F d T := by
 obtain ⟨A, k, c, xs, h⟩ := h
 obtain ⟨S, hs⟩ := h.log.log
 exact ⟨A, k, c, xs, ⟨h.log.dev.keep ho fun i hi hk => (hK i hk).2.1 hi, ⟨S, hs.keep ho fun hk => (hK _ hk).2.2.1 rfl⟩, h.log.ng, Nat.lt_of_lt_of_le h.log.gl ho.size, h.log.g0, ho.under h.log.below fun i hi => (hK i hi).2.2.2.2, h.log.fresh⟩, ho.blk h.blk fun hk => (hK _ hk).2.2.2.1 rfl, h.nt, h.ne, h.t0,
  h.keep.step (ho.mono fun i _ hk => .inr (.inr (.inr (hK i hk).1))) (fun i hi hf => by
   rcases hf with hf | hf | hf | hf
   ·exact .inl hf
   ·exact .inr (.inl hf)
   ·exact .inr (.inr (.inl hf))
   ·exact .inr (.inr (.inr (hH i hi hf)))), h.data, h.cap⟩
def RTOpenPost (H : Nat → Prop) (w0 w : World) (b : Nat) (F : Nat → Prop) (r : Dev × Option TableD × Int) (e : Ending) (w' : World) : Prop :=
 ∃ F', DocRep w' b F' r.1 ∧ (∀ i, F' i → F i ∨ w.heap.size ≤ i) ∧ Only F w w' ∧ ((r.2.1 = none ∧ e = .returned (.tuple #[.pointer none, .int .i64 r.2.2])) ∨
  ∃ (T : TableD) (t g : Nat), r.2.1 = some T ∧ e = .returned (.tuple #[.pointer (some ⟨t, 0, none⟩), .int .i64 r.2.2]) ∧ w.heap.size ≤ t ∧ w.heap.size ≤ g ∧ RTabW H w0 w' t g b F' r.1 T)
def mkRT (parts : Array (Nat × Value)) : Sem Value := Instr.build 57 parts
theorem mkRT_fold (parts : Array (Nat × Value)) : Instr.build 57 parts = mkRT parts := rfl
theorem mkRT_run (w : World) (g : Nat) (A : Option Addr) (k c : Nat) : (mkRT #[(0, .pointer (some ⟨g, 0, none⟩)), (1, .slice A k c)]).run Tryz.prog w = .ok (.agg #[.pointer (some ⟨g, 0, none⟩), .slice A k c]) w :=
 run_build_pair (P := Tryz.prog) 57 _ _ 1 Tryz.underlying57 rfl rfl (by kernel_rfl) (by kernel_rfl) (by kernel_rfl) (.pointer (some ⟨g, 0, none⟩)) rfl [.slice A k c] rfl w
attribute [local go_sem ↓] mkRT_fold
theorem rTOpen_any (H : Nat → Prop) (w0 w : World) (b : Nat) (F : Nat → Prop) (d : Dev) (h : DocRep w b F d) (hd : DocOk d) (hw : d.written.length ≤ 600000) (hbw : Below w0.heap.size w0 w) (hF : ∀ i, F i → w0.heap.size ≤ i) (hH : ∀ i, H i → i < w.heap.size) :
  Calls Tryz.prog 8 #[.pointer (some ⟨b, 0, none⟩)] w (fun e w' => RTOpenPost H w0 w b F (openT d) e w' ∧ Byts (toldT d).1) := by
 have hr := hide (rTold_any w b F d h hd)
 have D0 := hide h
 have HDO := hide hd
 have HW := hide hw
 have HBW := hide hbw
 have HF := hide hF
 have HH := hide hH
 have HFL := hide h.lt
 have HTS := hide (toldT_some d h.good)
 clear h hd hw hbw hF hH
 go_enter Tryz.func8, Tryz.ntmps8
 go_wp2_with fail
 refine hr.out.mono ?_
 rintro e w1 ⟨b1, A, k, c, xs, rfl, hx, hkc, hk⟩
 have HX := hide hx
 have HKC := hide hkc
 have HK := hide hk
 have HBT := hide (show Byts (toldT d).1 by rw [← hx]; exact pairs_byts hk.in_)
 have B1 := hide b1
 have D1 := hide (D0.out.under b1)
 obtain ⟨L, er, hte⟩ : ∃ L er, toldT d = (L, er) := ⟨_, _, rfl⟩
 have HTE := hide hte
 rw [hte] at HTS HX ⊢
 clear hr hx hkc hk b1 hte
 simp only
 by_cases h0 : er = 0
 ·subst h0
  have e1 : ((0 : Int) != 0) = false := rfl
  have HKN := hide (show k ≤ 245760 by
   have h7 := right_len HTS.out.1
   have h8 := HTS.out.2.2
   have h9 := congrArg List.length HX.out
   have hkn := HK.out.in_.1
   rw [List.length_map] at h9
   simp only at h7 h8 h9
   omega)
  go_wp2_with fail
  refine (rOpen_any w1 b F d D1.out HDO.out).mono ?_
  rintro e w2 ⟨g, S2, X2, R2, m2, c2, rfl, hL2, hg1, hg2, b2, _⟩
  have L2 := hide hL2
  have HG := hide (And.intro hg1 hg2)
  have B2 := hide b2
  have D2 := hide (D1.out.under b2)
  have K2 := hide (show PKeep w2 (fun i => i < w.heap.size ∨ w1.heap.size ≤ i) A k xs from HK.out.step (Only.of_below b2 _) fun i hi hf => by
   rcases hf with hf | hf
   ·exact hf
   ·omega)
  have NG := hide (show ¬ F g from fun hf => by have h8 := HFL.out g hf; have h9 := B1.out.size; omega)
  clear hL2 hg1 hg2 b2
  have hby := hide (refPBytes_any w2 A k c xs K2.out.in_ (by have := HKN.out; omega) (right_small K2.out.in_ (by rw [HX.out]; exact HTS.out.1)) (by rw [HX.out]; have h5 : psize L ≤ 245760 := HTS.out.2.2; show psize L ≤ _; omega))
  rw [HX.out] at hby
  go_wp2_with fail
  refine hby.out.mono ?_
  rintro e w3 ⟨A3, m3, c3, rfl, t3⟩
  have B3 := hide t3.below
  have D3 := hide (D2.out.under t3.below)
  have L3 := hide (L2.out.under t3.below)
  have TB := hide t3.bys.2.1
  have TL := hide (show (tbytes L).1.length ≤ 1000000000 by
   have h6 := tbytes_len L
   have h7 : L.length ≤ psize L := right_len HTS.out.1
   have h8 : psize L ≤ 245760 := HTS.out.2.2
   omega)
  have hcv := run_str w3 A3 m3 c3 _ t3.bys
  obtain ⟨X, hX⟩ : ∃ X, X = ba (tbytes L).1 := ⟨_, rfl⟩
  have HXX := hide hX
  rw [← hX] at hcv
  clear t3 hby hX
  go_wp2_with fail
  clear hcv
  have hrr := rBegin_any w3 g b F d (openAt (openL d).1) S2 (tbytes L).1 L3.out D3.out HDO.out.bytes HDO.out.ok NG.out TB.out TL.out (by have := HW.out; omega)
  rw [← HXX.out] at hrr
  refine hrr.mono ?_
  clear hrr
  rintro e w4 ⟨rfl, F', S4, hD4, hL4, o4, hF4⟩
  have HEQ := hide (show openT d = if (beginL d (openAt (openL d).1) (tbytes L).1).2.2 ≠ 0 then ((beginL d (openAt (openL d).1) (tbytes L).1).1, none, (beginL d (openAt (openL d).1) (tbytes L).1).2.2) else ((beginL d (openAt (openL d).1) (tbytes L).1).1, some ⟨(beginL d (openAt (openL d).1) (tbytes L).1).2.1, L⟩, 0) by
   rw [openT, HTE.out]; rfl)
  obtain ⟨d', l', e', hbe⟩ := begin_eq d (openAt (openL d).1) (tbytes L).1
  rw [hbe] at HEQ hD4 hL4 ⊢
  simp only at HEQ hD4 hL4 ⊢
  have D4 := hide hD4
  have L4 := hide hL4
  have O4 := hide o4
  have SZ := hide (show w.heap.size ≤ w1.heap.size ∧ w1.heap.size ≤ w2.heap.size ∧ w2.heap.size ≤ w3.heap.size ∧ w3.heap.size ≤ w4.heap.size from ⟨B1.out.size, B2.out.size, B3.out.size, o4.size⟩)
  have FF := hide (show ∀ i, F' i → F i ∨ w.heap.size ≤ i from fun i hi => by
   rcases hF4 i hi with h9 | h9
   ·exact .inl h9
   ·right; have := SZ.out; omega)
  have FF2 := hide hF4
  have OW := hide (show Only F w w4 from ((Only.of_below (Below.then_ B1.out (Below.then_ B2.out B3.out)) F)).trans o4 (fun i hi hf => by
   rcases hf with hf | hf
   ·exact hf
   ·have h8 := HG.out.1; have h9 := SZ.out; omega))
  clear hbe hD4 hL4 o4 hF4
  by_cases he : e' = 0
  ·subst he
   have hmk := mkRT_run w4 g A k c
   obtain ⟨w5, hw5⟩ : ∃ z, z = w4.alloc (.cells #[.pointer (some ⟨g, 0, none⟩), .slice A k c] 57) := ⟨_, rfl⟩
   have B5 := hide (show Below w4.heap.size w4 w5 by rw [hw5]; exact below_alloc (Below.refl _ _) _)
   have K5 := hide (show Blk w5 w4.heap.size 57 [.pointer (some ⟨g, 0, none⟩), .slice A k c] by rw [hw5]; exact Blk.new w4 _ _)
   go_wp2_with fail
   go_ret2
   rw [← hw5]
   have HQ : openT d = (d', some ⟨l', L⟩, 0) := by rw [HEQ.out]; simp
   rw [HQ]
   have hlt := D4.out.lt
   have hsz := SZ.out
   have hgg := HG.out
   refine ⟨?_, HBT.out⟩
   refine ⟨F', D4.out.under B5.out, FF.out, OW.out.trans (Only.of_below B5.out F) (fun _ _ h => h), .inr ⟨⟨l', L⟩, w4.heap.size, g, rfl, rfl, by omega, by omega, A, k, c, xs, ?_, K5.out, fun hf => by have := hlt _ hf; omega, by omega, by have := HBW.out.size; omega, ?_, HX.out, HKC.out⟩⟩
   ·refine ⟨D4.out.under B5.out, ⟨S4, L4.out.under B5.out⟩, fun hf => ?_, by have := B5.out.size; omega, by have := HBW.out.size; omega, ?_, fun i hi => ?_⟩
    ·rcases FF2.out g hf with h6 | h6
     ·exact NG.out h6
     ·omega
    ·exact (HBW.out.trans (OW.out.below HBW.out.size (fun i hi hf => by have := HF.out i hf; omega))).trans (B5.out.mono (by have := HBW.out.size; omega))
    ·rcases FF.out i hi with h6 | h6
     ·exact HF.out i h6
     ·have := HBW.out.size; omega
   ·refine ((K2.out.under B3.out).step (O4.out.mono (G := fun i => i < w.heap.size ∨ w1.heap.size ≤ i) (fun i _ hf => ?_)) (G := fun i => F' i ∨ i = g ∨ i = w4.heap.size ∨ H i) (fun i hi hf => ?_)).under B5.out
    ·rcases hf with hf | hf
     ·exact .inl (HFL.out i hf)
     ·right; omega
    ·rcases hf with hf | hf | hf | hf
     ·rcases FF2.out i hf with h6 | h6
      ·exact .inl (HFL.out i h6)
      ·right; omega
     ·right; omega
     ·omega
     ·exact .inl (HH.out i hf)
  ·have e1 : (e' != 0) = true := by simpa using he
   go_wp2_with fail
   go_ret2
   have HQ : openT d = (d', none, e') := by rw [HEQ.out]; simp [he]
   rw [HQ]
   exact ⟨⟨F', D4.out, FF.out, OW.out, .inl ⟨rfl, rfl⟩⟩, HBT.out⟩
 ·have e1 : (er != 0) = true := by simpa using h0
  have HQ := hide (show openT d = (d, none, er) by rw [openT, HTE.out]; simp [h0])
  clear h0
  go_wp2_with fail
  go_ret2
  rw [HQ.out]
  exact ⟨⟨F, D1.out, fun i h => .inl h, Only.of_below B1.out F, .inl ⟨rfl, rfl⟩⟩, HBT.out⟩
end
end Go.Proofs.YtjnpkcabkccaoaaGreat
