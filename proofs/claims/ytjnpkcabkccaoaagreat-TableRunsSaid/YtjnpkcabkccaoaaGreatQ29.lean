/- Lemmas and walks for TableRuns, packed. -/
import Derived.Test.YtjnpkcabkccaoaaGreatQ26
set_option maxRecDepth 100000
set_option maxHeartbeats 16000000
namespace Go.Proofs.YtjnpkcabkccaoaaGreat
open Go.RowKit
section
theorem log_setAt {b : Nat} {l : LogD} (v : Int) : (logCells b l).set 2 (.int .i64 v) = logCells b { l with at_ := v } := rfl
theorem log_setWard {b : Nat} {l : LogD} (h : l.ward.length = 32) (x : List Int) (hx : x.length = 32) : lay (logCells b l) 4 (bcs x) = logCells b { l with ward := x } := by
 rw [lay_eq _ _ _ (by rw [logCells_len h, bcs_length, hx]; decide), bcs_length, hx, logCells, logCells]
 show _ :: _ :: _ :: _ :: ([] ++ bcs x ++ (bcs l.ward ++ [Value.bool l.ready]).drop 32) = _ :: _ :: _ :: _ :: (bcs x ++ [Value.bool l.ready])
 rw [List.drop_append, List.drop_of_length_le (by rw [bcs_length, h]; exact Nat.le_refl _), bcs_length, h]; rfl
theorem LogAt.setAt {w : World} {g b : Nat} {l : LogD} (h : LogAt w g b l) (v : Int) : LogAt (w.setCell ⟨g, 2, none⟩ (.int .i64 v)) g b { l with at_ := v } :=
 ⟨by rw [← log_setAt]; exact h.blk.set_ 2 _, h.len, h.byt, h.half, h.mark⟩
theorem wrap_next (p : Int) (S : Nat) (h0 : 0 ≤ p) (h1 : p ≤ 10000) (hs : S ≤ 1000) : IntKind.i64.wrap (p + (S : Int)) = p + (S : Int) := by rw [IntKind.wrap_i64]; omega
theorem slabsN_small (n : Nat) (h : n ≤ 100000) : slabsN (n : Int) ≤ 1000 := by unfold slabsN; rw [if_neg (by omega)]; omega
attribute [local go_sem ↓] loadH_fold
theorem Add_any (w : World) (g b : Nat) (F : Nat → Prop) (d : Dev) (l : LogD) (A : Option Addr) (n c : Nat) (body : List Int) (hL : LogAt w g b l) (h : DevRep w b F d) (hdb : d.Bytes) (hgF : ¬ F g) (hB : Bys w A n body) (hn : n ≤ 140737488355328) (h0 : 0 ≤ l.at_) (h1 : l.at_ ≤ 10000) (hw : d.written.length ≤ 800000) :
  Calls Tryz.prog 66 #[.pointer (some ⟨g, 0, none⟩), .slice A n c] w (LogPost w g b F (addL d l body)) := by
 have c0 := hL.cready
 obtain ⟨v, hv⟩ : ∃ v, v = l.ready := ⟨_, rfl⟩
 rw [← hv] at c0
 have L0 := hide hL
 have D0 := hide h
 have HB := hide hB
 have n0 : (0 : Int) ≤ (n : Int) := by omega
 by_cases hr : v = false
 ·subst hr
  have hs : addL d l body = (d, l, 141) := by rw [addL, if_pos hv.symm]
  rw [hs]
  clear hL h hs hw hv hB hdb
  go_enter Tryz.func66, Tryz.ntmps66
  go_wp2
  go_ret
  exact ⟨rfl, F, D0.out, L0.out, Only.refl _ _, fun _ h => .inl h⟩
 have hr2 : v = true := by simpa using hr
 subst hr2
 clear hr
 by_cases hbig : 100000 < n
 ·have hs : addL d l body = (d, l, 142) := by rw [addL, if_neg (by rw [← hv]; decide), if_pos (.inl (by rw [hB.1]; exact hbig))]
  rw [hs]
  have i1 : (100000 : Int) < (n : Int) := by omega
  clear hL h hs hw hv hB hdb hbig
  go_enter Tryz.func66, Tryz.ntmps66
  go_wp2
  go_ret
  exact ⟨rfl, F, D0.out, L0.out, Only.refl _ _, fun _ h => .inl h⟩
 have i1 : ¬ (100000 : Int) < (n : Int) := by omega
 obtain ⟨S, hS⟩ : ∃ S, S = slabsN (n : Int) := ⟨_, rfl⟩
 have hS9 : S ≤ 1000 := by rw [hS]; exact slabsN_small n (by omega)
 have hsl := Slabs_any w (n : Int) (by omega)
 rw [← hS] at hsl
 obtain ⟨E, hE⟩ : ∃ E, E = leftL d l := ⟨_, rfl⟩
 have hlf := LLeft_any w g b F d l hL h h0 h1
 rw [← hE] at hlf
 by_cases hlt : E < (S : Int)
 ·have hs : addL d l body = (d, l, 142) := by rw [addL, if_neg (by rw [← hv]; decide), if_pos (.inr (by rw [hB.1, ← hE, ← hS]; exact hlt))]
  rw [hs]
  clear hL h hs hw hv hB hdb hbig hE hS
  go_enter Tryz.func66, Tryz.ntmps66
  go_wp2_with (first
   | (go_at_call 53; refine hsl.mono ?_; rintro e w' ⟨rfl, rfl⟩)
   | (go_at_call 100; refine hlf.mono ?_; rintro e w1 ⟨rfl, b1⟩))
  go_ret
  exact ⟨rfl, F, D0.out.under b1, L0.out.under b1, Only.of_below b1 _, fun _ h => .inl h⟩
 obtain ⟨p, hp⟩ : ∃ p, p = l.at_ := ⟨_, rfl⟩
 obtain ⟨hf, hhf⟩ : ∃ x, x = l.half := ⟨_, rfl⟩
 obtain ⟨mk, hmk⟩ : ∃ x, x = l.mark := ⟨_, rfl⟩
 obtain ⟨wd, hwd⟩ : ∃ x, x = l.ward := ⟨_, rfl⟩
 obtain ⟨X, hX⟩ : ∃ X, X = boundB 2 body wd := ⟨_, rfl⟩
 obtain ⟨T, hT⟩ : ∃ T, T = sha (wd ++ recB 2 body) := ⟨_, rfl⟩
 obtain ⟨D', hD'⟩ : ∃ z, z = (writeL d hf p X mk).1 := ⟨_, rfl⟩
 obtain ⟨V, hV⟩ : ∃ z, z = (writeL d hf p X mk).2 := ⟨_, rfl⟩
 have hs : addL d l body = if V ≠ 0 then (D', { l with ready := false }, V) else (D', { l with at_ := p + (S : Int), ward := T }, 0) := by
  rw [addL, if_neg (by rw [← hv]; decide), if_neg (by rw [hB.1, ← hE, ← hS]; rintro (h | h); exact hbig h; exact hlt h), hD', hV, hX, hT, hS, hwd, hp, hhf, hmk, hB.1]
 have HS := hide hs
 have hbd := bound_any
 have HP := hide hp
 have HWD := hide hwd
 have HHF := hide hhf
 have HMK := hide hmk
 have HX := hide hX
 have HXL := hide (show X.length = n + 37 by rw [hX, boundB_len, hB.1])
 have HT := hide hT
 have HTL := hide (show T.length = 32 by rw [hT]; exact sha_len _)
 have HTB := hide (show Byt T by rw [hT]; exact sha_byt _)
 have HWL := hide (show wd.length = 32 by rw [hwd]; exact hL.len)
 have HWB := hide (show Byt wd by rw [hwd]; exact hL.byt)
 have HDD := hide hD'
 have HV := hide hV
 have HN := hide (show n ≤ 100000 by omega)
 have HGF := hide hgF
 have HDB := hide hdb
 have HW := hide hw
 have HG := hide hL.blk.lt
 have HFL := hide h.lt
 have hwr := wrap_next p S (by omega) (by omega) hS9
 have HP0 := hide (show 0 ≤ p ∧ p ≤ 10000 by omega)
 have HC4 := hide (show ∀ w', Below w.heap.size w w' → w'.rangeAt g 4 (bcs wd) from fun w' hb => by rw [hwd]; exact (L0.out.under hb).ward)
 have HH := hide (show hf ≤ 1 by rw [hhf]; exact hL.half)
 have HM := hide (show mk < 18446744073709551616 by rw [hmk]; exact hL.mark)
 have HSN := hide hS
 clear hL h hs hw hv hB hdb hbig hE hS hp hwd hhf hmk hX hT hD' hV hbd hgF
 go_enter Tryz.func66, Tryz.ntmps66
 go_wp2_with (first
  | (go_at_call 53; refine hsl.mono ?_; rintro e w' ⟨rfl, rfl⟩)
  | (go_at_call 100; refine hlf.mono ?_; rintro e w1 ⟨rfl, b1⟩; have B1 := hide b1; have z1 := loadH_run w1 g 4 wd (HC4.out w1 b1) HWL.out; clear b1))
 refine (bound_any w1 2 (by decide) A n c body wd (HB.out.below B1.out) HN.out HWL.out HWB.out).mono ?_
 rintro e w2 ⟨A2, n2, c2, rfl, m2, f2⟩
 rw [← HX.out] at m2
 rw [← HT.out]
 have M2 := hide m2
 have F2 := hide f2
 have N2 := hide (show n2 = n + 37 by rw [← m2.len]; exact HXL.out)
 have B2 := hide (Below.then_ B1.out m2.below)
 have KZ := hide (Blk.new w2 104 (bcs zero32))
 clear m2 f2
 go_wp2_with (first
  | (refine wpList_alloc_agg rfl 104 rfl (bcs zero32) zero32_info ?_; simp only [pU])
  | (refine wpList_store_blk rfl 104 _ _ rfl w2.heap.size 0 104 (bcs zero32) (bcs T) (by rfl) (by rfl) KZ.out (by rw [bcs_length, bcs_length, HTL.out]; decide) (by rw [bcs_length, HTL.out]; exact isH32) (bcs_one _) ?_; intro w3 o9 z9 b9; rw [lay_all _ _ (by rw [bcs_length, bcs_length, HTL.out]; rfl)] at b9; simp only [Act.put]; have K6 := hide b9; have B23 := hide (show Below w2.heap.size w2 w3 from Below.trans ((Below.refl _ w2).alloc (Nat.le_refl _) _) (o9.below (by simp) (fun i hi e => by have h9 : i = w2.heap.size := e; omega))); clear b9 o9 z9))
 have B03 := hide (Below.then_ B2.out B23.out)
 refine wp_region_held_drew (S := fun w' => Only F w3 w') (by kernel_rfl) ((Only.of_below (Below.refl _ w3).drew _)) (fun hSA0 => ?_)
 obtain ⟨w3d, hwA⟩ : ∃ x, x = w3.drew := ⟨_, rfl⟩
 have BdA := hide (show Below w3.heap.size w3 w3d by rw [hwA]; exact (Below.refl _ _).drew)
 rw [← hwA] at hSA0 ⊢
 clear hwA
 refine tq 0 rfl hSA0 ?_
 refine tq 1 rfl hSA0 ?_
 refine tq 2 rfl hSA0 ?_
 refine tq 3 rfl hSA0 ?_
 (refine tq 4 rfl hSA0 ?_ (fun w' hSw => by have z : w'.cell? ⟨g, 1, none⟩ = some (.int .i64 (hf : Int)) := (by rw [HHF.out]; exact ((L0.out.under B03.out).keep hSw HGF.out).chalf); go_simp; try with_reducible rfl))
 refine tq 5 rfl hSA0 ?_
 refine tq 6 rfl hSA0 ?_
 refine tq 7 rfl hSA0 ?_
 (refine tq 8 rfl hSA0 ?_ (fun w' hSw => by have z : w'.cell? ⟨g, 2, none⟩ = some (.int .i64 p) := (by rw [HP.out]; exact ((L0.out.under B03.out).keep hSw HGF.out).cat); go_simp; try with_reducible rfl))
 refine tq 9 rfl hSA0 ?_
 refine tq 10 rfl hSA0 ?_
 refine tq 11 rfl hSA0 ?_
 refine tq 12 rfl hSA0 ?_
 (refine tq 13 rfl hSA0 ?_ (fun w' hSw => by have z : w'.cell? ⟨g, 3, none⟩ = some (.int .u64 (mk : Int)) := (by rw [HMK.out]; exact ((L0.out.under B03.out).keep hSw HGF.out).cmark); go_simp; try with_reducible rfl))
 refine ry 14 rfl fun K hK => ?_
 go_simp
 go_simp
 go_wp2_with (go_at_call 51; refine (lwrite_any w3d g b F d l hf p A2 n2 c2 X mk (L0.out.under (Below.then_ B03.out BdA.out)) (D0.out.under (Below.then_ B03.out BdA.out)) HDB.out HGF.out (M2.out.bys.below (Below.then_ B23.out BdA.out)) (fun _ ad e hf => by have h1 := F2.out ad e; have h2 := HFL.out _ hf; have h3 := B1.out.size; omega) (by have := N2.out; have := HN.out; omega) (by have := N2.out; omega) M2.out.cap HH.out HP0.out.1 HP0.out.2 HM.out HW.out).mono ?_; rintro e w9 ⟨rfl, F9, h9, o9, f9⟩; rw [← HDD.out] at h9; rw [← HV.out]; have H9 := hide h9; have O9 := hide o9; have G9 := hide f9; have hS9 := hSA0.trans o9 (fun _ _ h => h); clear h9 o9 f9)
 refine hK.out _ _ (hS9) (fun hSA1 => ?_)
 clear hK K
 refine tq 15 rfl hSA1 ?_
 refine wpAnyH_done (by kernel_rfl) ?_ _
 clear hSA0 hS9
 have L9 := hide ((L0.out.under (Below.then_ B03.out BdA.out)).keep O9.out HGF.out)
 have OA := hide (show Only (fun i => F i ∨ i = g) w w9 from ((Only.of_below (Below.then_ B03.out BdA.out) (fun i => F i ∨ i = g)).trans O9.out (fun i _ h => .inl h)))
 have GA := hide (show ∀ i, F9 i → F i ∨ w.heap.size ≤ i from fun i hi => (G9.out i hi).imp id (fun h => by have := B03.out.size; have := BdA.out.size; omega))
 have NG := hide (show ¬ F9 g from fun h => by rcases GA.out g h with h | h; exact HGF.out h; have := HG.out; omega)
 by_cases hv0 : V = 0
 ·subst hv0
  have K9 := hide (O9.out.blk (K6.out.under BdA.out) (fun h => by have := HFL.out _ h; have := B2.out.size; omega))
  go_wp2_with fail
  refine wp_region_held_drew (S := fun w' => w'.rangeAt w2.heap.size 0 (bcs T)) (by kernel_rfl) (range_under K9.out.whole (Below.refl _ w9).drew) (fun hSB0 => ?_)
  obtain ⟨w9d, hwB⟩ : ∃ x, x = w9.drew := ⟨_, rfl⟩
  have BdB := hide (show Below w9.heap.size w9 w9d by rw [hwB]; exact (Below.refl _ _).drew)
  rw [← hwB] at hSB0 ⊢
  clear hwB
  refine tq 0 rfl hSB0 ?_
  refine tq 1 rfl hSB0 ?_
  refine tq 2 rfl hSB0 ?_
  refine tq 3 rfl hSB0 ?_
  refine tq 4 rfl hSB0 ?_
  refine tq 6 rfl hSB0 ?_
  refine tq 7 rfl hSB0 ?_
  (refine tq 10 rfl hSB0 ?_ (fun w' hSw => by have z := loadH_run w' w2.heap.size 0 T hSw HTL.out; go_simp; try with_reducible rfl))
  refine wpAnyH_ready (rs := [5, 8]) (by kernel_rfl) (by simp) ?_
  refine AllReadyH.cons rfl (fun K hK => ?_) (AllReadyH.cons rfl (fun K hK => ?_) AllReadyH.nil)
  ·have z5 : w9d.cell? ⟨g, 2, none⟩ = some (.int .i64 p) := by rw [HP.out]; exact (L9.out.under BdB.out).cat
   go_simp
   refine hK.out _ _ (hSB0) (fun hSB1 => ?_)
   clear hK K
   refine ry 8 rfl fun K hK => ?_
   go_simp
   go_simp
   go_wp2_with (go_at_call 53; refine (Slabs_any w9d (n : Int) (by have := HN.out; omega)).mono ?_; rintro e wx ⟨rfl, rfl⟩; rw [← HSN.out])
   refine hK.out _ _ (hSB1) (fun hSB2 => ?_)
   clear hK K
   refine tq 9 rfl hSB2 ?_
   refine tq 11 rfl hSB2 ?_
   refine tq 12 rfl hSB2 ?_
   refine ry 13 rfl fun K hK => ?_
   have z13 : w9d.cell? ⟨g, 2, none⟩ = some (.int .i64 p) := by rw [HP.out]; exact (L9.out.under BdB.out).cat
   have f13 := (L9.out.under BdB.out).blk.frozen 2
   go_simp
   obtain ⟨wt, hwt⟩ : ∃ z, z = w9d.setCell ⟨g, 2, none⟩ (.int .i64 (p + (S : Int))) := ⟨_, rfl⟩
   rw [← hwt]
   have LT := hide (show LogAt wt g b { l with at_ := p + (S : Int) } by rw [hwt]; exact (L9.out.under BdB.out).setAt _)
   have OT := hide (show Only (fun i => i = g) w9d wt by rw [hwt]; exact Only.cell1 w9d g 2 _)
   have hST := range_only hSB2 OT.out (fun h => by have h9 : w2.heap.size = g := h; have := HG.out; have := B2.out.size; omega)
   clear hwt
   refine hK.out _ _ (hST) (fun hSB3 => ?_)
   clear hK K
   refine tq 14 rfl hSB3 ?_
   refine tq 15 rfl hSB3 ?_
   refine ry 16 rfl fun K hK => ?_
   refine step_storeB rfl 104 _ _ rfl g 4 106 (logCells b { l with at_ := p + (S : Int) }) (bcs T) (by rfl) (by rfl) LT.out.blk (by rw [logCells_len LT.out.len, bcs_length, HTL.out]; decide) (by rw [bcs_length, HTL.out]; exact isH32) (bcs_one _) ?_
   intro wz oz zz bz
   rw [log_setWard LT.out.len T HTL.out] at bz
   have hSZ := range_only hSB3 oz (fun h => by have h9 : w2.heap.size = g := h; have := HG.out; have := B2.out.size; omega)
   have OZ := hide oz
   have BZ := hide bz
   clear oz zz bz
   simp only [Act.put]
   refine hK.out _ _ (hSZ) (fun hSB4 => ?_)
   clear hK K
   refine wpAnyH_done (by kernel_rfl) ?_ _
   go_wp2_with fail
   go_ret
   rw [HS.out, if_neg (fun h => h rfl)]
   have OG := (OT.out.trans OZ.out (fun _ _ h => h))
   exact ⟨rfl, F9, (H9.out.under BdB.out).keep OG (fun i hi e => by have e9 : i = g := e; subst e9; exact NG.out hi), ⟨BZ.out, HTL.out, HTB.out, LT.out.half, LT.out.mark⟩, (OA.out.trans (Only.of_below BdB.out (fun _ => False)) (fun _ _ h => h.elim)).trans OG (fun i _ h => .inr h), GA.out⟩
  ·go_simp
   go_simp
   go_wp2_with (go_at_call 53; refine (Slabs_any w9d (n : Int) (by have := HN.out; omega)).mono ?_; rintro e wx ⟨rfl, rfl⟩; rw [← HSN.out])
   refine hK.out _ _ (hSB0) (fun hSB1 => ?_)
   clear hK K
   refine ry 5 rfl fun K hK => ?_
   have z5 : w9d.cell? ⟨g, 2, none⟩ = some (.int .i64 p) := by rw [HP.out]; exact (L9.out.under BdB.out).cat
   go_simp
   refine hK.out _ _ (hSB1) (fun hSB2 => ?_)
   clear hK K
   refine tq 9 rfl hSB2 ?_
   refine tq 11 rfl hSB2 ?_
   refine tq 12 rfl hSB2 ?_
   refine ry 13 rfl fun K hK => ?_
   have z13 : w9d.cell? ⟨g, 2, none⟩ = some (.int .i64 p) := by rw [HP.out]; exact (L9.out.under BdB.out).cat
   have f13 := (L9.out.under BdB.out).blk.frozen 2
   go_simp
   obtain ⟨wt, hwt⟩ : ∃ z, z = w9d.setCell ⟨g, 2, none⟩ (.int .i64 (p + (S : Int))) := ⟨_, rfl⟩
   rw [← hwt]
   have LT := hide (show LogAt wt g b { l with at_ := p + (S : Int) } by rw [hwt]; exact (L9.out.under BdB.out).setAt _)
   have OT := hide (show Only (fun i => i = g) w9d wt by rw [hwt]; exact Only.cell1 w9d g 2 _)
   have hST := range_only hSB2 OT.out (fun h => by have h9 : w2.heap.size = g := h; have := HG.out; have := B2.out.size; omega)
   clear hwt
   refine hK.out _ _ (hST) (fun hSB3 => ?_)
   clear hK K
   refine tq 14 rfl hSB3 ?_
   refine tq 15 rfl hSB3 ?_
   refine ry 16 rfl fun K hK => ?_
   refine step_storeB rfl 104 _ _ rfl g 4 106 (logCells b { l with at_ := p + (S : Int) }) (bcs T) (by rfl) (by rfl) LT.out.blk (by rw [logCells_len LT.out.len, bcs_length, HTL.out]; decide) (by rw [bcs_length, HTL.out]; exact isH32) (bcs_one _) ?_
   intro wz oz zz bz
   rw [log_setWard LT.out.len T HTL.out] at bz
   have hSZ := range_only hSB3 oz (fun h => by have h9 : w2.heap.size = g := h; have := HG.out; have := B2.out.size; omega)
   have OZ := hide oz
   have BZ := hide bz
   clear oz zz bz
   simp only [Act.put]
   refine hK.out _ _ (hSZ) (fun hSB4 => ?_)
   clear hK K
   refine wpAnyH_done (by kernel_rfl) ?_ _
   go_wp2_with fail
   go_ret
   rw [HS.out, if_neg (fun h => h rfl)]
   have OG := (OT.out.trans OZ.out (fun _ _ h => h))
   exact ⟨rfl, F9, (H9.out.under BdB.out).keep OG (fun i hi e => by have e9 : i = g := e; subst e9; exact NG.out hi), ⟨BZ.out, HTL.out, HTB.out, LT.out.half, LT.out.mark⟩, (OA.out.trans (Only.of_below BdB.out (fun _ => False)) (fun _ _ h => h.elim)).trans OG (fun i _ h => .inr h), GA.out⟩
 ·have cr := L9.out.cready
  have fr := L9.out.blk.frozen 36
  go_wp2_with fail
  go_ret
  rw [HS.out, if_pos hv0]
  exact ⟨rfl, F9, H9.out.keep (Only.cell1 w9 g 36 _) (fun i hi e => by have e9 : i = g := e; subst e9; exact NG.out hi), L9.out.setReady _, OA.out.trans (Only.cell1 w9 g 36 _) (fun i _ h => .inr h), GA.out⟩
end
section
theorem LogAt.setHalf {w : World} {g b : Nat} {l : LogD} (h : LogAt w g b l) (v : Nat) (hv : v ≤ 1) : LogAt (w.setCell ⟨g, 1, none⟩ (.int .i64 (v : Int))) g b { l with half := v } :=
 ⟨h.blk.set_ 1 _, h.len, h.byt, hv, h.mark⟩
theorem LogAt.setMark {w : World} {g b : Nat} {l : LogD} (h : LogAt w g b l) (v : Nat) (hv : v < 18446744073709551616) : LogAt (w.setCell ⟨g, 3, none⟩ (.int .u64 (v : Int))) g b { l with mark := v } :=
 ⟨h.blk.set_ 3 _, h.len, h.byt, h.half, hv⟩
theorem LogAt.setWard {w w' : World} {g b : Nat} {l : LogD} (h : LogAt w g b l) {x : List Int} (hx : x.length = 32) (hb : Byt x) (bz : Blk w' g 106 (logCells b { l with ward := x })) : LogAt w' g b { l with ward := x } := ⟨bz, hx, hb, h.half, h.mark⟩
theorem wrap_other (hf h1 : Nat) (hh : hf ≤ 1) (e : h1 = 1 - hf) : IntKind.i64.wrap (1 - (hf : Int)) = (h1 : Int) := by rw [IntKind.wrap_i64]; omega
theorem bys_lt {w : World} {A : Option Addr} {n : Nat} {bs : List Int} (h : Bys w A n bs) (hn : 1 ≤ n) : ∀ ad, A = some ad → ad.block < w.heap.size := by
 intro ad e
 obtain ⟨b, off, e2, hr⟩ := h.2.2 (by omega)
 rw [e] at e2
 injection e2 with e2
 subst e2
 obtain ⟨x, hx⟩ : ∃ x, bs[0]? = some x := ⟨_, List.getElem?_eq_getElem (by rw [h.1]; omega)⟩
 exact World.block_lt_of_cell? w _ (hr 0 x hx)
theorem writeL_bytes {d : Dev} (h : d.Bytes) (half : Nat) (at_ : Int) {b : List Int} (hb : Byt b) (mark : Nat) : (writeL d half at_ b mark).1.Bytes := writeC_bytes mark _ d _ h (chunks_byt hb)
theorem writeL_many (d : Dev) (half : Nat) (at_ : Int) (b : List Int) (mark : Nat) : (writeL d half at_ b mark).1.written.length ≤ d.written.length + (b.length + 119) / 120 := by
 have := writeC_many mark (chunks b) d ((half : Int) * (d.room : Int) + at_)
 rwa [chunks_count] at this
attribute [local go_sem ↓] loadH_fold
theorem Begin_any (w : World) (g b : Nat) (F : Nat → Prop) (d : Dev) (l : LogD) (A : Option Addr) (n c : Nat) (body : List Int) (hL : LogAt w g b l) (h : DevRep w b F d) (hdb : d.Bytes) (hgF : ¬ F g) (hB : Bys w A n body) (hap : Apart A n (fun i => i = g)) (hn : n ≤ 140737488355328) (hw : d.written.length ≤ 700000) :
  Calls Tryz.prog 26 #[.pointer (some ⟨g, 0, none⟩), .slice A n c] w (LogPost w g b F (beginL d l body)) := by
 have L0 := hide hL
 have D0 := hide h
 have HB := hide hB
 have n0 : (0 : Int) ≤ (n : Int) := by omega
 have htop := top_any w g b F d l hL h hdb
 obtain ⟨M, hM⟩ : ∃ M : Int, M = (topL d : Int) := ⟨_, rfl⟩
 rw [← hM] at htop
 have c0 := hide (show ∀ w', Below w.heap.size w w' → w'.cell? ⟨g, 0, none⟩ = some (.pointer (some ⟨b, 0, none⟩)) from fun w' hb => (L0.out.under hb).cd)
 have hfit := fun w1 (hb : Below w.heap.size w w1) => Fits_any w1 b F d (h.under hb) (n : Int) (by omega)
 have HFIT := hide hfit
 by_cases hc : fitsB d body.length = false ∨ mostGen ≤ topL d
 ·have hs : beginL d l body = (d, l, 142) := by unfold beginL; rw [if_pos hc]
  rw [hs]
  obtain ⟨f, hf⟩ : ∃ f, f = fitsB d (n : Int) := ⟨_, rfl⟩
  rw [← hf] at HFIT
  have hc2 : f = false ∨ 4611686018427387904 ≤ M := by
   rcases hc with hc | hc
   ·exact .inl (by rw [hf, ← hB.1]; exact hc)
   ·exact .inr (by rw [hM]; unfold mostGen at hc; omega)
  clear hL h hs hw hB hdb hfit hf hc hM hn
  cases f
  ·clear hc2
   go_enter Tryz.func26, Tryz.ntmps26
   go_wp2_with (first
    | (go_at_call 48; refine htop.mono ?_; rintro e w1 ⟨rfl, b1⟩; have z1 := c0.out w1 b1)
    | (go_at_call 31; refine (HFIT.out w1 b1).mono ?_; rintro e w' ⟨rfl, rfl⟩))
   all_goals (go_ret; exact ⟨rfl, F, D0.out.under b1, L0.out.under b1, Only.of_below b1 _, fun _ h => .inl h⟩)
  ·have hM9 : 4611686018427387904 ≤ M := by simpa using hc2
   clear hc2
   go_enter Tryz.func26, Tryz.ntmps26
   go_wp2_with (first
    | (go_at_call 48; refine htop.mono ?_; rintro e w1 ⟨rfl, b1⟩; have z1 := c0.out w1 b1)
    | (go_at_call 31; refine (HFIT.out w1 b1).mono ?_; rintro e w' ⟨rfl, rfl⟩))
   all_goals (go_ret; exact ⟨rfl, F, D0.out.under b1, L0.out.under b1, Only.of_below b1 _, fun _ h => .inl h⟩)
 have hfy : fitsB d (n : Int) = true := by rw [← hB.1]; cases hx : fitsB d (body.length : Int) with | true => rfl | false => exact absurd (.inl hx) hc
 have hn5 : n ≤ 100000 := by
  rw [fitsB] at hfy
  simp only [Bool.and_eq_true, decide_eq_true_eq] at hfy
  omega
 have hM9 : M < 4611686018427387904 := by
  have : ¬ mostGen ≤ topL d := fun h => hc (.inr h)
  unfold mostGen at this
  omega
 have hM0 : 0 ≤ M := by omega
 obtain ⟨G, hG⟩ : ∃ G, G = topL d + 1 := ⟨_, rfl⟩
 have HMG := hide (show M + 1 = (G : Int) by rw [hM, hG]; omega)
 have HMW := hide (show IntKind.u64.wrap (M + 1) = (G : Int) by rw [IntKind.wrap_u64]; have := HMG.out; omega)
 have HG9 := hide (show G < 18446744073709551616 by have := HMG.out; omega)
 obtain ⟨S, hS⟩ : ∃ S, S = slabsN (body.length : Int) := ⟨_, rfl⟩
 have HS9 := hide (show S ≤ 1000 by rw [hS, hB.1]; exact slabsN_small n hn5)
 obtain ⟨hf, hhf⟩ : ∃ x, x = l.half := ⟨_, rfl⟩
 obtain ⟨h1, hh1⟩ : ∃ x, x = 1 - hf := ⟨_, rfl⟩
 have HWO := hide (wrap_other hf h1 (by rw [hhf]; exact hL.half) hh1)
 have HH1 := hide (show h1 ≤ 1 by omega)
 obtain ⟨l1, hl1⟩ : ∃ x : LogD, x = { l with ready := false } := ⟨_, rfl⟩
 obtain ⟨S1, hS1⟩ : ∃ x, x = sealB G := ⟨_, rfl⟩
 obtain ⟨X3, hX3⟩ : ∃ x, x = sealedB G := ⟨_, rfl⟩
 obtain ⟨X5, hX5⟩ : ∃ x, x = boundB 1 body S1 := ⟨_, rfl⟩
 obtain ⟨T2, hT2⟩ : ∃ x, x = sha (S1 ++ recB 1 body) := ⟨_, rfl⟩
 obtain ⟨D1, hD1⟩ : ∃ z, z = (writeL d h1 0 X3 G).1 := ⟨_, rfl⟩
 obtain ⟨V1, hV1⟩ : ∃ z, z = (writeL d h1 0 X3 G).2 := ⟨_, rfl⟩
 obtain ⟨D2, hD2⟩ : ∃ z, z = (writeL D1 h1 1 X5 G).1 := ⟨_, rfl⟩
 obtain ⟨V2, hV2⟩ : ∃ z, z = (writeL D1 h1 1 X5 G).2 := ⟨_, rfl⟩
 obtain ⟨D3, hD3⟩ : ∃ z, z = D2.sync.1 := ⟨_, rfl⟩
 obtain ⟨V3, hV3⟩ : ∃ z, z = D2.sync.2 := ⟨_, rfl⟩
 have HS := hide (show beginL d l body = if V1 ≠ 0 then (D1, l1, V1) else if V2 ≠ 0 then (D2, l1, V2) else if V3 ≠ 0 then (D3, l1, V3) else (D3, ⟨h1, 1 + (S : Int), G, T2, true⟩, 0) by
  unfold beginL
  rw [if_neg hc]
  subst hV3 hD3 hV2 hD2 hV1 hD1 hT2 hX5 hX3 hS1 hl1 hh1 hhf hS hG
  rfl)
 have HX3L := hide (show X3.length = 48 by rw [hX3]; exact sealedB_len _)
 have HX3B := hide (show Byt X3 by rw [hX3]; exact sealedB_byt _)
 have HX5L := hide (show X5.length = n + 37 by rw [hX5, boundB_len, hB.1])
 have HX5B := hide (show Byt X5 by rw [hX5]; exact boundB_byt (by decide) hB.2.1)
 have HS1L := hide (show S1.length = 32 by rw [hS1]; exact sha_len _)
 have HS1B := hide (show Byt S1 by rw [hS1]; exact sha_byt _)
 have HT2L := hide (show T2.length = 32 by rw [hT2]; exact sha_len _)
 have HT2B := hide (show Byt T2 by rw [hT2]; exact sha_byt _)
 have HD1B := hide (show D1.Bytes by rw [hD1]; exact writeL_bytes hdb _ _ HX3B.out _)
 have HD1W := hide (show D1.written.length ≤ 700001 by rw [hD1]; have h9 := writeL_many d h1 0 X3 G; rw [HX3L.out] at h9; omega)
 have HD2W := hide (show D2.written.length ≤ 800000 by rw [hD2]; have h9 := writeL_many D1 h1 1 X5 G; rw [HX5L.out] at h9; have := HD1W.out; omega)
 have HX3 := hide hX3
 have HX5 := hide hX5
 have HS1 := hide hS1
 have HT2 := hide hT2
 have HD1 := hide hD1
 have HV1 := hide hV1
 have HD2 := hide hD2
 have HV2 := hide hV2
 have HD3 := hide hD3
 have HV3 := hide hV3
 have HHF := hide hhf
 have HL1 := hide hl1
 have HSN := hide (show S = slabsN (n : Int) by rw [hS, hB.1])
 have HN := hide hn5
 have HGF := hide hgF
 have HDB := hide hdb
 have HW := hide hw
 have HGL := hide hL.blk.lt
 have HFL := hide h.lt
 have HAP := hide hap
 have h1n := HH1.out
 rw [hfy] at HFIT
 clear hL h hw hB hdb hfit hfy hc hn hn5 hG hS hhf hh1 hl1 hS1 hX3 hX5 hT2 hD1 hV1 hD2 hV2 hD3 hV3 hgF hap hM h1n
 go_enter Tryz.func26, Tryz.ntmps26
 go_wp2_with (first
  | (go_at_call 48; refine htop.mono ?_; rintro e w1 ⟨rfl, b1⟩; have z1 := c0.out w1 b1; have B1 := hide b1; have cr := (L0.out.under b1).cready; have fr := (L0.out.under b1).blk.frozen 36)
  | (go_at_call 31; refine (HFIT.out w1 b1).mono ?_; rintro e w' ⟨rfl, rfl⟩))
 rw [HMG.out]
 obtain ⟨w2, hw2⟩ : ∃ z, z = w1.setCell ⟨g, 36, none⟩ (.bool false) := ⟨_, rfl⟩
 have o2 : Only (fun i => i = g) w1 w2 := by rw [hw2]; exact Only.cell1 w1 g 36 _
 have L2 := hide (show LogAt w2 g b l1 by rw [hw2, HL1.out]; exact (L0.out.under B1.out).setReady false)
 have O2 := hide (show Only (fun i => F i ∨ i = g) w w2 from (Only.of_below B1.out (fun i => F i ∨ i = g)).trans o2 (fun _ _ h => .inr h))
 have DR2 := hide ((D0.out.under B1.out).keep o2 (fun i hf e => HGF.out (by have h9 : i = g := e; exact h9 ▸ hf)))
 have Y2 := hide ((HB.out.below B1.out).keep o2 HAP.out)
 rw [← hw2]
 clear hw2 o2 z1 cr fr
 refine (sealed_any w2 G HG9.out).mono ?_
 rintro e w3 ⟨A3, n3, c3, rfl, m3, f3⟩
 rw [← HX3.out] at m3
 rw [← HS1.out]
 have M3 := hide m3
 have F3 := hide f3
 have N3 := hide (show n3 = 48 by rw [← m3.len]; exact HX3L.out)
 have KZ3 := hide (Blk.new w3 104 (bcs zero32))
 clear m3 f3
 go_wp2_with (first
  | (refine wpList_alloc_agg rfl 104 rfl (bcs zero32) zero32_info ?_; simp only [pU])
  | (refine wpList_store_blk rfl 104 _ _ rfl w3.heap.size 0 104 (bcs zero32) (bcs S1) (by rfl) (by rfl) KZ3.out (by rw [bcs_length, bcs_length, HS1L.out]; decide) (by rw [bcs_length, HS1L.out]; exact isH32) (bcs_one _) ?_; intro w4 o9 z9 b9; rw [lay_all _ _ (by rw [bcs_length, bcs_length, HS1L.out]; rfl)] at b9; simp only [Act.put]; have z4 := loadH_run w4 w3.heap.size 0 S1 b9.whole HS1L.out; have B34 := hide (show Below w3.heap.size w3 w4 from Below.trans ((Below.refl _ w3).alloc (Nat.le_refl _) _) (o9.below (by simp) (fun i hi e => by have h9 : i = w3.heap.size := e; omega))); clear b9 o9 z9))
 refine (bound_any w4 1 (by decide) A n c body S1 (Y2.out.below (Below.then_ M3.out.below B34.out)) HN.out HS1L.out HS1B.out).mono ?_
 rintro e w5 ⟨A5, n5, c5, rfl, m5, f5⟩
 rw [← HX5.out] at m5
 rw [← HT2.out]
 have M5 := hide m5
 have F5 := hide f5
 have N5 := hide (show n5 = n + 37 by rw [← m5.len]; exact HX5L.out)
 have KZ5 := hide (Blk.new w5 104 (bcs zero32))
 have B25 := hide (Below.then_ (Below.then_ M3.out.below B34.out) m5.below)
 clear m5 f5 z4
 go_wp2_with (first
  | (refine wpList_alloc_agg rfl 104 rfl (bcs zero32) zero32_info ?_; simp only [pU])
  | (refine wpList_store_blk rfl 104 _ _ rfl w5.heap.size 0 104 (bcs zero32) (bcs T2) (by rfl) (by rfl) KZ5.out (by rw [bcs_length, bcs_length, HT2L.out]; decide) (by rw [bcs_length, HT2L.out]; exact isH32) (bcs_one _) ?_; intro w6 o9 z9 b9; rw [lay_all _ _ (by rw [bcs_length, bcs_length, HT2L.out]; rfl)] at b9; simp only [Act.put]; have K9 := hide b9; have B56 := hide (show Below w5.heap.size w5 w6 from Below.trans ((Below.refl _ w5).alloc (Nat.le_refl _) _) (o9.below (by simp) (fun i hi e => by have h9 : i = w5.heap.size := e; omega))); have B26 := hide (Below.then_ B25.out B56.out); have L6 := hide (L2.out.under B26.out); have z6 : w6.cell? ⟨g, 1, none⟩ = some (.int .i64 (hf : Int)) := (by rw [HHF.out]; have h9 := L6.out.chalf; rw [HL1.out] at h9; exact h9); have z7 := HWO.out; clear b9 o9 z9))
 rw [HMG.out]
 have W26 := hide (show w.heap.size ≤ w6.heap.size ∧ w.heap.size ≤ w4.heap.size from ⟨by have := O2.out.size; have := B26.out.size; omega, by have := O2.out.size; have := M3.out.below.size; have := B34.out.size; omega⟩)
 have W23 := hide (show w.heap.size ≤ w2.heap.size from O2.out.size)
 have NGG := hide (show ∀ Fk : Nat → Prop, (∀ i, Fk i → F i ∨ w6.heap.size ≤ i) → ¬ Fk g from fun Fk hk h => by rcases hk g h with h | h; exact HGF.out h; have := HGL.out; have := W26.out.1; omega)
 have NKK := hide (show ∀ Fk : Nat → Prop, (∀ i, Fk i → F i ∨ w6.heap.size ≤ i) → ¬ Fk w5.heap.size from fun Fk hk h => by rcases hk _ h with h | h; have := HFL.out _ h; have := W26.out.2; have := M5.out.below.size; omega; have := K9.out.lt; omega)
 have OA6 := hide (show Only (fun i => F i ∨ i = g) w w6 from O2.out.trans (Only.of_below B26.out (fun _ => False)) (fun _ _ h => h.elim))
 refine (lwrite_any w6 g b F d l1 h1 0 A3 n3 c3 X3 G L6.out (DR2.out.under B26.out) HDB.out HGF.out (M3.out.bys.below (Below.then_ B34.out (Below.then_ M5.out.below B56.out))) (fun _ ad e hf => by have h1 := F3.out ad e; have h2 := HFL.out _ hf; have h3 := W23.out; omega) (by have := N3.out; omega) (by have := N3.out; omega) M3.out.cap HH1.out (by decide) (by decide) HG9.out (by have := HW.out; omega)).mono ?_
 rintro e w7 ⟨rfl, F7, h7, o7, g7⟩
 rw [← HD1.out] at h7
 rw [← HV1.out]
 have H7 := hide h7
 have O7 := hide o7
 have GB7 := hide g7
 have OA7 := hide (OA6.out.trans o7 (fun i _ h => .inl h))
 have L7 := hide (L6.out.keep o7 HGF.out)
 have K97 := hide (o7.blk K9.out (NKK.out F (fun _ h => .inl h)))
 have W67 := hide o7.size
 have Y5 := hide ((M5.out.bys.below B56.out).keep o7 (fun _ ad e hf => by have h1 := F5.out ad e; have h2 := HFL.out _ hf; have h3 := W26.out.2; omega))
 have Y5L := hide (bys_lt M5.out.bys (by have := N5.out; omega))
 clear h7 o7 g7
 by_cases hv1 : V1 ≠ 0
 ·have hv0 : ¬ V1 = 0 := hv1
  go_wp2_with fail
  go_ret
  rw [HS.out, if_pos hv1]
  exact ⟨rfl, F7, H7.out, L7.out, OA7.out, fun i hi => (GB7.out i hi).imp id (fun h => by have := W26.out.1; omega)⟩
 have hv0 : V1 = 0 := Decidable.not_not.1 hv1
 clear hv1
 subst hv0
 go_wp2_with fail
 rw [HMG.out]
 refine (lwrite_any w7 g b F7 D1 l1 h1 1 A5 n5 c5 X5 G L7.out H7.out HD1B.out (NGG.out F7 GB7.out) Y5.out (fun _ ad e hf => by
  have h1 := F5.out ad e
  have h2 := Y5L.out ad e
  have h4 := W26.out.2
  have h5 := B56.out.size
  rcases GB7.out _ hf with h | h
  ·have h3 := HFL.out _ h; omega
  ·omega) (by have := N5.out; have := HN.out; omega) (by have := N5.out; omega) M5.out.cap HH1.out (by decide) (by decide) HG9.out (by have := HD1W.out; omega)).mono ?_
 rintro e w8 ⟨rfl, F8, h8, o8, g8⟩
 rw [← HD2.out] at h8
 rw [← HV2.out]
 have H8 := hide h8
 have GB8 := hide (show ∀ i, F8 i → F i ∨ w6.heap.size ≤ i from fun i hi => by
  rcases g8 i hi with h | h
  ·exact GB7.out i h
  ·exact .inr (by have := W67.out; omega))
 have OA8 := hide (OA7.out.trans o8 (fun i hi h => by rcases GB7.out i h with h | h; exact .inl h; have := W26.out.1; omega))
 have L8 := hide (L7.out.keep o8 (NGG.out F7 GB7.out))
 have K98 := hide (o8.blk K97.out (NKK.out F7 GB7.out))
 have W68 := hide (Nat.le_trans W67.out o8.size)
 clear h8 o8 g8
 by_cases hv2 : V2 ≠ 0
 ·have hv0 : ¬ V2 = 0 := hv2
  go_wp2_with fail
  go_ret
  rw [HS.out, if_neg (fun h => h rfl), if_pos hv2]
  exact ⟨rfl, F8, H8.out, L8.out, OA8.out, fun i hi => (GB8.out i hi).imp id (fun h => by have := W26.out.1; omega)⟩
 have hv0 : V2 = 0 := Decidable.not_not.1 hv2
 clear hv2
 subst hv0
 have z8 := L8.out.cd
 go_wp2_with fail
 refine (sync_any w8 b F8 D2 H8.out (by have := HD2W.out; omega)).mono ?_
 rintro e w9 ⟨rfl, F9, h9, o9, g9⟩
 rw [← HD3.out] at h9
 rw [← HV3.out]
 have H9 := hide h9
 have GB9 := hide (show ∀ i, F9 i → F i ∨ w6.heap.size ≤ i from fun i hi => by
  rcases g9 i hi with h | h
  ·exact GB8.out i h
  ·exact .inr (by have := W68.out; omega))
 have OA9 := hide (OA8.out.trans o9 (fun i hi h => by rcases GB8.out i h with h | h; exact .inl h; have := W26.out.1; omega))
 have L9 := hide (L8.out.keep o9 (NGG.out F8 GB8.out))
 have K99 := hide (o9.blk K98.out (NKK.out F8 GB8.out))
 clear h9 o9 g9 z8
 by_cases hv3 : V3 ≠ 0
 ·have hv0 : ¬ V3 = 0 := hv3
  go_wp2_with fail
  go_ret
  rw [HS.out, if_neg (fun h => h rfl), if_neg (fun h => h rfl), if_pos hv3]
  exact ⟨rfl, F9, H9.out, L9.out, OA9.out, fun i hi => (GB9.out i hi).imp id (fun h => by have := W26.out.1; omega)⟩
 have hv0 : V3 = 0 := Decidable.not_not.1 hv3
 clear hv3
 subst hv0
 go_wp2_with fail
 refine wp_region_held_drew (S := fun w' => w'.rangeAt w5.heap.size 0 (bcs T2)) (by kernel_rfl) (range_under K99.out.whole (Below.refl _ w9).drew) (fun hSA0 => ?_)
 obtain ⟨w9d, hwA⟩ : ∃ x, x = w9.drew := ⟨_, rfl⟩
 have BdA := hide (show Below w9.heap.size w9 w9d by rw [hwA]; exact (Below.refl _ _).drew)
 have LA := hide (L9.out.under BdA.out)
 rw [← hwA] at hSA0 ⊢
 clear hwA
 refine tq 0 rfl hSA0 ?_
 refine tq 1 rfl hSA0 ?_
 refine tq 2 rfl hSA0 ?_
 refine tq 3 rfl hSA0 ?_
 refine tq 4 rfl hSA0 ?_
 refine tq 5 rfl hSA0 ?_
 refine tq 6 rfl hSA0 ?_
 refine tq 7 rfl hSA0 ?_
 refine tq 10 rfl hSA0 ?_
 (refine tq 11 rfl hSA0 ?_ (fun w' hSw => by have z := HMW.out; go_simp; try with_reducible rfl))
 (refine tq 12 rfl hSA0 ?_ (fun w' hSw => by have z := loadH_run w' w5.heap.size 0 T2 hSw HT2L.out; go_simp; try with_reducible rfl))
 refine ry 8 rfl fun K hK => ?_
 go_simp
 go_simp
 go_wp2_with (go_at_call 53; refine (Slabs_any w9d (n : Int) (by have := HN.out; omega)).mono ?_; rintro e wx ⟨rfl, rfl⟩; rw [← HSN.out])
 refine hK.out _ _ (hSA0) (fun hSA1 => ?_)
 clear hK K
 (refine tq 9 rfl hSA1 ?_ (fun w' hSw => by have z : IntKind.i64.wrap (1 + (S : Int)) = 1 + (S : Int) := (by rw [IntKind.wrap_i64]; have := HS9.out; omega); go_simp; try with_reducible rfl))
 refine tq 13 rfl hSA1 ?_
 refine tq 14 rfl hSA1 ?_
 refine ry 15 rfl fun K hK => ?_
 have c15 := LA.out.chalf
 have f15 := LA.out.blk.frozen 1
 go_simp
 obtain ⟨wt15, hwt15⟩ : ∃ z, z = w9d.setCell ⟨g, 1, none⟩ (.int .i64 (h1 : Int)) := ⟨_, rfl⟩
 rw [← hwt15]
 have hl15 := LA.out.setHalf h1 HH1.out
 rw [← hwt15] at hl15
 have L15 := hide hl15
 have OT15 := hide (show Only (fun i => i = g) w9d wt15 by rw [hwt15]; exact Only.cell1 w9d g 1 _)
 have hS15 := range_only hSA1 OT15.out (fun h => by have h9 : w5.heap.size = g := h; have := HGL.out; have := W26.out.2; have := M5.out.below.size; omega)
 clear hwt15 hl15 c15 f15
 refine hK.out _ _ (hS15) (fun hSA2 => ?_)
 clear hK K
 refine tq 16 rfl hSA2 ?_
 refine tq 17 rfl hSA2 ?_
 refine ry 18 rfl fun K hK => ?_
 have c18 := L15.out.cat
 have f18 := L15.out.blk.frozen 2
 go_simp
 obtain ⟨wt18, hwt18⟩ : ∃ z, z = wt15.setCell ⟨g, 2, none⟩ (.int .i64 (1 + (S : Int))) := ⟨_, rfl⟩
 rw [← hwt18]
 have hl18 := L15.out.setAt (1 + (S : Int))
 rw [← hwt18] at hl18
 have L18 := hide hl18
 have OT18 := hide (show Only (fun i => i = g) wt15 wt18 by rw [hwt18]; exact Only.cell1 wt15 g 2 _)
 have hS18 := range_only hSA2 OT18.out (fun h => by have h9 : w5.heap.size = g := h; have := HGL.out; have := W26.out.2; have := M5.out.below.size; omega)
 clear hwt18 hl18 c18 f18
 refine hK.out _ _ (hS18) (fun hSA3 => ?_)
 clear hK K
 refine tq 19 rfl hSA3 ?_
 refine tq 20 rfl hSA3 ?_
 refine ry 21 rfl fun K hK => ?_
 have c21 := L18.out.cmark
 have f21 := L18.out.blk.frozen 3
 go_simp
 obtain ⟨wt21, hwt21⟩ : ∃ z, z = wt18.setCell ⟨g, 3, none⟩ (.int .u64 (G : Int)) := ⟨_, rfl⟩
 rw [← hwt21]
 have hl21 := L18.out.setMark G HG9.out
 rw [← hwt21] at hl21
 have L21 := hide hl21
 have OT21 := hide (show Only (fun i => i = g) wt18 wt21 by rw [hwt21]; exact Only.cell1 wt18 g 3 _)
 have hS21 := range_only hSA3 OT21.out (fun h => by have h9 : w5.heap.size = g := h; have := HGL.out; have := W26.out.2; have := M5.out.below.size; omega)
 clear hwt21 hl21 c21 f21
 refine hK.out _ _ (hS21) (fun hSA4 => ?_)
 clear hK K
 refine tq 22 rfl hSA4 ?_
 refine tq 23 rfl hSA4 ?_
 refine ry 24 rfl fun K hK => ?_
 refine step_storeB rfl 104 _ _ rfl g 4 106 _ (bcs T2) (by rfl) (by rfl) L21.out.blk (by rw [logCells_len L21.out.len, bcs_length, HT2L.out]; decide) (by rw [bcs_length, HT2L.out]; exact isH32) (bcs_one _) ?_
 intro wt24 oz zz bz
 rw [log_setWard L21.out.len T2 HT2L.out] at bz
 have L24 := hide (L21.out.setWard HT2L.out HT2B.out bz)
 have OT24 := hide oz
 have hS24 := range_only hSA4 oz (fun h => by have h9 : w5.heap.size = g := h; have := HGL.out; have := W26.out.2; have := M5.out.below.size; omega)
 clear oz zz bz
 simp only [Act.put]
 refine hK.out _ _ (hS24) (fun hSA5 => ?_)
 clear hK K
 refine tq 25 rfl hSA5 ?_
 refine tq 26 rfl hSA5 ?_
 refine ry 27 rfl fun K hK => ?_
 have c27 := L24.out.cready
 have f27 := L24.out.blk.frozen 36
 go_simp
 obtain ⟨wt27, hwt27⟩ : ∃ z, z = wt24.setCell ⟨g, 36, none⟩ (.bool true) := ⟨_, rfl⟩
 rw [← hwt27]
 have hl27 := L24.out.setReady true
 rw [← hwt27] at hl27
 have L27 := hide hl27
 have OT27 := hide (show Only (fun i => i = g) wt24 wt27 by rw [hwt27]; exact Only.cell1 wt24 g 36 _)
 have hS27 := range_only hSA5 OT27.out (fun h => by have h9 : w5.heap.size = g := h; have := HGL.out; have := W26.out.2; have := M5.out.below.size; omega)
 clear hwt27 hl27 c27 f27
 refine hK.out _ _ (hS27) (fun hSA6 => ?_)
 clear hK K
 refine wpAnyH_done (by kernel_rfl) ?_ _
 go_wp2_with fail
 go_ret
 rw [HS.out, if_neg (fun h => h rfl), if_neg (fun h => h rfl), if_neg (fun h => h rfl)]
 have OG := (((OT15.out.trans OT18.out (fun _ _ h => h)).trans OT21.out (fun _ _ h => h)).trans OT24.out (fun _ _ h => h)).trans OT27.out (fun _ _ h => h)
 exact ⟨rfl, F9, (H9.out.under BdA.out).keep OG (fun i hi e => by have e9 : i = g := e; subst e9; exact NGG.out F9 GB9.out hi), L27.out, (OA9.out.trans (Only.of_below BdA.out (fun _ => False)) (fun _ _ h => h.elim)).trans OG (fun i _ h => .inr h), fun i hi => (GB9.out i hi).imp id (fun h => by have := W26.out.1; omega)⟩
end
end Go.Proofs.YtjnpkcabkccaoaaGreat
