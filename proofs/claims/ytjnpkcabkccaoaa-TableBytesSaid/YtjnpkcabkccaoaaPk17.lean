import Derived.Test.YtjnpkcabkccaoaaPk16
import Derived.Test.YtjnpkcabkccaoaaPk9
/-
  table: where a key stands; Get, All.
-/
namespace Go.Proofs.Ytjnpkcabkccaoaa
open Go.RowKit

attribute [local go_sem ↓] loadPr_fold
set_option maxHeartbeats 8000000 in
set_option maxRecDepth 100000 in
theorem Search_any (w : World) (A : Option Addr) (n c : Nat) (xs : List PairV) (q : PairV) (hX : PairsIn w A n xs) (hq : q.Fine w) (hn : n ≤ 1000000000000) (hs : Sorted (xs.map PairV.d)) :
    Calls Try.prog 144 #[.slice A n c, .agg q.cells.toArray, .func (.func 119) #[] #[]] w
      fun e w' => e = .returned (.tuple #[.int .i64 (placeP (xs.map PairV.d) q.key : Int), .bool (foundP (xs.map PairV.d) q.key)]) ∧ Below w.heap.size w w' := by
  have n9 : (n : Int) ≤ 1000000000000 := by omega
  obtain ⟨L, hL⟩ : ∃ L, L = xs.map PairV.d := ⟨_, rfl⟩
  have HL := hide hL
  rw [← hL] at hs ⊢
  have HLN := hide (show L.length = n by rw [hL, List.length_map, hX.1])
  obtain ⟨P, hP⟩ : ∃ P, P = placeP L q.key := ⟨_, rfl⟩
  have HP := hide hP
  have HPN := hide (show P ≤ n by rw [hP, ← HLN.out]; exact placeP_le _ _)
  have HLT := hide (fun (j : Nat) (x : PairV) (hj : xs[j]? = some x) => (show lex x.key q.key < 0 ↔ j < P by
    have := placeP_lt (f := q.key) hs j x.d (by rw [hL]; exact pmap_get hj)
    rw [hP]; exact this))
  have HFD := hide (show foundP L q.key = match L[P]? with | none => false | some p => decide (lex p.key q.key = 0) by rw [hP]; rfl)
  rw [← hP]
  obtain ⟨w1, hw1⟩ : ∃ z, z = w.alloc (.cells q.cells.toArray 100) := ⟨_, rfl⟩
  have B1 := hide (show Below w.heap.size w w1 by rw [hw1]; exact below_alloc (Below.refl _ _) _)
  have K1 := hide (show Blk w1 w.heap.size 100 q.cells by rw [hw1]; exact Blk.new w _ _)
  have X1 := hide (hX.below' B1.out)
  have Q1 := hide (hq.below B1.out)
  have hw1' : w.alloc (.cells q.cells.toArray 100) = w1 := hw1.symm
  clear hX hq hn hs hL hP hw1
  go_enter Try.func144, Try.ntmps144
  go_wp2_with fail
  try rw [hw1']
  clear hw1'
  go_loopw [9, 10] (fun i j wr => ∃ lo hi : Nat, i = .int .i64 (lo : Int) ∧ j = .int .i64 (hi : Int) ∧ lo ≤ P ∧ P ≤ hi ∧ hi ≤ n ∧ Below w1.heap.size w1 wr) (fun i j _ => (intOf j).toNat - (intOf i).toNat)
  case atStart => exact ⟨0, n, rfl, rfl, Nat.zero_le _, HPN.out, Nat.le_refl _, Below.refl _ _⟩
  case round =>
    obtain ⟨lo, hi, rfl, rfl, h1, h2, h3, hb⟩ := hrel
    have HB := hide hb
    have XR := hide (X1.out.below' hb)
    have QR := hide (Q1.out.below hb)
    have KR := hide (K1.out.under hb)
    by_cases hlt : lo < hi
    · obtain ⟨pb, off, hpa, hrow⟩ := XR.out.2.2 (by omega)
      subst hpa
      obtain ⟨mid, hmid⟩ : ∃ mid, mid = (lo + hi) / 2 := ⟨_, rfl⟩
      have HMID := hide (show lo ≤ mid ∧ mid < hi by omega)
      obtain ⟨x, hx⟩ : ∃ x, xs[mid]? = some x := ⟨_, List.getElem?_eq_getElem (by rw [XR.out.1]; omega)⟩
      have XF := hide (XR.out.2.1 x (List.mem_of_getElem? hx))
      have HROW := hide (hrow mid x hx)
      have HCM := hide (HLT.out mid x hx)
      have HH := hide (show lo ≤ P ∧ P ≤ hi ∧ hi ≤ n from ⟨h1, h2, h3⟩)
      have l0 : (0 : Int) ≤ (lo : Int) := by omega
      have i0 : (0 : Int) ≤ (hi : Int) := by omega
      have i1 : (lo : Int) < (hi : Int) := by omega
      have i2 : (hi : Int) ≤ (n : Int) := by omega
      have e2 : ((lo : Int) + (hi : Int)) / 2 = (mid : Int) := by omega
      have m0 : (0 : Int) ≤ (mid : Int) := by omega
      have m1 : (mid : Int) < (n : Int) := by omega
      clear hx hrow h1 h2 h3 hb hmid hlt
      go_wp2_with fail
      refine wp_region_held_drew (S := fun w' => Below wr.heap.size wr w') (by kernel_rfl) ((Below.refl _ _).drew) (fun hSA0 => ?_)
      obtain ⟨wrd, hwA⟩ : ∃ x, x = wr.drew := ⟨_, rfl⟩
      rw [← hwA] at hSA0 ⊢
      clear hwA
      (refine tk (i := 0) (oi := ⟨some 24, .move (.tmp 2), 179, "sort.go:160", #[], none⟩) (v := ?_) hSA0 (fun w' hSw => ?_) ?_; rotate_left; focus (go_simp; try with_reducible rfl))
      simp only [Act.put, sT, sZ, sS]
      (refine tk (i := 1) (oi := ⟨some 25, .move (.tmp 0), 94, "sort.go:160", #[], none⟩) (v := ?_) hSA0 (fun w' hSw => ?_) ?_; rotate_left; focus (go_simp; try with_reducible rfl))
      simp only [Act.put, sT, sZ, sS]
      (refine tk (i := 2) (oi := ⟨some 26, .move (.tmp 11), 3, "sort.go:160", #[], none⟩) (v := ?_) hSA0 (fun w' hSw => ?_) ?_; rotate_left; focus (go_simp; try with_reducible rfl))
      simp only [Act.put, sT, sZ, sS]
      (refine tk (i := 3) (oi := ⟨some 27, .indexAddr 94 (.tmp 25) (.tmp 26), 0, "sort.go:160", #[⟨1, .data⟩, ⟨2, .data⟩], none⟩) (v := ?_) hSA0 (fun w' hSw => ?_) ?_; rotate_left; focus (go_simp; try with_reducible rfl))
      simp only [Act.put, sT, sZ, sS]
      (refine tk (i := 4) (oi := ⟨some 28, .load 100 (.tmp 27), 100, "sort.go:160", #[⟨3, .data⟩], none⟩) (v := ?_) hSA0 (fun w' hSw => ?_) ?_; rotate_left; focus (have z := loadPr_run w' pb (off + mid * 3) x (range_under HROW.out hSw); go_simp; try with_reducible rfl))
      simp only [Act.put, sT, sZ, sS]
      (refine tk (i := 5) (oi := ⟨some 29, .load 100 (.tmp 4), 100, "sort.go:160", #[], none⟩) (v := ?_) hSA0 (fun w' hSw => ?_) ?_; rotate_left; focus (have z := loadPr_run w' w.heap.size 0 q (KR.out.under hSw).whole; go_simp; try with_reducible rfl))
      simp only [Act.put, sT, sZ, sS]
      refine wpAnyH_ready (rs := [6]) (by kernel_rfl) (by simp) ?_
      refine AllReadyH.cons rfl (fun K hK => ?_) AllReadyH.nil
      go_simp
      refine (byKey_any wrd x q (XF.out.below hSA0) (QR.out.below hSA0)).mono ?_
      rintro e w5 ⟨rfl, b5⟩
      go_simp
      refine hK.out _ _ (Below.then_ hSA0 b5) (fun hSA1 => ?_)
      clear hK K
      (refine tk (i := 7) (oi := ⟨some 31, .binOp .lss 3 (.tmp 30) (.const (.int .i64 0)) 3, 4, "sort.go:160", #[⟨6, .data⟩], none⟩) (v := ?_) hSA1 (fun w' hSw => ?_) ?_; rotate_left; focus (go_simp; try with_reducible rfl))
      simp only [Act.put, sT, sZ, sS]
      refine wpAnyH_done (by kernel_rfl) ?_ _
      by_cases hc : lex x.key q.key < 0
      · have dc : decide (lex x.key q.key < 0) = true := decide_eq_true hc
        have HC := hide (HCM.out.1 hc)
        go_wp2_with fail
        exact ⟨⟨mid + 1, hi, by go_num, rfl, by have := HC.out; omega, HH.out.2.1, HH.out.2.2, Below.then_ HB.out hSA1⟩, by have := HMID.out; simp [intOf]; omega⟩
      · have dc : decide (lex x.key q.key < 0) = false := decide_eq_false hc
        have HC := hide (show ¬ mid < P from fun h9 => hc (HCM.out.2 h9))
        go_wp2_with fail
        exact ⟨⟨lo, mid, rfl, rfl, HH.out.1, by have := HC.out; omega, by have := HH.out; have := HMID.out; omega, Below.then_ HB.out hSA1⟩, by have := HMID.out; simp [intOf]; omega⟩
    · have HE := hide (show lo = P ∧ hi = P by omega)
      have i1 : ¬ (lo : Int) < (hi : Int) := by omega
      clear h1 h2 h3 hb hlt
      rcases Nat.lt_or_ge P n with hp | hp
      · obtain ⟨pb, off, hpa, hrow⟩ := XR.out.2.2 (by omega)
        subst hpa
        obtain ⟨x, hx⟩ : ∃ x, xs[P]? = some x := ⟨_, List.getElem?_eq_getElem (by rw [XR.out.1]; omega)⟩
        have XF := hide (XR.out.2.1 x (List.mem_of_getElem? hx))
        have HROW := hide (hrow P x hx)
        have FD := hide (show foundP L q.key = decide (lex x.key q.key = 0) by rw [HFD.out, HL.out, pmap_get hx]; rfl)
        have l0 : (0 : Int) ≤ (lo : Int) := by omega
        have l1 : lo < n := by have := HE.out.1; omega
        have l2 : (lo : Int) < (n : Int) := by omega
        clear hx hrow hp
        have HROWl := hide (show wr.rangeAt pb (off + lo * 3) x.cells by have := HE.out.1; subst this; exact HROW.out)
        go_wp2_with fail
        refine wp_region_held_drew (S := fun w' => Below wr.heap.size wr w') (by kernel_rfl) ((Below.refl _ _).drew) (fun hSB0 => ?_)
        obtain ⟨wrd, hwB⟩ : ∃ x, x = wr.drew := ⟨_, rfl⟩
        rw [← hwB] at hSB0 ⊢
        clear hwB
        (refine tk (i := 0) (oi := ⟨some 35, .move (.tmp 9), 3, "sort.go:167", #[], none⟩) (v := ?_) hSB0 (fun w' hSw => ?_) ?_; rotate_left; focus (go_simp; try with_reducible rfl))
        simp only [Act.put, sT, sZ, sS]
        (refine tk (i := 1) (oi := ⟨some 36, .move (.tmp 9), 3, "sort.go:167", #[], none⟩) (v := ?_) hSB0 (fun w' hSw => ?_) ?_; rotate_left; focus (go_simp; try with_reducible rfl))
        simp only [Act.put, sT, sZ, sS]
        (refine tk (i := 2) (oi := ⟨some 37, .move (.tmp 8), 3, "sort.go:167", #[], none⟩) (v := ?_) hSB0 (fun w' hSw => ?_) ?_; rotate_left; focus (go_simp; try with_reducible rfl))
        simp only [Act.put, sT, sZ, sS]
        (refine tk (i := 3) (oi := ⟨some 38, .binOp .lss 3 (.tmp 36) (.tmp 37) 3, 4, "sort.go:167", #[⟨1, .data⟩, ⟨2, .data⟩], none⟩) (v := ?_) hSB0 (fun w' hSw => ?_) ?_; rotate_left; focus (go_simp; try with_reducible rfl))
        simp only [Act.put, sT, sZ, sS]
        (refine tk (i := 4) (oi := ⟨some 39, .move (.tmp 38), 4, "sort.go:167", #[⟨3, .data⟩], none⟩) (v := ?_) hSB0 (fun w' hSw => ?_) ?_; rotate_left; focus (go_simp; try with_reducible rfl))
        simp only [Act.put, sT, sZ, sS]
        (refine tk (i := 5) (oi := ⟨some 40, .move (.tmp 2), 179, "sort.go:167", #[⟨4, .guard⟩], some (4, true)⟩) (v := ?_) hSB0 (fun w' hSw => ?_) ?_; rotate_left; focus (go_simp; try with_reducible rfl))
        simp only [Act.put, sT, sZ, sS]
        (refine tk (i := 6) (oi := ⟨some 41, .move (.tmp 0), 94, "sort.go:167", #[⟨4, .guard⟩], some (4, true)⟩) (v := ?_) hSB0 (fun w' hSw => ?_) ?_; rotate_left; focus (go_simp; try with_reducible rfl))
        simp only [Act.put, sT, sZ, sS]
        (refine tk (i := 7) (oi := ⟨some 42, .move (.tmp 9), 3, "sort.go:167", #[⟨4, .guard⟩], some (4, true)⟩) (v := ?_) hSB0 (fun w' hSw => ?_) ?_; rotate_left; focus (go_simp; try with_reducible rfl))
        simp only [Act.put, sT, sZ, sS]
        (refine tk (i := 8) (oi := ⟨some 43, .indexAddr 94 (.tmp 41) (.tmp 42), 0, "sort.go:167", #[⟨6, .data⟩, ⟨7, .data⟩, ⟨4, .guard⟩], some (4, true)⟩) (v := ?_) hSB0 (fun w' hSw => ?_) ?_; rotate_left; focus (go_simp; try with_reducible rfl))
        simp only [Act.put, sT, sZ, sS]
        (refine tk (i := 9) (oi := ⟨some 44, .load 100 (.tmp 43), 100, "sort.go:167", #[⟨8, .data⟩, ⟨4, .guard⟩], some (4, true)⟩) (v := ?_) hSB0 (fun w' hSw => ?_) ?_; rotate_left; focus (have z := loadPr_run w' pb (off + lo * 3) x (range_under HROWl.out hSw); go_simp; try with_reducible rfl))
        simp only [Act.put, sT, sZ, sS]
        (refine tk (i := 10) (oi := ⟨some 45, .load 100 (.tmp 4), 100, "sort.go:167", #[⟨4, .guard⟩], some (4, true)⟩) (v := ?_) hSB0 (fun w' hSw => ?_) ?_; rotate_left; focus (have z := loadPr_run w' w.heap.size 0 q (KR.out.under hSw).whole; go_simp; try with_reducible rfl))
        simp only [Act.put, sT, sZ, sS]
        refine wpAnyH_ready (rs := [11]) (by kernel_rfl) (by simp) ?_
        refine AllReadyH.cons rfl (fun K hK => ?_) AllReadyH.nil
        go_simp
        refine (byKey_any wrd x q (XF.out.below hSB0) (QR.out.below hSB0)).mono ?_
        rintro e w5 ⟨rfl, b5⟩
        go_simp
        refine hK.out _ _ (Below.then_ hSB0 b5) (fun hSB1 => ?_)
        clear hK K
        (refine tk (i := 12) (oi := ⟨some 47, .binOp .eql 3 (.tmp 46) (.const (.int .i64 0)) 3, 4, "sort.go:167", #[⟨11, .data⟩, ⟨4, .guard⟩, ⟨14, .gcOnly .lateStores⟩], some (4, true)⟩) (v := ?_) hSB1 (fun w' hSw => ?_) ?_; rotate_left; focus (go_simp; try with_reducible rfl))
        simp only [Act.put, sT, sZ, sS]
        (refine tk (i := 13) (oi := ⟨some 48, .pick (.tmp 39) (.tmp 47) (.const (.bool Bool.false)), 4, "sort.go:167", #[⟨4, .data⟩, ⟨12, .data⟩, ⟨14, .gcOnly .lateStores⟩], none⟩) (v := ?_) hSB1 (fun w' hSw => ?_) ?_; rotate_left; focus (go_simp; try with_reducible rfl))
        simp only [Act.put, sT, sZ, sS]
        (refine tk (i := 14) (oi := ⟨some 6, .assign (.tmp 35), 3, "sort.go:167", #[⟨0, .data⟩, ⟨11, .chain⟩, ⟨0, .phase⟩, { on := 1, ground := Go.Ground.textOnly Go.Departure.lateStores }, { on := 2, ground := Go.Ground.textOnly Go.Departure.lateStores }, { on := 3, ground := Go.Ground.textOnly Go.Departure.lateStores }, { on := 4, ground := Go.Ground.textOnly Go.Departure.lateStores }, { on := 5, ground := Go.Ground.textOnly Go.Departure.lateStores }, { on := 6, ground := Go.Ground.textOnly Go.Departure.lateStores }, { on := 7, ground := Go.Ground.textOnly Go.Departure.lateStores }, { on := 8, ground := Go.Ground.textOnly Go.Departure.lateStores }, { on := 9, ground := Go.Ground.textOnly Go.Departure.lateStores }, { on := 10, ground := Go.Ground.textOnly Go.Departure.lateStores }, { on := 11, ground := Go.Ground.textOnly Go.Departure.lateStoresUnsure }, { on := 12, ground := Go.Ground.textOnly Go.Departure.lateStores }, { on := 13, ground := Go.Ground.textOnly Go.Departure.lateStores }], none⟩) (v := ?_) hSB1 (fun w' hSw => ?_) ?_; rotate_left; focus (go_simp; try with_reducible rfl))
        simp only [Act.put, sT, sZ, sS]
        (refine tk (i := 15) (oi := ⟨some 7, .assign (.tmp 48), 4, "sort.go:167", #[⟨13, .data⟩, ⟨14, .chain⟩, ⟨0, .phase⟩, ⟨1, .phase⟩, ⟨2, .phase⟩, ⟨3, .phase⟩, ⟨4, .phase⟩, ⟨5, .phase⟩, ⟨6, .phase⟩, ⟨7, .phase⟩, ⟨8, .phase⟩, ⟨9, .phase⟩, ⟨10, .phase⟩, ⟨11, .phase⟩, ⟨12, .phase⟩, ⟨13, .phase⟩, ⟨14, .phase⟩], none⟩) (v := ?_) hSB1 (fun w' hSw => ?_) ?_; rotate_left; focus (go_simp; try with_reducible rfl))
        simp only [Act.put, sT, sZ, sS]
        refine wpAnyH_done (by kernel_rfl) ?_ _
        go_wp2_with fail
        go_ret2
        exact ⟨by rw [FD.out, HE.out.1]; first | rfl | (congr 3; rw [Bool.eq_iff_iff]; simp) | (simp; done), Below.then_ B1.out (Below.then_ HB.out hSB1)⟩
      · have FD := hide (show foundP L q.key = false by rw [HFD.out, List.getElem?_eq_none (by rw [HLN.out]; exact hp)])
        have l0 : (0 : Int) ≤ (lo : Int) := by omega
        have l1 : ¬ lo < n := by have := HE.out.1; omega
        have l2 : ¬ (lo : Int) < (n : Int) := by omega
        clear hp
        go_wp2_with fail
        refine wp_region_held_drew (S := fun w' => Below wr.heap.size wr w') (by kernel_rfl) ((Below.refl _ _).drew) (fun hSC0 => ?_)
        obtain ⟨wrd, hwC⟩ : ∃ x, x = wr.drew := ⟨_, rfl⟩
        rw [← hwC] at hSC0 ⊢
        clear hwC
        (refine tk (i := 0) (oi := ⟨some 35, .move (.tmp 9), 3, "sort.go:167", #[], none⟩) (v := ?_) hSC0 (fun w' hSw => ?_) ?_; rotate_left; focus (go_simp; try with_reducible rfl))
        simp only [Act.put, sT, sZ, sS]
        (refine tk (i := 1) (oi := ⟨some 36, .move (.tmp 9), 3, "sort.go:167", #[], none⟩) (v := ?_) hSC0 (fun w' hSw => ?_) ?_; rotate_left; focus (go_simp; try with_reducible rfl))
        simp only [Act.put, sT, sZ, sS]
        (refine tk (i := 2) (oi := ⟨some 37, .move (.tmp 8), 3, "sort.go:167", #[], none⟩) (v := ?_) hSC0 (fun w' hSw => ?_) ?_; rotate_left; focus (go_simp; try with_reducible rfl))
        simp only [Act.put, sT, sZ, sS]
        (refine tk (i := 3) (oi := ⟨some 38, .binOp .lss 3 (.tmp 36) (.tmp 37) 3, 4, "sort.go:167", #[⟨1, .data⟩, ⟨2, .data⟩], none⟩) (v := ?_) hSC0 (fun w' hSw => ?_) ?_; rotate_left; focus (go_simp; try with_reducible rfl))
        simp only [Act.put, sT, sZ, sS]
        (refine tk (i := 4) (oi := ⟨some 39, .move (.tmp 38), 4, "sort.go:167", #[⟨3, .data⟩], none⟩) (v := ?_) hSC0 (fun w' hSw => ?_) ?_; rotate_left; focus (go_simp; try with_reducible rfl))
        simp only [Act.put, sT, sZ, sS]
        refine tn (i := 5) (oi := ⟨some 40, .move (.tmp 2), 179, "sort.go:167", #[⟨4, .guard⟩], some (4, true)⟩) hSC0 ?_
        simp only [Act.put, sT, sZ, sS]
        refine tn (i := 6) (oi := ⟨some 41, .move (.tmp 0), 94, "sort.go:167", #[⟨4, .guard⟩], some (4, true)⟩) hSC0 ?_
        simp only [Act.put, sT, sZ, sS]
        refine tn (i := 7) (oi := ⟨some 42, .move (.tmp 9), 3, "sort.go:167", #[⟨4, .guard⟩], some (4, true)⟩) hSC0 ?_
        simp only [Act.put, sT, sZ, sS]
        refine tn (i := 8) (oi := ⟨some 43, .indexAddr 94 (.tmp 41) (.tmp 42), 0, "sort.go:167", #[⟨6, .data⟩, ⟨7, .data⟩, ⟨4, .guard⟩], some (4, true)⟩) hSC0 ?_
        simp only [Act.put, sT, sZ, sS]
        refine tn (i := 9) (oi := ⟨some 44, .load 100 (.tmp 43), 100, "sort.go:167", #[⟨8, .data⟩, ⟨4, .guard⟩], some (4, true)⟩) hSC0 ?_
        simp only [Act.put, sT, sZ, sS]
        refine tn (i := 10) (oi := ⟨some 45, .load 100 (.tmp 4), 100, "sort.go:167", #[⟨4, .guard⟩], some (4, true)⟩) hSC0 ?_
        simp only [Act.put, sT, sZ, sS]
        refine tn (i := 11) (oi := ⟨some 46, .call { callee := .value (.tmp 40), args := #[.tmp 44, .tmp 45], argTypes := #[100, 100] }, 3, "sort.go:167", #[⟨5, .data⟩, ⟨9, .data⟩, ⟨10, .data⟩, ⟨4, .chain⟩, ⟨4, .guard⟩], some (4, true)⟩) hSC0 ?_
        simp only [Act.put, sT, sZ, sS]
        refine tn (i := 12) (oi := ⟨some 47, .binOp .eql 3 (.tmp 46) (.const (.int .i64 0)) 3, 4, "sort.go:167", #[⟨11, .data⟩, ⟨4, .guard⟩, ⟨14, .gcOnly .lateStores⟩], some (4, true)⟩) hSC0 ?_
        simp only [Act.put, sT, sZ, sS]
        (refine tk (i := 13) (oi := ⟨some 48, .pick (.tmp 39) (.tmp 47) (.const (.bool Bool.false)), 4, "sort.go:167", #[⟨4, .data⟩, ⟨12, .data⟩, ⟨14, .gcOnly .lateStores⟩], none⟩) (v := ?_) hSC0 (fun w' hSw => ?_) ?_; rotate_left; focus (go_simp; try with_reducible rfl))
        simp only [Act.put, sT, sZ, sS]
        (refine tk (i := 14) (oi := ⟨some 6, .assign (.tmp 35), 3, "sort.go:167", #[⟨0, .data⟩, ⟨11, .chain⟩, ⟨0, .phase⟩, { on := 1, ground := Go.Ground.textOnly Go.Departure.lateStores }, { on := 2, ground := Go.Ground.textOnly Go.Departure.lateStores }, { on := 3, ground := Go.Ground.textOnly Go.Departure.lateStores }, { on := 4, ground := Go.Ground.textOnly Go.Departure.lateStores }, { on := 5, ground := Go.Ground.textOnly Go.Departure.lateStores }, { on := 6, ground := Go.Ground.textOnly Go.Departure.lateStores }, { on := 7, ground := Go.Ground.textOnly Go.Departure.lateStores }, { on := 8, ground := Go.Ground.textOnly Go.Departure.lateStores }, { on := 9, ground := Go.Ground.textOnly Go.Departure.lateStores }, { on := 10, ground := Go.Ground.textOnly Go.Departure.lateStores }, { on := 11, ground := Go.Ground.textOnly Go.Departure.lateStoresUnsure }, { on := 12, ground := Go.Ground.textOnly Go.Departure.lateStores }, { on := 13, ground := Go.Ground.textOnly Go.Departure.lateStores }], none⟩) (v := ?_) hSC0 (fun w' hSw => ?_) ?_; rotate_left; focus (go_simp; try with_reducible rfl))
        simp only [Act.put, sT, sZ, sS]
        (refine tk (i := 15) (oi := ⟨some 7, .assign (.tmp 48), 4, "sort.go:167", #[⟨13, .data⟩, ⟨14, .chain⟩, ⟨0, .phase⟩, ⟨1, .phase⟩, ⟨2, .phase⟩, ⟨3, .phase⟩, ⟨4, .phase⟩, ⟨5, .phase⟩, ⟨6, .phase⟩, ⟨7, .phase⟩, ⟨8, .phase⟩, ⟨9, .phase⟩, ⟨10, .phase⟩, ⟨11, .phase⟩, ⟨12, .phase⟩, ⟨13, .phase⟩, ⟨14, .phase⟩], none⟩) (v := ?_) hSC0 (fun w' hSw => ?_) ?_; rotate_left; focus (go_simp; try with_reducible rfl))
        simp only [Act.put, sT, sZ, sS]
        refine wpAnyH_done (by kernel_rfl) ?_ _
        go_wp2_with fail
        go_ret2
        exact ⟨by rw [FD.out, HE.out.1]; first | rfl | (congr 3; rw [Bool.eq_iff_iff]; simp) | (simp; done), Below.then_ B1.out (Below.then_ HB.out hSC0)⟩
end Go.Proofs.Ytjnpkcabkccaoaa
/-
  table: place, Get, All.
-/
namespace Go.Proofs.Ytjnpkcabkccaoaa
open Go.RowKit

attribute [local go_sem ↓] mkPr_fold
set_option maxHeartbeats 2000000 in
set_option maxRecDepth 100000 in
theorem place_any (w0 w : World) (t g b : Nat) (F : Nat → Prop) (d : Dev) (T : TableD) (A : Option Addr) (k c : Nat) (xs : List PairV) (hT : TabG w0 w t g b F d T A k c xs) (hOk : T.Ok) (B : Option Addr) (n q : Nat) (key : List Int) (hB : Bys w B n key) (hq : n ≤ q) :
    Calls Try.prog 123 #[.pointer (some ⟨t, 0, none⟩), .slice B n q] w fun e w' => e = .returned (.tuple #[.int .i64 (placeP T.pairs key : Int), .bool (foundP T.pairs key)]) ∧ Below w.heap.size w w' := by
  have hk : k ≤ 300000 := by
    have h7 := right_len hOk.right
    have h8 := hOk.size
    have h9 := congrArg List.length hT.data
    rw [List.length_map, hT.keep.in_.1] at h9
    omega
  have hs := hide (Search_any w A k c xs ⟨B, n, q, key, none, 0, 0, [], false⟩ hT.keep.in_ ⟨hB, hq, Bys.nil _ _, Nat.le_refl _⟩ (by omega) (by rw [hT.data]; exact right_sorted hOk.right))
  rw [hT.data] at hs
  have c2 := hT.cells.2.2
  have hmk := mkPr_key w B n q
  clear hT hOk hB hq hk
  go_enter Try.func123, Try.ntmps123
  go_wp2_with fail
  refine hs.out.mono ?_
  rintro e w1 ⟨rfl, b1⟩
  have B1 := hide b1
  clear b1
  go_wp2_with fail
  go_ret2
  exact ⟨rfl, B1.out⟩
def GetPost (w : World) (l : List PairD) (key : List Int) (e : Ending) (w' : World) : Prop :=
  Below w.heap.size w w' ∧ ((foundP l key = false ∧ e = .returned (.tuple #[.slice none 0 0, .bool false])) ∨
    ∃ (p : PairD) (A : Option Addr) (n c : Nat), foundP l key = true ∧ l[placeP l key]? = some p ∧ e = .returned (.tuple #[.slice A n c, .bool true]) ∧ Bys w' A n p.value ∧ n ≤ c)
theorem found_at {l : List PairD} {key : List Int} (h : foundP l key = true) : ∃ p, l[placeP l key]? = some p ∧ p.key = key := by
  unfold foundP at h
  cases hg : l[placeP l key]? with
  | none => rw [hg] at h; cases h
  | some p => rw [hg] at h; exact ⟨p, rfl, lex_zero _ _ (of_decide_eq_true h)⟩
set_option maxHeartbeats 2000000 in
set_option maxRecDepth 100000 in
theorem Get_any (w0 w : World) (t g b : Nat) (F : Nat → Prop) (d : Dev) (T : TableD) (hT : TabW w0 w t g b F d T) (hOk : T.Ok) (B : Option Addr) (n q : Nat) (key : List Int) (hB : Bys w B n key) (hq : n ≤ q) :
    Calls Try.prog 76 #[.pointer (some ⟨t, 0, none⟩), .slice B n q] w (GetPost w T.pairs key) := by
  obtain ⟨A, k, c, xs, hG⟩ := hT
  have H := hide hG
  have OK := hide hOk
  have hp := hide (place_any w0 w t g b F d T A k c xs hG hOk B n q key hB hq)
  have hk : k ≤ 300000 := by
    have h7 := right_len hOk.right
    have h8 := hOk.size
    have h9 := congrArg List.length hG.data
    rw [List.length_map, hG.keep.in_.1] at h9
    omega
  have k9 : (k : Int) ≤ 300000 := by omega
  clear hG hOk hB hq hk
  go_enter Try.func76, Try.ntmps76
  go_wp2_with fail
  refine hp.out.mono ?_
  rintro e w1 ⟨rfl, b1⟩
  have B1 := hide b1
  have H1 := hide (H.out.under b1)
  clear b1 hp
  cases hf : foundP T.pairs key with
  | false =>
    have HF := hide hf
    clear hf
    go_wp2_with fail
    go_ret2
    exact ⟨B1.out, .inl ⟨HF.out, rfl⟩⟩
  | true =>
    obtain ⟨p, hp, hpk⟩ := found_at hf
    have HF := hide hf
    have HP := hide hp
    obtain ⟨P, hP⟩ : ∃ P, P = placeP T.pairs key := ⟨_, rfl⟩
    have HPP := hide hP
    rw [← hP] at hp ⊢
    have hpl : P < k := by
      have h1 := (List.getElem?_eq_some_iff.1 hp).1
      have h9 := congrArg List.length H.out.data
      rw [List.length_map, H.out.keep.in_.1] at h9
      omega
    obtain ⟨x, hx⟩ : ∃ x, xs[P]? = some x := ⟨_, List.getElem?_eq_getElem (by rw [H.out.keep.in_.1]; exact hpl)⟩
    have hxd : x.d = p := by
      have h1 := pmap_get hx
      rw [H.out.data, hp] at h1
      injection h1 with h1
      exact h1.symm
    obtain ⟨pb, off, hpa, hrow⟩ := H1.out.keep.in_.2.2 (by omega)
    subst hpa
    have hr := hrow P x hx
    have v1 : w1.cell? ⟨pb, off + P * 3 + 1, none⟩ = some (.slice x.vA x.vN x.vC) := hr 1 _ rfl
    have XF := hide (H1.out.keep.in_.2.1 x (List.mem_of_getElem? hx))
    have HXD := hide hxd
    have HXN := hide (show x.vN ≤ 20000 by
      have h1 := ((okB_iff _).1 (right_ok OK.out.right p (List.mem_of_getElem? hp))).2.2.1
      rw [← hxd] at h1
      have h2 := XF.out.value.1
      have h3 : x.value.length ≤ 20000 := h1
      omega)
    have c2 := H1.out.cells.2.2
    have p0 : (0 : Int) ≤ (P : Int) := by omega
    have p1 : (P : Int) < (k : Int) := by omega
    clear hf hp hpk hP hpl hx hxd hrow hr
    go_wp2_with fail
    refine (clone_any w1 w1 x.vA x.vN x.vC x.value (Below.refl _ _) XF.out.value (by have := HXN.out; omega)).mono ?_
    rintro e w2 hm
    obtain ⟨A2, n2, c2', rfl, t2, f2⟩ := hm.fresh
    have T2 := hide t2
    clear hm t2 f2
    go_wp2_with fail
    go_ret2
    exact ⟨Below.then_ B1.out T2.out.below, .inr ⟨p, A2, n2, c2', HF.out, HP.out, rfl, by rw [← HXD.out]; exact T2.out.bys, T2.out.cap⟩⟩
set_option maxHeartbeats 1000000 in
theorem TAll_any (w0 w : World) (t g b : Nat) (F : Nat → Prop) (d : Dev) (T : TableD) (hT : TabW w0 w t g b F d T) (hOk : T.Ok) :
    Calls Try.prog 74 #[.pointer (some ⟨t, 0, none⟩)] w (PMergePost w T.pairs) := by
  obtain ⟨A, k, c, xs, hG⟩ := hT
  have hk : k ≤ 300000 := by
    have h7 := right_len hOk.right
    have h8 := hOk.size
    have h9 := congrArg List.length hG.data
    rw [List.length_map, hG.keep.in_.1] at h9
    omega
  have hm := hide (PMerge_any w A k c xs none 0 0 [] hG.keep.in_ (RowsIn.nil _ _ _ _ _) hG.cap (Nat.le_refl _) (by omega) (by decide) (right_small hG.keep.in_ (by rw [hG.data]; exact hOk.right)) (by simp))
  rw [hG.data, List.map_nil, mergeD_nil] at hm
  have c2 := hG.cells.2.2
  clear hG hOk hk
  go_enter Try.func74, Try.ntmps74
  go_wp2_with fail
  refine hm.out.mono ?_
  rintro e w1 ⟨A1, k1, c1, zs, rfl, hz, hr, hb⟩
  have HZ := hide hz
  have HR := hide hr
  have HB := hide hb
  clear hz hr hb hm
  go_wp2_with fail
  go_ret
  exact ⟨A1, k1, c1, zs, rfl, HZ.out, HR.out, HB.out⟩
end Go.Proofs.Ytjnpkcabkccaoaa
/-
  table: bytes.HasPrefix; Range.
-/
namespace Go.Proofs.Ytjnpkcabkccaoaa
open Go.RowKit

set_option maxHeartbeats 1000000 in
set_option maxRecDepth 100000 in
theorem HasPrefix_any (w : World) (A B : Option Addr) (n c m d : Nat) (key pre : List Int) (hA : Bys w A n key) (hB : Bys w B m pre) (hc : n ≤ c) (hn : n ≤ 1000000000000) (hm : m ≤ 1000000000000) :
    Calls Try.prog 124 #[.slice A n c, .slice B m d] w fun e w' => e = .returned (.bool (preB pre key)) ∧ w = w' := by
  have hE : preB pre key = (decide (m ≤ n) && decide (key.take m = pre)) := by rw [preB, hA.1, hB.1]
  have HE := hide hE
  by_cases hle : m ≤ n
  · obtain ⟨A2, hs1, hs2, hBB, _⟩ := slice_head A n c m hle hc
    have HEQ := hide (BytesEqual_any w A2 B m c m d (key.take m) pre (hBB w key hA) hB)
    have i0 : (0 : Int) ≤ (m : Int) := by omega
    have i1 : (m : Int) ≤ (n : Int) := by omega
    have n9 : (n : Int) ≤ 1000000000000 := by omega
    have dl : decide (m ≤ n) = true := decide_eq_true hle
    clear hE hA hB hBB
    go_enter Try.func124, Try.ntmps124
    go_wp2_with fail
    refine HEQ.out.mono ?_
    rintro e wz ⟨rfl, rfl⟩
    go_wp2_with fail
    go_ret
    exact ⟨by rw [HE.out, dl]; rfl, rfl⟩
  · have dl : decide (m ≤ n) = false := decide_eq_false hle
    have i1 : (n : Int) < (m : Int) := by omega
    clear hE hA hB
    go_enter Try.func124, Try.ntmps124
    go_wp2_with fail
    go_ret
    exact ⟨by rw [HE.out, dl]; rfl, rfl⟩
/-- A row of pairs from some place on. -/
theorem pslice_from (A : Option Addr) (m c U : Nat) (hm : U ≤ m) (hc : m ≤ c) : ∃ A' : Option Addr, (∀ w : World, (Instr.slice 94 (.slice A m c) (some (.int .i64 (U : Int))) none none).run Try.prog w = .ok (.slice A' (m - U) (c - U)) w) ∧
    (∀ w : World, (Instr.sliceAt 94 (.slice A m c) (some (.int .i64 (U : Int))) none none).run Try.prog w = .ok (.slice A' (m - U) (c - U)) w) ∧
    (∀ (w : World) (xs : List PairV), PairsIn w A m xs → PairsIn w A' (m - U) (xs.drop U)) := by
  have hel : Try.prog.elem 94 = 100 := by kernel_rfl
  have hu : Try.prog.underlying 94 = some (.slice (Try.prog.elem 94)) := by rw [hel]; exact Try.underlying94
  have hsz : (Try.prog.info? 100).map (·.size) = some 3 := isPr
  have h1 : ∀ w : World, (Instr.slice 94 (.slice A m c) (some (.int .i64 (U : Int))) none none).run Try.prog w = .ok (.slice (if c = U then A else A.map (·.add (U * 3))) (m - U) (c - U)) w := fun w => by
    have := run_slice_l (P := Try.prog) w 94 A m c hu .i64 U (by omega) (by omega)
    rw [hel, run_size hsz w] at this
    rw [this]
    by_cases h : c = U
    · simp [Result.andThen, sliced, h]
    · simp [Result.andThen, sliced, h]
  refine ⟨if c = U then A else A.map (·.add (U * 3)), h1, fun w => ?_, fun w xs hX => ?_⟩
  · rw [run_sliceAt_slice w _ _ _ _ _ hu]; exact h1 w
  · have hl : (xs.drop U).length = m - U := by rw [List.length_drop, hX.1]
    rcases Nat.eq_zero_or_pos (m - U) with h0 | h0
    · have e : xs.drop U = [] := List.eq_nil_of_length_eq_zero (by omega)
      rw [e, h0]
      exact RowsIn.nil _ _ _ _ _
    · obtain ⟨b, off, rfl, hr⟩ := hX.2.2 (by omega)
      have e2 : (some ⟨b, off, none⟩ : Option Addr).map (fun x => x.add (U * 3)) = some ⟨b, off + U * 3, none⟩ := by simp only [Option.map_some, Addr.add_mid]
      rw [if_neg (by omega), e2]
      refine ⟨hl, fun a ha => hX.2.1 a (List.mem_of_mem_drop ha), fun _ => ⟨b, off + U * 3, rfl, fun i a ha => ?_⟩⟩
      have := hr (U + i) a (by rw [← ha, List.getElem?_drop])
      rwa [show off + (U + i) * 3 = off + U * 3 + i * 3 by omega] at this
theorem range_stop (R : List PairD) (pre : List Int) (most : Int) (j : Nat) (h1 : ∀ x ∈ R.take j, preB pre x.key = true) (hj : j ≤ R.length) (h2 : j ≤ most.toNat)
    (h3 : most ≤ j ∨ j = R.length ∨ ∃ x, R[j]? = some x ∧ preB pre x.key = false) : (R.takeWhile fun p => preB pre p.key).take most.toNat = R.take j := by
  have e : R.takeWhile (fun p => preB pre p.key) = R.take j ++ (R.drop j).takeWhile fun p => preB pre p.key := by
    conv => lhs; rw [← List.take_append_drop j R]
    rw [List.takeWhile_append_of_pos h1]
  have hl : (R.take j).length = j := by rw [List.length_take]; omega
  rw [e, List.take_append, hl, List.take_of_length_le (by omega)]
  rcases h3 with h3 | h3 | ⟨x, h3, h4⟩
  · rw [show most.toNat - j = 0 by omega]; simp
  · rw [List.drop_of_length_le (by omega)]; simp
  · obtain ⟨hlt, he⟩ := List.getElem?_eq_some_iff.1 h3
    rw [List.drop_eq_getElem_cons hlt, he, List.takeWhile_cons, h4]; simp
theorem PRow.lower {base lo : Nat} {w : World} {A : Option Addr} {n c : Nat} {xs : List PairV} (h : PRow base w A n c xs) (hl : lo ≤ base) : PRow lo w A n c xs :=
  ⟨h.len, h.cap, Nat.le_trans hl h.low, by
    refine ⟨h.row.1, ?_⟩
    rcases h.row.2 with h0 | ⟨g, cap, cur, h1, h2, h3⟩
    · exact .inl h0
    · exact .inr ⟨g, cap, cur, h1, Nat.le_trans hl h2, h3⟩, fun x hx => (h.keep x hx).mono fun i _ hi => hi.imp (fun h9 => Nat.lt_of_lt_of_le h9 hl) id⟩
attribute [local go_sem ↓] loadPr_fold mkPrs1_fold
set_option maxHeartbeats 8000000 in
set_option maxRecDepth 100000 in
theorem range_from (w0 w : World) (t g b : Nat) (F : Nat → Prop) (d : Dev) (T : TableD) (hT : TabW w0 w t g b F d T) (hOk : T.Ok) (B : Option Addr) (n q : Nat) (pre : List Int) (hB : Bys w B n pre) (hq : n ≤ q) (hn : n ≤ 1000000000000)
    (C : Option Addr) (m r : Nat) (from_ : List Int) (hC : Bys w C m from_) (hr : m ≤ r) (most : Int) (hm : -9223372036854775808 ≤ most ∧ most ≤ 9223372036854775807) :
    Calls Try.prog 75 #[.pointer (some ⟨t, 0, none⟩), .slice B n q, .slice C m r, .int .i64 most] w (PMergePost w (rangeP T.pairs pre from_ most)) := by
  obtain ⟨A, k, c, xs, hG⟩ := hT
  have H := hide hG
  have OK := hide hOk
  have HB := hide hB
  have HC := hide hC
  have HQ := hide hq
  have HN := hide hn
  have hk : k ≤ 300000 := by
    have h7 := right_len hOk.right
    have h8 := hOk.size
    have h9 := congrArg List.length hG.data
    rw [List.length_map, hG.keep.in_.1] at h9
    omega
  have HK := hide hk
  have hcmp := hide (Compare_any w C B m r n q from_ pre hC hB)
  obtain ⟨m1, m2⟩ := hm
  obtain ⟨X, f, c', fr, hX, hfc, hsel⟩ : ∃ (X : Option Addr) (f c' : Nat) (fr : List Int), Bys w X f fr ∧ f ≤ c' ∧ ((lex from_ pre < 0 ∧ B = X ∧ n = f ∧ q = c' ∧ pre = fr) ∨ (¬ lex from_ pre < 0 ∧ C = X ∧ m = f ∧ r = c' ∧ from_ = fr)) := by
    by_cases h : lex from_ pre < 0
    · exact ⟨B, n, q, pre, hB, hq, .inl ⟨h, rfl, rfl, rfl, rfl⟩⟩
    · exact ⟨C, m, r, from_, hC, hr, .inr ⟨h, rfl, rfl, rfl, rfl⟩⟩
  have RQ := hide (show rangeP T.pairs pre from_ most = (((T.pairs.drop (placeP T.pairs fr)).takeWhile fun p => preB pre p.key)).take most.toNat by
    rcases hsel with ⟨h, _, _, _, h2⟩ | ⟨h, _, _, _, h2⟩
    · rw [rangeP, if_pos h, ← h2]
    · rw [rangeP, if_neg h, ← h2])
  have hpl := hide (place_any w0 w t g b F d T A k c xs hG hOk X f c' fr hX hfc)
  obtain ⟨P, hP⟩ : ∃ P, P = placeP T.pairs fr := ⟨_, rfl⟩
  rw [← hP] at hpl RQ
  have HPK := hide (show P ≤ k by
    have h8 := placeP_le T.pairs fr
    have h9 := congrArg List.length hG.data
    rw [List.length_map, hG.keep.in_.1] at h9
    omega)
  obtain ⟨A', hs1, hs2, hXX⟩ := pslice_from A k c P HPK.out hG.cap
  have HXX := hide hXX
  obtain ⟨R, hR⟩ : ∃ R, R = k - P := ⟨_, rfl⟩
  obtain ⟨Y, hY⟩ : ∃ Y, Y = foundP T.pairs fr := ⟨_, rfl⟩
  rw [← hY] at hpl
  have HRK := hide hR
  rw [← hR] at hs1 hs2 HXX
  have HRS := hide (show (xs.drop P).map PairV.d = T.pairs.drop P by rw [← hG.data, List.map_drop])
  obtain ⟨RL, hRL⟩ : ∃ RL, RL = T.pairs.drop P := ⟨_, rfl⟩
  rw [← hRL] at RQ HRS
  have p0 : (0 : Int) ≤ (P : Int) := by omega
  have p1 : (P : Int) ≤ (k : Int) := by have := HPK.out; omega
  have k9 : (k : Int) ≤ 300000 := by omega
  have R9 : (R : Int) ≤ 300000 := by omega
  have R0 : (0 : Int) ≤ (R : Int) := by omega
  clear hG hOk hB hC hq hr hn hk hP hR hXX hRL hY hX hfc
  go_enter Try.func75, Try.ntmps75
  go_wp2_with fail
  refine hcmp.out.mono ?_
  rintro e wz ⟨rfl, rfl⟩
  clear hcmp
  rcases hsel with ⟨hlt, rfl, rfl, rfl, rfl⟩ | ⟨hlt, rfl, rfl, rfl, rfl⟩
  all_goals
    go_wp2_with fail
    refine hpl.out.mono ?_
    rintro e w1 ⟨rfl, b1⟩
    have H1 := hide (H.out.under b1)
    have B1 := hide b1
    have XS1 := hide (HXX.out w1 xs (H.out.under b1).keep.in_)
    have PB1 := hide (HB.out.below b1)
    have SM := hide (fun (x : PairV) (hx : x ∈ xs.drop P) => right_small H.out.keep.in_ (by rw [H.out.data]; exact OK.out.right) x (List.mem_of_mem_drop hx))
    have c2 := H1.out.cells.2.2
    clear b1 hpl
    go_wp2_with fail
    clear c2
    go_loopw [9, 32] (fun v i wr => ∃ (j : Nat) (A4 : Option Addr) (c4 : Nat) (zs : List PairV), j ≤ R ∧ i = .int .i64 (j : Int) ∧ v = .slice A4 j c4 ∧ PRow w1.heap.size wr A4 j c4 zs ∧ zs.map PairV.d = RL.take j ∧ (∀ x ∈ RL.take j, preB pre x.key = true) ∧ j ≤ most.toNat ∧ Below w1.heap.size w1 wr) (fun _ i _ => R - (intOf i).toNat)
    case atStart => exact ⟨0, none, 0, [], Nat.zero_le _, rfl, rfl, PRow.nil (Nat.le_refl _), rfl, by simp, Nat.zero_le _, Below.refl _ _⟩
    case round =>
      obtain ⟨j, A4, c4, zs, hj, rfl, rfl, hrow4, hz, hall, hjm, hb⟩ := hrel
      have HB4 := hide hb
      have HZ := hide hz
      have HR4 := hide hrow4
      have HALL := hide hall
      have HJM := hide hjm
      have XR := hide (XS1.out.below' hb)
      have HRLL := hide (show RL.length = R by rw [← HRS.out, List.length_map, XS1.out.1])
      have HSTOP := hide (fun (h3 : most ≤ j ∨ j = RL.length ∨ ∃ x, RL[j]? = some x ∧ preB pre x.key = false) => RQ.out.trans (range_stop RL pre most j hall (by rw [HRLL.out]; exact hj) hjm h3))
      have j0 : (0 : Int) ≤ (j : Int) := by omega
      clear hz hrow4 hall hjm hb
      by_cases hlt2 : j < R
      · obtain ⟨pb, off, hpa, hrow⟩ := XR.out.2.2 (by omega)
        subst hpa
        obtain ⟨x, hx⟩ : ∃ x, (xs.drop P)[j]? = some x := ⟨_, List.getElem?_eq_getElem (by rw [XR.out.1]; exact hlt2)⟩
        have XF := hide (XR.out.2.1 x (List.mem_of_getElem? hx))
        have XSM := hide (SM.out x (List.mem_of_getElem? hx))
        have hld := loadPr_run wr pb (off + j * 3) x (hrow j x hx)
        have HXL := hide (show RL[j]? = some x.d by rw [← HRS.out]; exact pmap_get hx)
        have HLT := hide hlt2
        have j1 : (j : Int) < (R : Int) := by omega
        clear hx hrow hj hlt2
        by_cases hmost : most ≤ (j : Int)
        · have HD := hide (HSTOP.out (.inl hmost))
          have dm : decide (most ≤ (j : Int)) = true := decide_eq_true hmost
          go_wp2_with (first
            | (refine wpList_alloc_agg rfl 100 rfl zeroPr zeroPr_info ?_; simp only [Act.put, sT, sZ, sS])
            | (refine pr_store rfl _ _ rfl wr rfl (by rfl) x (by rfl) ?_; intro w5 b5 s5 k5; have B5 := hide b5; have K5 := hide k5; have y0 := k5.c0; clear b5 s5 k5 hld; simp only [Act.put]))
          go_ret
          exact ⟨A4, j, c4, zs, rfl, by rw [HD.out]; exact HZ.out, (HR4.out.under B5.out).lower B1.out.size, Below.then_ B1.out (Below.then_ HB4.out B5.out)⟩
        · have hmost' : (j : Int) < most := by omega
          have dm : decide (most ≤ (j : Int)) = false := decide_eq_false hmost
          go_wp2_with (first
            | (refine wpList_alloc_agg rfl 100 rfl zeroPr zeroPr_info ?_; simp only [Act.put, sT, sZ, sS])
            | (refine pr_store rfl _ _ rfl wr rfl (by rfl) x (by rfl) ?_; intro w5 b5 s5 k5; have B5 := hide b5; have K5 := hide k5; have S5 := hide s5; have y0 := k5.c0; have l5 := loadPr_run w5 wr.heap.size 0 x k5.whole; clear b5 s5 k5 hld; simp only [Act.put]))
          have B15 := hide (Below.then_ HB4.out B5.out)
          refine (HasPrefix_any w5 x.kA B x.kN x.kC n q x.key pre (XF.out.key.below B5.out) (PB1.out.below B15.out) XF.out.kcap XSM.out.1 HN.out).mono ?_
          rintro e wz ⟨rfl, rfl⟩
          clear y0
          cases hp : preB pre x.key with
          | false =>
            have HD := hide (HSTOP.out (.inr (.inr ⟨x.d, HXL.out, hp⟩)))
            clear hp
            go_wp2_with fail
            go_ret
            exact ⟨A4, j, c4, zs, rfl, by rw [HD.out]; exact HZ.out, (HR4.out.under B5.out).lower B1.out.size, Below.then_ B1.out B15.out⟩
          | true =>
            have HPR := hide hp
            clear hp HSTOP
            go_wp2_with fail
            refine (copied_any w5 x (XF.out.below B5.out) XSM.out).mono ?_
            rintro e wb ⟨V, rfl, hd, hf, fk, fv, bb⟩
            have HVD := hide hd
            have BB := hide bb
            obtain ⟨wc, hwc⟩ : ∃ z, z = wb.alloc (.cells V.cells.toArray 100) := ⟨_, rfl⟩
            have hmks := mkPrs1_run wb V
            rw [← hwc] at hmks
            have Bc := hide (show Below wb.heap.size wb wc by rw [hwc]; exact below_alloc (Below.refl _ _) _)
            have NB := hide (show wc.rangeAt wb.heap.size 0 V.cells by rw [hwc]; exact (Blk.new wb 100 V.cells).whole)
            have RC := hide (((HR4.out.under B5.out).under bb).under Bc.out)
            have BC := hide (Below.then_ B15.out (Below.then_ bb Bc.out))
            have KC := hide (show KeepP wc V (fun i => i < w1.heap.size ∨ (Value.slice A4 j c4).ownBlock = some i) from KeepP.new (hf.below Bc.out) fk fv fun i hi => by
              have h7 := HR4.out.low
              have h8 := B5.out.size
              rcases hi with hi | hi
              · omega
              · have := (HR4.out.lt i hi).2; omega)
            have J9 := hide (show j + 1 ≤ 400000 by have := HLT.out; omega)
            clear hwc hd hf fk fv bb l5
            go_wp2_with (at_builtin; refine wpListRow rfl 51 rfl _ _ 94 rfl 100 3 56 Try.underlying94 pr_infoR (by decide) w1.heap.size (.slice A4 j c4) j _ (by rfl) RC.out.row RC.out.low wb.heap.size 0 1 1 V.cells (by rfl) rfl NB.out (PairV.one V) (by have := J9.out; omega) (by decide) ?_; intro A9 c9 w9 q1 q2 q3 q4; have P9 := hide (RC.out.app KC.out q1 q2 q3 q4); have O9 := hide (show Below w1.heap.size w1 w9 from BC.out.trans (q4.below BC.out.size (fun i hi e => by have := (RC.out.lt i e).1; omega))); clear q1 q2 q3 q4 hmks; simp only [Act.put, sT, sZ, sS])
            refine ⟨⟨j + 1, A9, c9, zs ++ [V], by have := HLT.out; omega, by go_num, rfl, P9.out, ?_, ?_, by omega, O9.out⟩, by have := HLT.out; simp [intOf]; omega⟩
            · rw [List.map_append, HZ.out, List.take_add_one, HXL.out]; simp [HVD.out]
            · intro y hy
              rw [List.take_add_one, HXL.out] at hy
              rcases List.mem_append.1 hy with hy | hy
              · exact HALL.out y hy
              · have h9 : y = x.d := by simpa using hy
                rw [h9]; exact HPR.out
      · have HJ := hide (show j = R by omega)
        have HD := hide (HSTOP.out (.inr (.inl (by rw [HRLL.out]; omega))))
        have j1 : ¬ (j : Int) < (R : Int) := by omega
        clear hlt2
        go_wp2_with fail
        go_ret
        exact ⟨A4, j, c4, zs, rfl, by rw [HD.out]; exact HZ.out, HR4.out.lower B1.out.size, Below.then_ B1.out HB4.out⟩
end Go.Proofs.Ytjnpkcabkccaoaa
