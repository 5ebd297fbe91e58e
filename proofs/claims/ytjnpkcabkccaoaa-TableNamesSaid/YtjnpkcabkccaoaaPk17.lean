import Derived.Test.YtjnpkcabkccaoaaPk16
/-
  table: where a key stands; Get, All.
-/
namespace Go.Proofs.Ytjnpkcabkccaoaa
open Go.RowKit

attribute [local go_sem ↓] loadPr_fold
set_option maxHeartbeats 8000000 in
set_option maxRecDepth 100000 in
theorem Search_any (w : World) (A : Option Addr) (n c : Nat) (xs : List PairV) (q : PairV) (hX : PairsIn w A n xs) (hq : q.Fine w) (hn : n ≤ 1000000000000) (hs : Sorted (xs.map PairV.d)) :
    Calls Try.prog 144 #[.slice A n c, .agg q.cells.toArray, .func (.func 119) #[] #[]] w
      fun e w' => e = .returned (.tuple #[.int .i64 (placeP (xs.map PairV.d) q.key : Int), .bool (foundP (xs.map PairV.d) q.key)]) ∧ Below w.heap.size w w' := by
  have n9 : (n : Int) ≤ 1000000000000 := by omega
  obtain ⟨L, hL⟩ : ∃ L, L = xs.map PairV.d := ⟨_, rfl⟩
  have HL := hide hL
  rw [← hL] at hs ⊢
  have HLN := hide (show L.length = n by rw [hL, List.length_map, hX.1])
  obtain ⟨P, hP⟩ : ∃ P, P = placeP L q.key := ⟨_, rfl⟩
  have HP := hide hP
  have HPN := hide (show P ≤ n by rw [hP, ← HLN.out]; exact placeP_le _ _)
  have HLT := hide (fun (j : Nat) (x : PairV) (hj : xs[j]? = some x) => (show lex x.key q.key < 0 ↔ j < P by
    have := placeP_lt (f := q.key) hs j x.d (by rw [hL]; exact pmap_get hj)
    rw [hP]; exact this))
  have HFD := hide (show foundP L q.key = match L[P]? with | none => false | some p => decide (lex p.key q.key = 0) by rw [hP]; rfl)
  rw [← hP]
  obtain ⟨w1, hw1⟩ : ∃ z, z = w.alloc (.cells q.cells.toArray 100) := ⟨_, rfl⟩
  have B1 := hide (show Below w.heap.size w w1 by rw [hw1]; exact below_alloc (Below.refl _ _) _)
  have K1 := hide (show Blk w1 w.heap.size 100 q.cells by rw [hw1]; exact Blk.new w _ _)
  have X1 := hide (hX.below' B1.out)
  have Q1 := hide (hq.below B1.out)
  have hw1' : w.alloc (.cells q.cells.toArray 100) = w1 := hw1.symm
  clear hX hq hn hs hL hP hw1
  go_enter Try.func144, Try.ntmps144
  go_wp2_with fail
  try rw [hw1']
  clear hw1'
  go_loopw [9, 10] (fun i j wr => ∃ lo hi : Nat, i = .int .i64 (lo : Int) ∧ j = .int .i64 (hi : Int) ∧ lo ≤ P ∧ P ≤ hi ∧ hi ≤ n ∧ Below w1.heap.size w1 wr) (fun i j _ => (intOf j).toNat - (intOf i).toNat)
  case atStart => exact ⟨0, n, rfl, rfl, Nat.zero_le _, HPN.out, Nat.le_refl _, Below.refl _ _⟩
  case round =>
    obtain ⟨lo, hi, rfl, rfl, h1, h2, h3, hb⟩ := hrel
    have HB := hide hb
    have XR := hide (X1.out.below' hb)
    have QR := hide (Q1.out.below hb)
    have KR := hide (K1.out.under hb)
    by_cases hlt : lo < hi
    · obtain ⟨pb, off, hpa, hrow⟩ := XR.out.2.2 (by omega)
      subst hpa
      obtain ⟨mid, hmid⟩ : ∃ mid, mid = (lo + hi) / 2 := ⟨_, rfl⟩
      have HMID := hide (show lo ≤ mid ∧ mid < hi by omega)
      obtain ⟨x, hx⟩ : ∃ x, xs[mid]? = some x := ⟨_, List.getElem?_eq_getElem (by rw [XR.out.1]; omega)⟩
      have XF := hide (XR.out.2.1 x (List.mem_of_getElem? hx))
      have HROW := hide (hrow mid x hx)
      have HCM := hide (HLT.out mid x hx)
      have HH := hide (show lo ≤ P ∧ P ≤ hi ∧ hi ≤ n from ⟨h1, h2, h3⟩)
      have l0 : (0 : Int) ≤ (lo : Int) := by omega
      have i0 : (0 : Int) ≤ (hi : Int) := by omega
      have i1 : (lo : Int) < (hi : Int) := by omega
      have i2 : (hi : Int) ≤ (n : Int) := by omega
      have e2 : ((lo : Int) + (hi : Int)) / 2 = (mid : Int) := by omega
      have m0 : (0 : Int) ≤ (mid : Int) := by omega
      have m1 : (mid : Int) < (n : Int) := by omega
      clear hx hrow h1 h2 h3 hb hmid hlt
      go_wp2_with fail
      refine wp_region_held_drew (S := fun w' => Below wr.heap.size wr w') (by kernel_rfl) ((Below.refl _ _).drew) (fun hSA0 => ?_)
      obtain ⟨wrd, hwA⟩ : ∃ x, x = wr.drew := ⟨_, rfl⟩
      rw [← hwA] at hSA0 ⊢
      clear hwA
      (refine wpAnyH_take (i := 0) (oi := ⟨some 24, .move (.tmp 2), 179, "sort.go:160", #[], none⟩) (v := ?_) rfl (by kernel_rfl) (by kernel_rfl) (by kernel_rfl) (fun _ _ _ h => h) (Or.inl ⟨by rfl, fun w' hSw => ?_⟩) hSA0 ?_; rotate_left; focus (go_simp; try with_reducible rfl))
      simp only [Act.put, List.setIfInBounds_toArray, List.set_cons_zero, List.set_cons_succ]
      (refine wpAnyH_take (i := 1) (oi := ⟨some 25, .move (.tmp 0), 94, "sort.go:160", #[], none⟩) (v := ?_) rfl (by kernel_rfl) (by kernel_rfl) (by kernel_rfl) (fun _ _ _ h => h) (Or.inl ⟨by rfl, fun w' hSw => ?_⟩) hSA0 ?_; rotate_left; focus (go_simp; try with_reducible rfl))
      simp only [Act.put, List.setIfInBounds_toArray, List.set_cons_zero, List.set_cons_succ]
      (refine wpAnyH_take (i := 2) (oi := ⟨some 26, .move (.tmp 11), 3, "sort.go:160", #[], none⟩) (v := ?_) rfl (by kernel_rfl) (by kernel_rfl) (by kernel_rfl) (fun _ _ _ h => h) (Or.inl ⟨by rfl, fun w' hSw => ?_⟩) hSA0 ?_; rotate_left; focus (go_simp; try with_reducible rfl))
      simp only [Act.put, List.setIfInBounds_toArray, List.set_cons_zero, List.set_cons_succ]
      (refine wpAnyH_take (i := 3) (oi := ⟨some 27, .indexAddr 94 (.tmp 25) (.tmp 26), 0, "sort.go:160", #[⟨1, .data⟩, ⟨2, .data⟩], none⟩) (v := ?_) rfl (by kernel_rfl) (by kernel_rfl) (by kernel_rfl) (fun _ _ _ h => h) (Or.inl ⟨by rfl, fun w' hSw => ?_⟩) hSA0 ?_; rotate_left; focus (go_simp; try with_reducible rfl))
      simp only [Act.put, List.setIfInBounds_toArray, List.set_cons_zero, List.set_cons_succ]
      (refine wpAnyH_take (i := 4) (oi := ⟨some 28, .load 100 (.tmp 27), 100, "sort.go:160", #[⟨3, .data⟩], none⟩) (v := ?_) rfl (by kernel_rfl) (by kernel_rfl) (by kernel_rfl) (fun _ _ _ h => h) (Or.inl ⟨by rfl, fun w' hSw => ?_⟩) hSA0 ?_; rotate_left; focus (have z := loadPr_run w' pb (off + mid * 3) x (range_under HROW.out hSw); go_simp; try with_reducible rfl))
      simp only [Act.put, List.setIfInBounds_toArray, List.set_cons_zero, List.set_cons_succ]
      (refine wpAnyH_take (i := 5) (oi := ⟨some 29, .load 100 (.tmp 4), 100, "sort.go:160", #[], none⟩) (v := ?_) rfl (by kernel_rfl) (by kernel_rfl) (by kernel_rfl) (fun _ _ _ h => h) (Or.inl ⟨by rfl, fun w' hSw => ?_⟩) hSA0 ?_; rotate_left; focus (have z := loadPr_run w' w.heap.size 0 q (KR.out.under hSw).whole; go_simp; try with_reducible rfl))
      simp only [Act.put, List.setIfInBounds_toArray, List.set_cons_zero, List.set_cons_succ]
      refine wpAnyH_ready (rs := [6]) (by kernel_rfl) (by simp) ?_
      refine AllReadyH.cons rfl (fun K hK => ?_) AllReadyH.nil
      go_simp
      refine (byKey_any wrd x q (XF.out.below hSA0) (QR.out.below hSA0)).mono ?_
      rintro e w5 ⟨rfl, b5⟩
      go_simp
      refine hK.out _ _ (Below.then_ hSA0 b5) (fun hSA1 => ?_)
      clear hK K
      (refine wpAnyH_take (i := 7) (oi := ⟨some 31, .binOp .lss 3 (.tmp 30) (.const (.int .i64 0)) 3, 4, "sort.go:160", #[⟨6, .data⟩], none⟩) (v := ?_) rfl (by kernel_rfl) (by kernel_rfl) (by kernel_rfl) (fun _ _ _ h => h) (Or.inl ⟨by rfl, fun w' hSw => ?_⟩) hSA1 ?_; rotate_left; focus (go_simp; try with_reducible rfl))
      simp only [Act.put, List.setIfInBounds_toArray, List.set_cons_zero, List.set_cons_succ]
      refine wpAnyH_done (by kernel_rfl) ?_ _
      by_cases hc : lex x.key q.key < 0
      · have dc : decide (lex x.key q.key < 0) = true := decide_eq_true hc
        have HC := hide (HCM.out.1 hc)
        go_wp2_with fail
        exact ⟨⟨mid + 1, hi, by go_num, rfl, by have := HC.out; omega, HH.out.2.1, HH.out.2.2, Below.then_ HB.out hSA1⟩, by have := HMID.out; simp [intOf]; omega⟩
      · have dc : decide (lex x.key q.key < 0) = false := decide_eq_false hc
        have HC := hide (show ¬ mid < P from fun h9 => hc (HCM.out.2 h9))
        go_wp2_with fail
        exact ⟨⟨lo, mid, rfl, rfl, HH.out.1, by have := HC.out; omega, by have := HH.out; have := HMID.out; omega, Below.then_ HB.out hSA1⟩, by have := HMID.out; simp [intOf]; omega⟩
    · have HE := hide (show lo = P ∧ hi = P by omega)
      have i1 : ¬ (lo : Int) < (hi : Int) := by omega
      clear h1 h2 h3 hb hlt
      rcases Nat.lt_or_ge P n with hp | hp
      · obtain ⟨pb, off, hpa, hrow⟩ := XR.out.2.2 (by omega)
        subst hpa
        obtain ⟨x, hx⟩ : ∃ x, xs[P]? = some x := ⟨_, List.getElem?_eq_getElem (by rw [XR.out.1]; omega)⟩
        have XF := hide (XR.out.2.1 x (List.mem_of_getElem? hx))
        have HROW := hide (hrow P x hx)
        have FD := hide (show foundP L q.key = decide (lex x.key q.key = 0) by rw [HFD.out, HL.out, pmap_get hx]; rfl)
        have l0 : (0 : Int) ≤ (lo : Int) := by omega
        have l1 : lo < n := by have := HE.out.1; omega
        have l2 : (lo : Int) < (n : Int) := by omega
        clear hx hrow hp
        have HROWl := hide (show wr.rangeAt pb (off + lo * 3) x.cells by have := HE.out.1; subst this; exact HROW.out)
        go_wp2_with fail
        refine wp_region_held_drew (S := fun w' => Below wr.heap.size wr w') (by kernel_rfl) ((Below.refl _ _).drew) (fun hSB0 => ?_)
        obtain ⟨wrd, hwB⟩ : ∃ x, x = wr.drew := ⟨_, rfl⟩
        rw [← hwB] at hSB0 ⊢
        clear hwB
        (refine wpAnyH_take (i := 0) (oi := ⟨some 35, .move (.tmp 9), 3, "sort.go:167", #[], none⟩) (v := ?_) rfl (by kernel_rfl) (by kernel_rfl) (by kernel_rfl) (fun _ _ _ h => h) (Or.inl ⟨by rfl, fun w' hSw => ?_⟩) hSB0 ?_; rotate_left; focus (go_simp; try with_reducible rfl))
        simp only [Act.put, List.setIfInBounds_toArray, List.set_cons_zero, List.set_cons_succ]
        (refine wpAnyH_take (i := 1) (oi := ⟨some 36, .move (.tmp 9), 3, "sort.go:167", #[], none⟩) (v := ?_) rfl (by kernel_rfl) (by kernel_rfl) (by kernel_rfl) (fun _ _ _ h => h) (Or.inl ⟨by rfl, fun w' hSw => ?_⟩) hSB0 ?_; rotate_left; focus (go_simp; try with_reducible rfl))
        simp only [Act.put, List.setIfInBounds_toArray, List.set_cons_zero, List.set_cons_succ]
        (refine wpAnyH_take (i := 2) (oi := ⟨some 37, .move (.tmp 8), 3, "sort.go:167", #[], none⟩) (v := ?_) rfl (by kernel_rfl) (by kernel_rfl) (by kernel_rfl) (fun _ _ _ h => h) (Or.inl ⟨by rfl, fun w' hSw => ?_⟩) hSB0 ?_; rotate_left; focus (go_simp; try with_reducible rfl))
        simp only [Act.put, List.setIfInBounds_toArray, List.set_cons_zero, List.set_cons_succ]
        (refine wpAnyH_take (i := 3) (oi := ⟨some 38, .binOp .lss 3 (.tmp 36) (.tmp 37) 3, 4, "sort.go:167", #[⟨1, .data⟩, ⟨2, .data⟩], none⟩) (v := ?_) rfl (by kernel_rfl) (by kernel_rfl) (by kernel_rfl) (fun _ _ _ h => h) (Or.inl ⟨by rfl, fun w' hSw => ?_⟩) hSB0 ?_; rotate_left; focus (go_simp; try with_reducible rfl))
        simp only [Act.put, List.setIfInBounds_toArray, List.set_cons_zero, List.set_cons_succ]
        (refine wpAnyH_take (i := 4) (oi := ⟨some 39, .move (.tmp 38), 4, "sort.go:167", #[⟨3, .data⟩], none⟩) (v := ?_) rfl (by kernel_rfl) (by kernel_rfl) (by kernel_rfl) (fun _ _ _ h => h) (Or.inl ⟨by rfl, fun w' hSw => ?_⟩) hSB0 ?_; rotate_left; focus (go_simp; try with_reducible rfl))
        simp only [Act.put, List.setIfInBounds_toArray, List.set_cons_zero, List.set_cons_succ]
        (refine wpAnyH_take (i := 5) (oi := ⟨some 40, .move (.tmp 2), 179, "sort.go:167", #[⟨4, .guard⟩], some (4, true)⟩) (v := ?_) rfl (by kernel_rfl) (by kernel_rfl) (by kernel_rfl) (fun _ _ _ h => h) (Or.inl ⟨by rfl, fun w' hSw => ?_⟩) hSB0 ?_; rotate_left; focus (go_simp; try with_reducible rfl))
        simp only [Act.put, List.setIfInBounds_toArray, List.set_cons_zero, List.set_cons_succ]
        (refine wpAnyH_take (i := 6) (oi := ⟨some 41, .move (.tmp 0), 94, "sort.go:167", #[⟨4, .guard⟩], some (4, true)⟩) (v := ?_) rfl (by kernel_rfl) (by kernel_rfl) (by kernel_rfl) (fun _ _ _ h => h) (Or.inl ⟨by rfl, fun w' hSw => ?_⟩) hSB0 ?_; rotate_left; focus (go_simp; try with_reducible rfl))
        simp only [Act.put, List.setIfInBounds_toArray, List.set_cons_zero, List.set_cons_succ]
        (refine wpAnyH_take (i := 7) (oi := ⟨some 42, .move (.tmp 9), 3, "sort.go:167", #[⟨4, .guard⟩], some (4, true)⟩) (v := ?_) rfl (by kernel_rfl) (by kernel_rfl) (by kernel_rfl) (fun _ _ _ h => h) (Or.inl ⟨by rfl, fun w' hSw => ?_⟩) hSB0 ?_; rotate_left; focus (go_simp; try with_reducible rfl))
        simp only [Act.put, List.setIfInBounds_toArray, List.set_cons_zero, List.set_cons_succ]
        (refine wpAnyH_take (i := 8) (oi := ⟨some 43, .indexAddr 94 (.tmp 41) (.tmp 42), 0, "sort.go:167", #[⟨6, .data⟩, ⟨7, .data⟩, ⟨4, .guard⟩], some (4, true)⟩) (v := ?_) rfl (by kernel_rfl) (by kernel_rfl) (by kernel_rfl) (fun _ _ _ h => h) (Or.inl ⟨by rfl, fun w' hSw => ?_⟩) hSB0 ?_; rotate_left; focus (go_simp; try with_reducible rfl))
        simp only [Act.put, List.setIfInBounds_toArray, List.set_cons_zero, List.set_cons_succ]
        (refine wpAnyH_take (i := 9) (oi := ⟨some 44, .load 100 (.tmp 43), 100, "sort.go:167", #[⟨8, .data⟩, ⟨4, .guard⟩], some (4, true)⟩) (v := ?_) rfl (by kernel_rfl) (by kernel_rfl) (by kernel_rfl) (fun _ _ _ h => h) (Or.inl ⟨by rfl, fun w' hSw => ?_⟩) hSB0 ?_; rotate_left; focus (have z := loadPr_run w' pb (off + lo * 3) x (range_under HROWl.out hSw); go_simp; try with_reducible rfl))
        simp only [Act.put, List.setIfInBounds_toArray, List.set_cons_zero, List.set_cons_succ]
        (refine wpAnyH_take (i := 10) (oi := ⟨some 45, .load 100 (.tmp 4), 100, "sort.go:167", #[⟨4, .guard⟩], some (4, true)⟩) (v := ?_) rfl (by kernel_rfl) (by kernel_rfl) (by kernel_rfl) (fun _ _ _ h => h) (Or.inl ⟨by rfl, fun w' hSw => ?_⟩) hSB0 ?_; rotate_left; focus (have z := loadPr_run w' w.heap.size 0 q (KR.out.under hSw).whole; go_simp; try with_reducible rfl))
        simp only [Act.put, List.setIfInBounds_toArray, List.set_cons_zero, List.set_cons_succ]
        refine wpAnyH_ready (rs := [11]) (by kernel_rfl) (by simp) ?_
        refine AllReadyH.cons rfl (fun K hK => ?_) AllReadyH.nil
        go_simp
        refine (byKey_any wrd x q (XF.out.below hSB0) (QR.out.below hSB0)).mono ?_
        rintro e w5 ⟨rfl, b5⟩
        go_simp
        refine hK.out _ _ (Below.then_ hSB0 b5) (fun hSB1 => ?_)
        clear hK K
        (refine wpAnyH_take (i := 12) (oi := ⟨some 47, .binOp .eql 3 (.tmp 46) (.const (.int .i64 0)) 3, 4, "sort.go:167", #[⟨11, .data⟩, ⟨4, .guard⟩, ⟨14, .gcOnly .lateStores⟩], some (4, true)⟩) (v := ?_) rfl (by kernel_rfl) (by kernel_rfl) (by kernel_rfl) (fun _ _ _ h => h) (Or.inl ⟨by rfl, fun w' hSw => ?_⟩) hSB1 ?_; rotate_left; focus (go_simp; try with_reducible rfl))
        simp only [Act.put, List.setIfInBounds_toArray, List.set_cons_zero, List.set_cons_succ]
        (refine wpAnyH_take (i := 13) (oi := ⟨some 48, .pick (.tmp 39) (.tmp 47) (.const (.bool Bool.false)), 4, "sort.go:167", #[⟨4, .data⟩, ⟨12, .data⟩, ⟨14, .gcOnly .lateStores⟩], none⟩) (v := ?_) rfl (by kernel_rfl) (by kernel_rfl) (by kernel_rfl) (fun _ _ _ h => h) (Or.inl ⟨by rfl, fun w' hSw => ?_⟩) hSB1 ?_; rotate_left; focus (go_simp; try with_reducible rfl))
        simp only [Act.put, List.setIfInBounds_toArray, List.set_cons_zero, List.set_cons_succ]
        (refine wpAnyH_take (i := 14) (oi := ⟨some 6, .assign (.tmp 35), 3, "sort.go:167", #[⟨0, .data⟩, ⟨11, .chain⟩, ⟨0, .phase⟩, { on := 1, ground := Go.Ground.textOnly Go.Departure.lateStores }, { on := 2, ground := Go.Ground.textOnly Go.Departure.lateStores }, { on := 3, ground := Go.Ground.textOnly Go.Departure.lateStores }, { on := 4, ground := Go.Ground.textOnly Go.Departure.lateStores }, { on := 5, ground := Go.Ground.textOnly Go.Departure.lateStores }, { on := 6, ground := Go.Ground.textOnly Go.Departure.lateStores }, { on := 7, ground := Go.Ground.textOnly Go.Departure.lateStores }, { on := 8, ground := Go.Ground.textOnly Go.Departure.lateStores }, { on := 9, ground := Go.Ground.textOnly Go.Departure.lateStores }, { on := 10, ground := Go.Ground.textOnly Go.Departure.lateStores }, { on := 11, ground := Go.Ground.textOnly Go.Departure.lateStoresUnsure }, { on := 12, ground := Go.Ground.textOnly Go.Departure.lateStores }, { on := 13, ground := Go.Ground.textOnly Go.Departure.lateStores }], none⟩) (v := ?_) rfl (by kernel_rfl) (by kernel_rfl) (by kernel_rfl) (fun _ _ _ h => h) (Or.inl ⟨by rfl, fun w' hSw => ?_⟩) hSB1 ?_; rotate_left; focus (go_simp; try with_reducible rfl))
        simp only [Act.put, List.setIfInBounds_toArray, List.set_cons_zero, List.set_cons_succ]
        (refine wpAnyH_take (i := 15) (oi := ⟨some 7, .assign (.tmp 48), 4, "sort.go:167", #[⟨13, .data⟩, ⟨14, .chain⟩, ⟨0, .phase⟩, ⟨1, .phase⟩, ⟨2, .phase⟩, ⟨3, .phase⟩, ⟨4, .phase⟩, ⟨5, .phase⟩, ⟨6, .phase⟩, ⟨7, .phase⟩, ⟨8, .phase⟩, ⟨9, .phase⟩, ⟨10, .phase⟩, ⟨11, .phase⟩, ⟨12, .phase⟩, ⟨13, .phase⟩, ⟨14, .phase⟩], none⟩) (v := ?_) rfl (by kernel_rfl) (by kernel_rfl) (by kernel_rfl) (fun _ _ _ h => h) (Or.inl ⟨by rfl, fun w' hSw => ?_⟩) hSB1 ?_; rotate_left; focus (go_simp; try with_reducible rfl))
        simp only [Act.put, List.setIfInBounds_toArray, List.set_cons_zero, List.set_cons_succ]
        refine wpAnyH_done (by kernel_rfl) ?_ _
        go_wp2_with fail
        go_ret2
        exact ⟨by rw [FD.out, HE.out.1]; first | rfl | (congr 3; rw [Bool.eq_iff_iff]; simp) | (simp; done), Below.then_ B1.out (Below.then_ HB.out hSB1)⟩
      · have FD := hide (show foundP L q.key = false by rw [HFD.out, List.getElem?_eq_none (by rw [HLN.out]; exact hp)])
        have l0 : (0 : Int) ≤ (lo : Int) := by omega
        have l1 : ¬ lo < n := by have := HE.out.1; omega
        have l2 : ¬ (lo : Int) < (n : Int) := by omega
        clear hp
        go_wp2_with fail
        refine wp_region_held_drew (S := fun w' => Below wr.heap.size wr w') (by kernel_rfl) ((Below.refl _ _).drew) (fun hSC0 => ?_)
        obtain ⟨wrd, hwC⟩ : ∃ x, x = wr.drew := ⟨_, rfl⟩
        rw [← hwC] at hSC0 ⊢
        clear hwC
        (refine wpAnyH_take (i := 0) (oi := ⟨some 35, .move (.tmp 9), 3, "sort.go:167", #[], none⟩) (v := ?_) rfl (by kernel_rfl) (by kernel_rfl) (by kernel_rfl) (fun _ _ _ h => h) (Or.inl ⟨by rfl, fun w' hSw => ?_⟩) hSC0 ?_; rotate_left; focus (go_simp; try with_reducible rfl))
        simp only [Act.put, List.setIfInBounds_toArray, List.set_cons_zero, List.set_cons_succ]
        (refine wpAnyH_take (i := 1) (oi := ⟨some 36, .move (.tmp 9), 3, "sort.go:167", #[], none⟩) (v := ?_) rfl (by kernel_rfl) (by kernel_rfl) (by kernel_rfl) (fun _ _ _ h => h) (Or.inl ⟨by rfl, fun w' hSw => ?_⟩) hSC0 ?_; rotate_left; focus (go_simp; try with_reducible rfl))
        simp only [Act.put, List.setIfInBounds_toArray, List.set_cons_zero, List.set_cons_succ]
        (refine wpAnyH_take (i := 2) (oi := ⟨some 37, .move (.tmp 8), 3, "sort.go:167", #[], none⟩) (v := ?_) rfl (by kernel_rfl) (by kernel_rfl) (by kernel_rfl) (fun _ _ _ h => h) (Or.inl ⟨by rfl, fun w' hSw => ?_⟩) hSC0 ?_; rotate_left; focus (go_simp; try with_reducible rfl))
        simp only [Act.put, List.setIfInBounds_toArray, List.set_cons_zero, List.set_cons_succ]
        (refine wpAnyH_take (i := 3) (oi := ⟨some 38, .binOp .lss 3 (.tmp 36) (.tmp 37) 3, 4, "sort.go:167", #[⟨1, .data⟩, ⟨2, .data⟩], none⟩) (v := ?_) rfl (by kernel_rfl) (by kernel_rfl) (by kernel_rfl) (fun _ _ _ h => h) (Or.inl ⟨by rfl, fun w' hSw => ?_⟩) hSC0 ?_; rotate_left; focus (go_simp; try with_reducible rfl))
        simp only [Act.put, List.setIfInBounds_toArray, List.set_cons_zero, List.set_cons_succ]
        (refine wpAnyH_take (i := 4) (oi := ⟨some 39, .move (.tmp 38), 4, "sort.go:167", #[⟨3, .data⟩], none⟩) (v := ?_) rfl (by kernel_rfl) (by kernel_rfl) (by kernel_rfl) (fun _ _ _ h => h) (Or.inl ⟨by rfl, fun w' hSw => ?_⟩) hSC0 ?_; rotate_left; focus (go_simp; try with_reducible rfl))
        simp only [Act.put, List.setIfInBounds_toArray, List.set_cons_zero, List.set_cons_succ]
        refine wpAnyH_take (i := 5) (oi := ⟨some 40, .move (.tmp 2), 179, "sort.go:167", #[⟨4, .guard⟩], some (4, true)⟩) (v := undef) rfl (by kernel_rfl) (by kernel_rfl) (by kernel_rfl) (fun _ _ _ h => h) (Or.inr ⟨by rfl, rfl⟩) hSC0 ?_
        simp only [Act.put, List.setIfInBounds_toArray, List.set_cons_zero, List.set_cons_succ]
        refine wpAnyH_take (i := 6) (oi := ⟨some 41, .move (.tmp 0), 94, "sort.go:167", #[⟨4, .guard⟩], some (4, true)⟩) (v := undef) rfl (by kernel_rfl) (by kernel_rfl) (by kernel_rfl) (fun _ _ _ h => h) (Or.inr ⟨by rfl, rfl⟩) hSC0 ?_
        simp only [Act.put, List.setIfInBounds_toArray, List.set_cons_zero, List.set_cons_succ]
        refine wpAnyH_take (i := 7) (oi := ⟨some 42, .move (.tmp 9), 3, "sort.go:167", #[⟨4, .guard⟩], some (4, true)⟩) (v := undef) rfl (by kernel_rfl) (by kernel_rfl) (by kernel_rfl) (fun _ _ _ h => h) (Or.inr ⟨by rfl, rfl⟩) hSC0 ?_
        simp only [Act.put, List.setIfInBounds_toArray, List.set_cons_zero, List.set_cons_succ]
        refine wpAnyH_take (i := 8) (oi := ⟨some 43, .indexAddr 94 (.tmp 41) (.tmp 42), 0, "sort.go:167", #[⟨6, .data⟩, ⟨7, .data⟩, ⟨4, .guard⟩], some (4, true)⟩) (v := undef) rfl (by kernel_rfl) (by kernel_rfl) (by kernel_rfl) (fun _ _ _ h => h) (Or.inr ⟨by rfl, rfl⟩) hSC0 ?_
        simp only [Act.put, List.setIfInBounds_toArray, List.set_cons_zero, List.set_cons_succ]
        refine wpAnyH_take (i := 9) (oi := ⟨some 44, .load 100 (.tmp 43), 100, "sort.go:167", #[⟨8, .data⟩, ⟨4, .guard⟩], some (4, true)⟩) (v := undef) rfl (by kernel_rfl) (by kernel_rfl) (by kernel_rfl) (fun _ _ _ h => h) (Or.inr ⟨by rfl, rfl⟩) hSC0 ?_
        simp only [Act.put, List.setIfInBounds_toArray, List.set_cons_zero, List.set_cons_succ]
        refine wpAnyH_take (i := 10) (oi := ⟨some 45, .load 100 (.tmp 4), 100, "sort.go:167", #[⟨4, .guard⟩], some (4, true)⟩) (v := undef) rfl (by kernel_rfl) (by kernel_rfl) (by kernel_rfl) (fun _ _ _ h => h) (Or.inr ⟨by rfl, rfl⟩) hSC0 ?_
        simp only [Act.put, List.setIfInBounds_toArray, List.set_cons_zero, List.set_cons_succ]
        refine wpAnyH_take (i := 11) (oi := ⟨some 46, .call { callee := .value (.tmp 40), args := #[.tmp 44, .tmp 45], argTypes := #[100, 100] }, 3, "sort.go:167", #[⟨5, .data⟩, ⟨9, .data⟩, ⟨10, .data⟩, ⟨4, .chain⟩, ⟨4, .guard⟩], some (4, true)⟩) (v := undef) rfl (by kernel_rfl) (by kernel_rfl) (by kernel_rfl) (fun _ _ _ h => h) (Or.inr ⟨by rfl, rfl⟩) hSC0 ?_
        simp only [Act.put, List.setIfInBounds_toArray, List.set_cons_zero, List.set_cons_succ]
        refine wpAnyH_take (i := 12) (oi := ⟨some 47, .binOp .eql 3 (.tmp 46) (.const (.int .i64 0)) 3, 4, "sort.go:167", #[⟨11, .data⟩, ⟨4, .guard⟩, ⟨14, .gcOnly .lateStores⟩], some (4, true)⟩) (v := undef) rfl (by kernel_rfl) (by kernel_rfl) (by kernel_rfl) (fun _ _ _ h => h) (Or.inr ⟨by rfl, rfl⟩) hSC0 ?_
        simp only [Act.put, List.setIfInBounds_toArray, List.set_cons_zero, List.set_cons_succ]
        (refine wpAnyH_take (i := 13) (oi := ⟨some 48, .pick (.tmp 39) (.tmp 47) (.const (.bool Bool.false)), 4, "sort.go:167", #[⟨4, .data⟩, ⟨12, .data⟩, ⟨14, .gcOnly .lateStores⟩], none⟩) (v := ?_) rfl (by kernel_rfl) (by kernel_rfl) (by kernel_rfl) (fun _ _ _ h => h) (Or.inl ⟨by rfl, fun w' hSw => ?_⟩) hSC0 ?_; rotate_left; focus (go_simp; try with_reducible rfl))
        simp only [Act.put, List.setIfInBounds_toArray, List.set_cons_zero, List.set_cons_succ]
        (refine wpAnyH_take (i := 14) (oi := ⟨some 6, .assign (.tmp 35), 3, "sort.go:167", #[⟨0, .data⟩, ⟨11, .chain⟩, ⟨0, .phase⟩, { on := 1, ground := Go.Ground.textOnly Go.Departure.lateStores }, { on := 2, ground := Go.Ground.textOnly Go.Departure.lateStores }, { on := 3, ground := Go.Ground.textOnly Go.Departure.lateStores }, { on := 4, ground := Go.Ground.textOnly Go.Departure.lateStores }, { on := 5, ground := Go.Ground.textOnly Go.Departure.lateStores }, { on := 6, ground := Go.Ground.textOnly Go.Departure.lateStores }, { on := 7, ground := Go.Ground.textOnly Go.Departure.lateStores }, { on := 8, ground := Go.Ground.textOnly Go.Departure.lateStores }, { on := 9, ground := Go.Ground.textOnly Go.Departure.lateStores }, { on := 10, ground := Go.Ground.textOnly Go.Departure.lateStores }, { on := 11, ground := Go.Ground.textOnly Go.Departure.lateStoresUnsure }, { on := 12, ground := Go.Ground.textOnly Go.Departure.lateStores }, { on := 13, ground := Go.Ground.textOnly Go.Departure.lateStores }], none⟩) (v := ?_) rfl (by kernel_rfl) (by kernel_rfl) (by kernel_rfl) (fun _ _ _ h => h) (Or.inl ⟨by rfl, fun w' hSw => ?_⟩) hSC0 ?_; rotate_left; focus (go_simp; try with_reducible rfl))
        simp only [Act.put, List.setIfInBounds_toArray, List.set_cons_zero, List.set_cons_succ]
        (refine wpAnyH_take (i := 15) (oi := ⟨some 7, .assign (.tmp 48), 4, "sort.go:167", #[⟨13, .data⟩, ⟨14, .chain⟩, ⟨0, .phase⟩, ⟨1, .phase⟩, ⟨2, .phase⟩, ⟨3, .phase⟩, ⟨4, .phase⟩, ⟨5, .phase⟩, ⟨6, .phase⟩, ⟨7, .phase⟩, ⟨8, .phase⟩, ⟨9, .phase⟩, ⟨10, .phase⟩, ⟨11, .phase⟩, ⟨12, .phase⟩, ⟨13, .phase⟩, ⟨14, .phase⟩], none⟩) (v := ?_) rfl (by kernel_rfl) (by kernel_rfl) (by kernel_rfl) (fun _ _ _ h => h) (Or.inl ⟨by rfl, fun w' hSw => ?_⟩) hSC0 ?_; rotate_left; focus (go_simp; try with_reducible rfl))
        simp only [Act.put, List.setIfInBounds_toArray, List.set_cons_zero, List.set_cons_succ]
        refine wpAnyH_done (by kernel_rfl) ?_ _
        go_wp2_with fail
        go_ret2
        exact ⟨by rw [FD.out, HE.out.1]; first | rfl | (congr 3; rw [Bool.eq_iff_iff]; simp) | (simp; done), Below.then_ B1.out (Below.then_ HB.out hSC0)⟩
end Go.Proofs.Ytjnpkcabkccaoaa
/-
  table: place, Get, All.
-/
namespace Go.Proofs.Ytjnpkcabkccaoaa
open Go.RowKit

attribute [local go_sem ↓] mkPr_fold
set_option maxHeartbeats 2000000 in
set_option maxRecDepth 100000 in
theorem place_any (w0 w : World) (t g b : Nat) (F : Nat → Prop) (d : Dev) (T : TableD) (A : Option Addr) (k c : Nat) (xs : List PairV) (hT : TabG w0 w t g b F d T A k c xs) (hOk : T.Ok) (B : Option Addr) (n q : Nat) (key : List Int) (hB : Bys w B n key) (hq : n ≤ q) :
    Calls Try.prog 123 #[.pointer (some ⟨t, 0, none⟩), .slice B n q] w fun e w' => e = .returned (.tuple #[.int .i64 (placeP T.pairs key : Int), .bool (foundP T.pairs key)]) ∧ Below w.heap.size w w' := by
  have hk : k ≤ 300000 := by
    have h7 := right_len hOk.right
    have h8 := hOk.size
    have h9 := congrArg List.length hT.data
    rw [List.length_map, hT.keep.in_.1] at h9
    omega
  have hs := hide (Search_any w A k c xs ⟨B, n, q, key, none, 0, 0, [], false⟩ hT.keep.in_ ⟨hB, hq, Bys.nil _ _, Nat.le_refl _⟩ (by omega) (by rw [hT.data]; exact right_sorted hOk.right))
  rw [hT.data] at hs
  have c2 := hT.cells.2.2
  have hmk := mkPr_key w B n q
  clear hT hOk hB hq hk
  go_enter Try.func123, Try.ntmps123
  go_wp2_with fail
  refine hs.out.mono ?_
  rintro e w1 ⟨rfl, b1⟩
  have B1 := hide b1
  clear b1
  go_wp2_with fail
  go_ret2
  exact ⟨rfl, B1.out⟩
def GetPost (w : World) (l : List PairD) (key : List Int) (e : Ending) (w' : World) : Prop :=
  Below w.heap.size w w' ∧ ((foundP l key = false ∧ e = .returned (.tuple #[.slice none 0 0, .bool false])) ∨
    ∃ (p : PairD) (A : Option Addr) (n c : Nat), foundP l key = true ∧ l[placeP l key]? = some p ∧ e = .returned (.tuple #[.slice A n c, .bool true]) ∧ Bys w' A n p.value ∧ n ≤ c)
theorem found_at {l : List PairD} {key : List Int} (h : foundP l key = true) : ∃ p, l[placeP l key]? = some p ∧ p.key = key := by
  unfold foundP at h
  cases hg : l[placeP l key]? with
  | none => rw [hg] at h; cases h
  | some p => rw [hg] at h; exact ⟨p, rfl, lex_zero _ _ (of_decide_eq_true h)⟩
set_option maxHeartbeats 2000000 in
set_option maxRecDepth 100000 in
theorem Get_any (w0 w : World) (t g b : Nat) (F : Nat → Prop) (d : Dev) (T : TableD) (hT : TabW w0 w t g b F d T) (hOk : T.Ok) (B : Option Addr) (n q : Nat) (key : List Int) (hB : Bys w B n key) (hq : n ≤ q) :
    Calls Try.prog 76 #[.pointer (some ⟨t, 0, none⟩), .slice B n q] w (GetPost w T.pairs key) := by
  obtain ⟨A, k, c, xs, hG⟩ := hT
  have H := hide hG
  have OK := hide hOk
  have hp := hide (place_any w0 w t g b F d T A k c xs hG hOk B n q key hB hq)
  have hk : k ≤ 300000 := by
    have h7 := right_len hOk.right
    have h8 := hOk.size
    have h9 := congrArg List.length hG.data
    rw [List.length_map, hG.keep.in_.1] at h9
    omega
  have k9 : (k : Int) ≤ 300000 := by omega
  clear hG hOk hB hq hk
  go_enter Try.func76, Try.ntmps76
  go_wp2_with fail
  refine hp.out.mono ?_
  rintro e w1 ⟨rfl, b1⟩
  have B1 := hide b1
  have H1 := hide (H.out.under b1)
  clear b1 hp
  cases hf : foundP T.pairs key with
  | false =>
    have HF := hide hf
    clear hf
    go_wp2_with fail
    go_ret2
    exact ⟨B1.out, .inl ⟨HF.out, rfl⟩⟩
  | true =>
    obtain ⟨p, hp, hpk⟩ := found_at hf
    have HF := hide hf
    have HP := hide hp
    obtain ⟨P, hP⟩ : ∃ P, P = placeP T.pairs key := ⟨_, rfl⟩
    have HPP := hide hP
    rw [← hP] at hp ⊢
    have hpl : P < k := by
      have h1 := (List.getElem?_eq_some_iff.1 hp).1
      have h9 := congrArg List.length H.out.data
      rw [List.length_map, H.out.keep.in_.1] at h9
      omega
    obtain ⟨x, hx⟩ : ∃ x, xs[P]? = some x := ⟨_, List.getElem?_eq_getElem (by rw [H.out.keep.in_.1]; exact hpl)⟩
    have hxd : x.d = p := by
      have h1 := pmap_get hx
      rw [H.out.data, hp] at h1
      injection h1 with h1
      exact h1.symm
    obtain ⟨pb, off, hpa, hrow⟩ := H1.out.keep.in_.2.2 (by omega)
    subst hpa
    have hr := hrow P x hx
    have v1 : w1.cell? ⟨pb, off + P * 3 + 1, none⟩ = some (.slice x.vA x.vN x.vC) := hr 1 _ rfl
    have XF := hide (H1.out.keep.in_.2.1 x (List.mem_of_getElem? hx))
    have HXD := hide hxd
    have HXN := hide (show x.vN ≤ 20000 by
      have h1 := ((okB_iff _).1 (right_ok OK.out.right p (List.mem_of_getElem? hp))).2.2.1
      rw [← hxd] at h1
      have h2 := XF.out.value.1
      have h3 : x.value.length ≤ 20000 := h1
      omega)
    have c2 := H1.out.cells.2.2
    have p0 : (0 : Int) ≤ (P : Int) := by omega
    have p1 : (P : Int) < (k : Int) := by omega
    clear hf hp hpk hP hpl hx hxd hrow hr
    go_wp2_with fail
    refine (clone_any w1 w1 x.vA x.vN x.vC x.value (Below.refl _ _) XF.out.value (by have := HXN.out; omega)).mono ?_
    rintro e w2 hm
    obtain ⟨A2, n2, c2', rfl, t2, f2⟩ := hm.fresh
    have T2 := hide t2
    clear hm t2 f2
    go_wp2_with fail
    go_ret2
    exact ⟨Below.then_ B1.out T2.out.below, .inr ⟨p, A2, n2, c2', HF.out, HP.out, rfl, by rw [← HXD.out]; exact T2.out.bys, T2.out.cap⟩⟩
set_option maxHeartbeats 1000000 in
theorem TAll_any (w0 w : World) (t g b : Nat) (F : Nat → Prop) (d : Dev) (T : TableD) (hT : TabW w0 w t g b F d T) (hOk : T.Ok) :
    Calls Try.prog 74 #[.pointer (some ⟨t, 0, none⟩)] w (PMergePost w T.pairs) := by
  obtain ⟨A, k, c, xs, hG⟩ := hT
  have hk : k ≤ 300000 := by
    have h7 := right_len hOk.right
    have h8 := hOk.size
    have h9 := congrArg List.length hG.data
    rw [List.length_map, hG.keep.in_.1] at h9
    omega
  have hm := hide (PMerge_any w A k c xs none 0 0 [] hG.keep.in_ (RowsIn.nil _ _ _ _ _) hG.cap (Nat.le_refl _) (by omega) (by decide) (right_small hG.keep.in_ (by rw [hG.data]; exact hOk.right)) (by simp))
  rw [hG.data, List.map_nil, mergeD_nil] at hm
  have c2 := hG.cells.2.2
  clear hG hOk hk
  go_enter Try.func74, Try.ntmps74
  go_wp2_with fail
  refine hm.out.mono ?_
  rintro e w1 ⟨A1, k1, c1, zs, rfl, hz, hr, hb⟩
  have HZ := hide hz
  have HR := hide hr
  have HB := hide hb
  clear hz hr hb hm
  go_wp2_with fail
  go_ret
  exact ⟨A1, k1, c1, zs, rfl, HZ.out, HR.out, HB.out⟩
end Go.Proofs.Ytjnpkcabkccaoaa
