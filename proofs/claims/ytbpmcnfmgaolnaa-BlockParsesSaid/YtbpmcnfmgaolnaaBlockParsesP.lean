import Derived.Test.YtbpmcnfmgaolnaaPk23
/-
  BlockParses: the law's walk.
-/
namespace Go.Proofs.Ytbpmcnfmgaolnaa
open Go.RowKit

attribute [local go_sem ↓] loadBlk_fold mkBlk_fold
attribute [local go_sem] mkBlk_zero
set_option maxHeartbeats 8000000 in
set_option maxRecDepth 100000 in
theorem blockparses_any (w : World) (A : Option Addr) (n c : Nat) (bs : List Int) (hB0 : Bys w A n bs) (hc : n ≤ c) :
    Calls Try.prog 8 #[.slice A n c] w fun e w' => e = .returned (.bool true) ∧ Below w.heap.size w w' := by
  have HB := hide hB0
  have HC := hide hc
  clear hB0 hc
  go_enter Try.func8, Try.ntmps8
  go_wp2_with fail
  refine (blockAlive_any _).mono ?_
  rintro e w1 ⟨rfl, b1⟩
  have B1 := hide b1
  clear b1
  by_cases hn : 5000 < n
  · have hn1 : (5000 : Int) < (n : Int) := by omega
    clear hn
    go_wp2_with fail
    go_ret
    exact ⟨rfl, B1.out⟩
  · have hn1 : ¬ (5000 : Int) < (n : Int) := by omega
    have HN := hide hn
    clear hn
    go_wp2_with fail
    refine (BParse_any w1 A n c bs (HB.out.below B1.out) (by have := HN.out; omega)).mono ?_
    rintro e w2 ⟨V1, rfl, hd1, hf1, hs1, b2⟩
    obtain ⟨E, hE⟩ : ∃ E, (parseB bs).2 = E := ⟨_, rfl⟩
    rw [hE]
    have HE := hide hE
    have HB2 := hide (Below.then_ B1.out b2)
    have T0 := hide (Blk.new w2 40 zeroB.cells)
    have F1 := hide hf1
    have S1 := hide hs1
    have D1 := hide hd1
    clear b2 hf1 hs1 hd1 hE
    go_wp2_with (first
      | (refine wpList_alloc_agg rfl 40 rfl zeroB.cells zeroBlk_info ?_; simp only [Act.put, List.setIfInBounds_toArray, List.set_cons_zero, List.set_cons_succ])
      | (refine blk_store rfl _ _ rfl w2.heap.size zeroB V1 zeroH_fine F1.out.head (by rfl) (by rfl) T0.out ?_; intro w3 o3 k3; have T3 := hide k3; have b3 := hide (show Below w2.heap.size w2 w3 from Below.trans ((Below.refl _ w2).alloc (Nat.le_refl _) _) (o3.below (by simp) (fun i hi e => by have h9 : i = w2.heap.size := e; omega))); clear o3 k3; simp only [Act.put]))
    have HB3 := hide (Below.then_ HB2.out b3.out)
    refine (refBParse_any w3 A n c bs (HB.out.below HB3.out) HC.out (by have := HN.out; omega)).mono ?_
    rintro e w4 ⟨V2, rfl, hd2, hf2, hs2, b4⟩
    rw [HE.out]
    have HB4 := hide (Below.then_ HB3.out b4)
    have F14 := hide (F1.out.below (Below.then_ b3.out b4))
    have T4 := hide (T3.out.under b4)
    have T1 := hide (Blk.new w4 40 zeroB.cells)
    have F2 := hide hf2
    have S2 := hide hs2
    have D2 := hide hd2
    clear b4 hf2 hs2 hd2 b3 T3 F1 T0
    go_wp2_with (first
      | (refine wpList_alloc_agg rfl 40 rfl zeroB.cells zeroBlk_info ?_; simp only [Act.put, List.setIfInBounds_toArray, List.set_cons_zero, List.set_cons_succ])
      | (refine blk_store rfl _ _ rfl w4.heap.size zeroB V2 zeroH_fine F2.out.head (by rfl) (by rfl) T1.out ?_; intro w5 o5 k5; have T5 := hide k5; have b5 := hide (show Below w4.heap.size w4 w5 from Below.trans ((Below.refl _ w4).alloc (Nat.le_refl _) _) (o5.below (by simp) (fun i hi e => by have h9 : i = w4.heap.size := e; omega))); clear o5 k5; simp only [Act.put]))
    have HB5 := hide (Below.then_ HB4.out b5.out)
    have F15 := hide (F14.out.below b5.out)
    have F25 := hide (F2.out.below b5.out)
    have T35 := hide (T4.out.under b5.out)
    have hS := hide (show decide (V1.d.bytes = V2.d.bytes) = true by rw [D1.out, D2.out]; simp)
    obtain ⟨S, hS0⟩ : ∃ S, S = ba bs := ⟨_, rfl⟩
    have hpstr := hide (show ∀ (w' : World) (A' : Option Addr) (n' c' : Nat) (xs : List Int), Bys w' A' n' xs → xs = bs → (convert 56 9 (.slice A' n' c')).run Try.prog w' = .ok (.string S) w' from fun w' A' n' c' xs h e => by rw [hS0, ← e]; exact run_str w' A' n' c' xs h)
    have Y5 := hide (HB.out.below HB5.out)
    clear hS0 T4 F14 T1 F2
    by_cases he : E = 0
    · subst he
      have HW := hide (show V1.d.bytes = bs by rw [D1.out]; exact parseB_writes bs HB.out.2.1 HE.out)
      refine wp_region_held_drew (S := fun w' => Below w5.heap.size w5 w') (by kernel_rfl) (by exact (Below.refl _ _).drew) (fun hSA0 => ?_)
      obtain ⟨w5d, hwA⟩ : ∃ x, x = w5.drew := ⟨_, rfl⟩
      rw [← hwA] at hSA0 ⊢
      have hDA : Below w5.heap.size w5 w5d := by rw [hwA]; exact (Below.refl _ _).drew
      clear hwA
      (refine wpAnyH_take (i := 0) (oi := ⟨some 22, .move (.tmp 4), 69, "law.go:128", #[], none⟩) (v := ?_) rfl (by kernel_rfl) (by kernel_rfl) (by kernel_rfl) (fun _ _ _ h => h) (Or.inl ⟨by rfl, fun w' hSw => ?_⟩) hSA0 ?_; rotate_left; focus (go_simp; try with_reducible rfl))
      simp only [Act.put, List.setIfInBounds_toArray, List.set_cons_zero, List.set_cons_succ]
      (refine wpAnyH_take (i := 1) (oi := ⟨some 23, .move (.tmp 6), 3, "law.go:128", #[], none⟩) (v := ?_) rfl (by kernel_rfl) (by kernel_rfl) (by kernel_rfl) (fun _ _ _ h => h) (Or.inl ⟨by rfl, fun w' hSw => ?_⟩) hSA0 ?_; rotate_left; focus (go_simp; try with_reducible rfl))
      simp only [Act.put, List.setIfInBounds_toArray, List.set_cons_zero, List.set_cons_succ]
      (refine wpAnyH_take (i := 2) (oi := ⟨some 24, .binOp .eql 3 (.tmp 22) (.tmp 23) 3, 4, "law.go:128", #[⟨0, .data⟩, ⟨1, .data⟩], none⟩) (v := ?_) rfl (by kernel_rfl) (by kernel_rfl) (by kernel_rfl) (fun _ _ _ h => h) (Or.inl ⟨by rfl, fun w' hSw => ?_⟩) hSA0 ?_; rotate_left; focus (go_simp; try with_reducible rfl))
      simp only [Act.put, List.setIfInBounds_toArray, List.set_cons_zero, List.set_cons_succ]
      (refine wpAnyH_take (i := 3) (oi := ⟨some 25, .move (.tmp 24), 4, "law.go:128", #[⟨2, .data⟩], none⟩) (v := ?_) rfl (by kernel_rfl) (by kernel_rfl) (by kernel_rfl) (fun _ _ _ h => h) (Or.inl ⟨by rfl, fun w' hSw => ?_⟩) hSA0 ?_; rotate_left; focus (go_simp; try with_reducible rfl))
      simp only [Act.put, List.setIfInBounds_toArray, List.set_cons_zero, List.set_cons_succ]
      (refine wpAnyH_take (i := 4) (oi := ⟨some 26, .load 40 (.tmp 3), 40, "law.go:128", #[⟨3, .guard⟩], some (3, true)⟩) (v := ?_) rfl (by kernel_rfl) (by kernel_rfl) (by kernel_rfl) (fun _ _ _ h => h) (Or.inl ⟨by rfl, fun w' hSw => ?_⟩) hSA0 ?_; rotate_left; focus (have lt := loadBlk_run w' w2.heap.size 0 V1 (range_under T35.out.whole hSw) F15.out.head; go_simp; try with_reducible rfl))
      simp only [Act.put, List.setIfInBounds_toArray, List.set_cons_zero, List.set_cons_succ]
      (refine wpAnyH_take (i := 5) (oi := ⟨some 27, .load 40 (.tmp 5), 40, "law.go:128", #[⟨3, .guard⟩], some (3, true)⟩) (v := ?_) rfl (by kernel_rfl) (by kernel_rfl) (by kernel_rfl) (fun _ _ _ h => h) (Or.inl ⟨by rfl, fun w' hSw => ?_⟩) hSA0 ?_; rotate_left; focus (have lt := loadBlk_run w' w4.heap.size 0 V2 (range_under T5.out.whole hSw) F25.out.head; go_simp; try with_reducible rfl))
      simp only [Act.put, List.setIfInBounds_toArray, List.set_cons_zero, List.set_cons_succ]
      refine wpAnyH_ready (rs := [6]) (by kernel_rfl) (by simp) ?_
      refine AllReadyH.cons rfl (fun K hK => ?_) AllReadyH.nil
      go_simp
      go_wp2_with (go_at_call 35; refine (refBSame_any w5d V1 V2 (F15.out.below hSA0) (F25.out.below hSA0) S1.out S2.out).mono ?_; rintro e w6 ⟨rfl, b6⟩; rw [hS.out])
      refine hK.out _ _ (Below.then_ hSA0 b6) (fun hSA1 => ?_)
      clear hK K
      (refine wpAnyH_take (i := 7) (oi := ⟨some 29, .pick (.tmp 25) (.tmp 28) (.const (.bool Bool.false)), 4, "law.go:128", #[⟨3, .data⟩, ⟨6, .data⟩], none⟩) (v := ?_) rfl (by kernel_rfl) (by kernel_rfl) (by kernel_rfl) (fun _ _ _ h => h) (Or.inl ⟨by rfl, fun w' hSw => ?_⟩) hSA1 ?_; rotate_left; focus (go_simp; try with_reducible rfl))
      simp only [Act.put, List.setIfInBounds_toArray, List.set_cons_zero, List.set_cons_succ]
      (refine wpAnyH_take (i := 8) (oi := ⟨some 30, .move (.tmp 29), 4, "law.go:128", #[⟨7, .data⟩, ⟨6, .chain⟩], none⟩) (v := ?_) rfl (by kernel_rfl) (by kernel_rfl) (by kernel_rfl) (fun _ _ _ h => h) (Or.inl ⟨by rfl, fun w' hSw => ?_⟩) hSA1 ?_; rotate_left; focus (go_simp; try with_reducible rfl))
      simp only [Act.put, List.setIfInBounds_toArray, List.set_cons_zero, List.set_cons_succ]
      (refine wpAnyH_take (i := 9) (oi := ⟨some 31, .move (.tmp 4), 69, "law.go:128", #[⟨8, .guard⟩], some (8, true)⟩) (v := ?_) rfl (by kernel_rfl) (by kernel_rfl) (by kernel_rfl) (fun _ _ _ h => h) (Or.inl ⟨by rfl, fun w' hSw => ?_⟩) hSA1 ?_; rotate_left; focus (go_simp; try with_reducible rfl))
      simp only [Act.put, List.setIfInBounds_toArray, List.set_cons_zero, List.set_cons_succ]
      (refine wpAnyH_take (i := 10) (oi := ⟨some 32, .binOp .neq 69 (.tmp 31) (.const (.int .i64 0)) 69, 4, "law.go:128", #[⟨9, .data⟩, ⟨8, .guard⟩], some (8, true)⟩) (v := ?_) rfl (by kernel_rfl) (by kernel_rfl) (by kernel_rfl) (fun _ _ _ h => h) (Or.inl ⟨by rfl, fun w' hSw => ?_⟩) hSA1 ?_; rotate_left; focus (go_simp; try with_reducible rfl))
      simp only [Act.put, List.setIfInBounds_toArray, List.set_cons_zero, List.set_cons_succ]
      (refine wpAnyH_take (i := 11) (oi := ⟨some 33, .move (.tmp 32), 4, "law.go:128", #[⟨10, .data⟩, ⟨8, .chain⟩, ⟨8, .guard⟩], some (8, true)⟩) (v := ?_) rfl (by kernel_rfl) (by kernel_rfl) (by kernel_rfl) (fun _ _ _ h => h) (Or.inl ⟨by rfl, fun w' hSw => ?_⟩) hSA1 ?_; rotate_left; focus (go_simp; try with_reducible rfl))
      simp only [Act.put, List.setIfInBounds_toArray, List.set_cons_zero, List.set_cons_succ]
      (refine wpAnyH_take (i := 12) (oi := ⟨some 34, .load 40 (.tmp 3), 40, "law.go:128", #[⟨11, .guard⟩], some (11, false)⟩) (v := ?_) rfl (by kernel_rfl) (by kernel_rfl) (by kernel_rfl) (fun _ _ _ h => h) (Or.inl ⟨by rfl, fun w' hSw => ?_⟩) hSA1 ?_; rotate_left; focus (have lt := loadBlk_run w' w2.heap.size 0 V1 (range_under T35.out.whole hSw) F15.out.head; go_simp; try with_reducible rfl))
      simp only [Act.put, List.setIfInBounds_toArray, List.set_cons_zero, List.set_cons_succ]
      (refine wpAnyH_take (i := 15) (oi := ⟨some 37, .move (.tmp 0), 56, "law.go:128", #[⟨11, .guard⟩], some (11, false)⟩) (v := ?_) rfl (by kernel_rfl) (by kernel_rfl) (by kernel_rfl) (fun _ _ _ h => h) (Or.inl ⟨by rfl, fun w' hSw => ?_⟩) hSA1 ?_; rotate_left; focus (go_simp; try with_reducible rfl))
      simp only [Act.put, List.setIfInBounds_toArray, List.set_cons_zero, List.set_cons_succ]
      (refine wpAnyH_take (i := 16) (oi := ⟨some 38, .convert 56 9 (.tmp 37), 9, "law.go:128", #[⟨15, .data⟩, ⟨11, .guard⟩], some (11, false)⟩) (v := ?_) rfl (by kernel_rfl) (by kernel_rfl) (by kernel_rfl) (fun _ _ _ h => h) (Or.inl ⟨by rfl, fun w' hSw => ?_⟩) hSA1 ?_; rotate_left; focus (have sb := hpstr.out w' A n c _ (Y5.out.below hSw) rfl; go_simp; try with_reducible rfl))
      simp only [Act.put, List.setIfInBounds_toArray, List.set_cons_zero, List.set_cons_succ]
      refine wpAnyH_ready (rs := [13]) (by kernel_rfl) (by simp) ?_
      refine AllReadyH.cons rfl (fun K hK => ?_) AllReadyH.nil
      go_simp
      go_wp2_with (go_at_call 32; refine (BBytes_any w6 V1 (F15.out.below hSA1) S1.out).mono ?_; rintro e w7 ⟨A7, n7, c7, rfl, t7, f7⟩)
      refine hK.out _ _ (Below.then_ hSA1 t7.below) (fun hSA2 => ?_)
      clear hK K
      refine wpAnyH_ready (rs := [14]) (by kernel_rfl) (by simp) ?_
      refine AllReadyH.cons rfl (fun K hK => ?_) AllReadyH.nil
      have s7 := hpstr.out w7 A7 n7 c7 _ t7.bys HW.out
      go_simp
      refine hK.out _ _ (hSA2) (fun hSA3 => ?_)
      clear hK K
      (refine wpAnyH_take (i := 17) (oi := ⟨some 39, .binOp .eql 9 (.tmp 36) (.tmp 38) 9, 4, "law.go:128", #[⟨14, .data⟩, ⟨16, .data⟩, ⟨11, .guard⟩], some (11, false)⟩) (v := ?_) rfl (by kernel_rfl) (by kernel_rfl) (by kernel_rfl) (fun _ _ _ h => h) (Or.inl ⟨by rfl, fun w' hSw => ?_⟩) hSA3 ?_; rotate_left; focus (go_simp; try with_reducible rfl))
      simp only [Act.put, List.setIfInBounds_toArray, List.set_cons_zero, List.set_cons_succ]
      (refine wpAnyH_take (i := 18) (oi := ⟨some 40, .pick (.tmp 33) (.const (.bool Bool.true)) (.tmp 39), 4, "law.go:128", #[⟨11, .data⟩, ⟨17, .data⟩, ⟨8, .guard⟩], some (8, true)⟩) (v := ?_) rfl (by kernel_rfl) (by kernel_rfl) (by kernel_rfl) (fun _ _ _ h => h) (Or.inl ⟨by rfl, fun w' hSw => ?_⟩) hSA3 ?_; rotate_left; focus (go_simp; try with_reducible rfl))
      simp only [Act.put, List.setIfInBounds_toArray, List.set_cons_zero, List.set_cons_succ]
      (refine wpAnyH_take (i := 19) (oi := ⟨some 41, .pick (.tmp 30) (.tmp 40) (.const (.bool Bool.false)), 4, "law.go:128", #[⟨8, .data⟩, ⟨18, .data⟩], none⟩) (v := ?_) rfl (by kernel_rfl) (by kernel_rfl) (by kernel_rfl) (fun _ _ _ h => h) (Or.inl ⟨by rfl, fun w' hSw => ?_⟩) hSA3 ?_; rotate_left; focus (go_simp; try with_reducible rfl))
      simp only [Act.put, List.setIfInBounds_toArray, List.set_cons_zero, List.set_cons_succ]
      (refine wpAnyH_take (i := 20) (oi := ⟨some 2, .assign (.tmp 41), 4, "law.go:128", #[⟨19, .data⟩, ⟨13, .chain⟩, ⟨0, .phase⟩, ⟨1, .phase⟩, ⟨2, .phase⟩, ⟨3, .phase⟩, ⟨4, .phase⟩, ⟨5, .phase⟩, ⟨6, .phase⟩, ⟨7, .phase⟩, ⟨8, .phase⟩, ⟨9, .phase⟩, ⟨10, .phase⟩, ⟨11, .phase⟩, ⟨12, .phase⟩, ⟨13, .phase⟩, ⟨14, .phase⟩, ⟨15, .phase⟩, ⟨16, .phase⟩, ⟨17, .phase⟩, ⟨18, .phase⟩, ⟨19, .phase⟩], none⟩) (v := ?_) rfl (by kernel_rfl) (by kernel_rfl) (by kernel_rfl) (fun _ _ _ h => h) (Or.inl ⟨by rfl, fun w' hSw => ?_⟩) hSA3 ?_; rotate_left; focus (go_simp; try with_reducible rfl))
      simp only [Act.put, List.setIfInBounds_toArray, List.set_cons_zero, List.set_cons_succ]
      refine wpAnyH_done (by kernel_rfl) ?_ _
      go_wp2_with fail
      go_ret
      exact ⟨rfl, Below.then_ HB5.out hSA3⟩
    · have hez : (E == 0) = false := by simp [he]
      have hne : (E != 0) = true := by simp [he]
      refine wp_region_held_drew (S := fun w' => Below w5.heap.size w5 w') (by kernel_rfl) (by exact (Below.refl _ _).drew) (fun hSA0 => ?_)
      obtain ⟨w5d, hwA⟩ : ∃ x, x = w5.drew := ⟨_, rfl⟩
      rw [← hwA] at hSA0 ⊢
      have hDA : Below w5.heap.size w5 w5d := by rw [hwA]; exact (Below.refl _ _).drew
      clear hwA
      (refine wpAnyH_take (i := 0) (oi := ⟨some 22, .move (.tmp 4), 69, "law.go:128", #[], none⟩) (v := ?_) rfl (by kernel_rfl) (by kernel_rfl) (by kernel_rfl) (fun _ _ _ h => h) (Or.inl ⟨by rfl, fun w' hSw => ?_⟩) hSA0 ?_; rotate_left; focus (go_simp; try with_reducible rfl))
      simp only [Act.put, List.setIfInBounds_toArray, List.set_cons_zero, List.set_cons_succ]
      (refine wpAnyH_take (i := 1) (oi := ⟨some 23, .move (.tmp 6), 3, "law.go:128", #[], none⟩) (v := ?_) rfl (by kernel_rfl) (by kernel_rfl) (by kernel_rfl) (fun _ _ _ h => h) (Or.inl ⟨by rfl, fun w' hSw => ?_⟩) hSA0 ?_; rotate_left; focus (go_simp; try with_reducible rfl))
      simp only [Act.put, List.setIfInBounds_toArray, List.set_cons_zero, List.set_cons_succ]
      (refine wpAnyH_take (i := 2) (oi := ⟨some 24, .binOp .eql 3 (.tmp 22) (.tmp 23) 3, 4, "law.go:128", #[⟨0, .data⟩, ⟨1, .data⟩], none⟩) (v := ?_) rfl (by kernel_rfl) (by kernel_rfl) (by kernel_rfl) (fun _ _ _ h => h) (Or.inl ⟨by rfl, fun w' hSw => ?_⟩) hSA0 ?_; rotate_left; focus (go_simp; try with_reducible rfl))
      simp only [Act.put, List.setIfInBounds_toArray, List.set_cons_zero, List.set_cons_succ]
      (refine wpAnyH_take (i := 3) (oi := ⟨some 25, .move (.tmp 24), 4, "law.go:128", #[⟨2, .data⟩], none⟩) (v := ?_) rfl (by kernel_rfl) (by kernel_rfl) (by kernel_rfl) (fun _ _ _ h => h) (Or.inl ⟨by rfl, fun w' hSw => ?_⟩) hSA0 ?_; rotate_left; focus (go_simp; try with_reducible rfl))
      simp only [Act.put, List.setIfInBounds_toArray, List.set_cons_zero, List.set_cons_succ]
      (refine wpAnyH_take (i := 4) (oi := ⟨some 26, .load 40 (.tmp 3), 40, "law.go:128", #[⟨3, .guard⟩], some (3, true)⟩) (v := ?_) rfl (by kernel_rfl) (by kernel_rfl) (by kernel_rfl) (fun _ _ _ h => h) (Or.inl ⟨by rfl, fun w' hSw => ?_⟩) hSA0 ?_; rotate_left; focus (have lt := loadBlk_run w' w2.heap.size 0 V1 (range_under T35.out.whole hSw) F15.out.head; go_simp; try with_reducible rfl))
      simp only [Act.put, List.setIfInBounds_toArray, List.set_cons_zero, List.set_cons_succ]
      (refine wpAnyH_take (i := 5) (oi := ⟨some 27, .load 40 (.tmp 5), 40, "law.go:128", #[⟨3, .guard⟩], some (3, true)⟩) (v := ?_) rfl (by kernel_rfl) (by kernel_rfl) (by kernel_rfl) (fun _ _ _ h => h) (Or.inl ⟨by rfl, fun w' hSw => ?_⟩) hSA0 ?_; rotate_left; focus (have lt := loadBlk_run w' w4.heap.size 0 V2 (range_under T5.out.whole hSw) F25.out.head; go_simp; try with_reducible rfl))
      simp only [Act.put, List.setIfInBounds_toArray, List.set_cons_zero, List.set_cons_succ]
      refine wpAnyH_ready (rs := [6]) (by kernel_rfl) (by simp) ?_
      refine AllReadyH.cons rfl (fun K hK => ?_) AllReadyH.nil
      go_simp
      go_wp2_with (go_at_call 35; refine (refBSame_any w5d V1 V2 (F15.out.below hSA0) (F25.out.below hSA0) S1.out S2.out).mono ?_; rintro e w6 ⟨rfl, b6⟩; rw [hS.out])
      refine hK.out _ _ (Below.then_ hSA0 b6) (fun hSA1 => ?_)
      clear hK K
      (refine wpAnyH_take (i := 7) (oi := ⟨some 29, .pick (.tmp 25) (.tmp 28) (.const (.bool Bool.false)), 4, "law.go:128", #[⟨3, .data⟩, ⟨6, .data⟩], none⟩) (v := ?_) rfl (by kernel_rfl) (by kernel_rfl) (by kernel_rfl) (fun _ _ _ h => h) (Or.inl ⟨by rfl, fun w' hSw => ?_⟩) hSA1 ?_; rotate_left; focus (go_simp; try with_reducible rfl))
      simp only [Act.put, List.setIfInBounds_toArray, List.set_cons_zero, List.set_cons_succ]
      (refine wpAnyH_take (i := 8) (oi := ⟨some 30, .move (.tmp 29), 4, "law.go:128", #[⟨7, .data⟩, ⟨6, .chain⟩], none⟩) (v := ?_) rfl (by kernel_rfl) (by kernel_rfl) (by kernel_rfl) (fun _ _ _ h => h) (Or.inl ⟨by rfl, fun w' hSw => ?_⟩) hSA1 ?_; rotate_left; focus (go_simp; try with_reducible rfl))
      simp only [Act.put, List.setIfInBounds_toArray, List.set_cons_zero, List.set_cons_succ]
      (refine wpAnyH_take (i := 9) (oi := ⟨some 31, .move (.tmp 4), 69, "law.go:128", #[⟨8, .guard⟩], some (8, true)⟩) (v := ?_) rfl (by kernel_rfl) (by kernel_rfl) (by kernel_rfl) (fun _ _ _ h => h) (Or.inl ⟨by rfl, fun w' hSw => ?_⟩) hSA1 ?_; rotate_left; focus (go_simp; try with_reducible rfl))
      simp only [Act.put, List.setIfInBounds_toArray, List.set_cons_zero, List.set_cons_succ]
      (refine wpAnyH_take (i := 10) (oi := ⟨some 32, .binOp .neq 69 (.tmp 31) (.const (.int .i64 0)) 69, 4, "law.go:128", #[⟨9, .data⟩, ⟨8, .guard⟩], some (8, true)⟩) (v := ?_) rfl (by kernel_rfl) (by kernel_rfl) (by kernel_rfl) (fun _ _ _ h => h) (Or.inl ⟨by rfl, fun w' hSw => ?_⟩) hSA1 ?_; rotate_left; focus (go_simp; try with_reducible rfl))
      simp only [Act.put, List.setIfInBounds_toArray, List.set_cons_zero, List.set_cons_succ]
      (refine wpAnyH_take (i := 11) (oi := ⟨some 33, .move (.tmp 32), 4, "law.go:128", #[⟨10, .data⟩, ⟨8, .chain⟩, ⟨8, .guard⟩], some (8, true)⟩) (v := ?_) rfl (by kernel_rfl) (by kernel_rfl) (by kernel_rfl) (fun _ _ _ h => h) (Or.inl ⟨by rfl, fun w' hSw => ?_⟩) hSA1 ?_; rotate_left; focus (go_simp; try with_reducible rfl))
      simp only [Act.put, List.setIfInBounds_toArray, List.set_cons_zero, List.set_cons_succ]
      refine wpAnyH_take (i := 12) (oi := ⟨some 34, .load 40 (.tmp 3), 40, "law.go:128", #[⟨11, .guard⟩], some (11, false)⟩) (v := undef) rfl (by kernel_rfl) (by kernel_rfl) (by kernel_rfl) (fun _ _ _ h => h) (Or.inr ⟨by rfl, rfl⟩) hSA1 ?_
      simp only [Act.put, List.setIfInBounds_toArray, List.set_cons_zero, List.set_cons_succ]
      refine wpAnyH_take (i := 13) (oi := ⟨some 35, .call { callee := .value (.func 32), args := #[.tmp 34], argTypes := #[40] }, 56, "law.go:128", #[⟨12, .data⟩, ⟨11, .chain⟩, ⟨11, .guard⟩], some (11, false)⟩) (v := undef) rfl (by kernel_rfl) (by kernel_rfl) (by kernel_rfl) (fun _ _ _ h => h) (Or.inr ⟨by rfl, rfl⟩) hSA1 ?_
      simp only [Act.put, List.setIfInBounds_toArray, List.set_cons_zero, List.set_cons_succ]
      refine wpAnyH_take (i := 14) (oi := ⟨some 36, .convert 56 9 (.tmp 35), 9, "law.go:128", #[⟨13, .data⟩, ⟨11, .guard⟩], some (11, false)⟩) (v := undef) rfl (by kernel_rfl) (by kernel_rfl) (by kernel_rfl) (fun _ _ _ h => h) (Or.inr ⟨by rfl, rfl⟩) hSA1 ?_
      simp only [Act.put, List.setIfInBounds_toArray, List.set_cons_zero, List.set_cons_succ]
      refine wpAnyH_take (i := 15) (oi := ⟨some 37, .move (.tmp 0), 56, "law.go:128", #[⟨11, .guard⟩], some (11, false)⟩) (v := undef) rfl (by kernel_rfl) (by kernel_rfl) (by kernel_rfl) (fun _ _ _ h => h) (Or.inr ⟨by rfl, rfl⟩) hSA1 ?_
      simp only [Act.put, List.setIfInBounds_toArray, List.set_cons_zero, List.set_cons_succ]
      refine wpAnyH_take (i := 16) (oi := ⟨some 38, .convert 56 9 (.tmp 37), 9, "law.go:128", #[⟨15, .data⟩, ⟨11, .guard⟩], some (11, false)⟩) (v := undef) rfl (by kernel_rfl) (by kernel_rfl) (by kernel_rfl) (fun _ _ _ h => h) (Or.inr ⟨by rfl, rfl⟩) hSA1 ?_
      simp only [Act.put, List.setIfInBounds_toArray, List.set_cons_zero, List.set_cons_succ]
      refine wpAnyH_take (i := 17) (oi := ⟨some 39, .binOp .eql 9 (.tmp 36) (.tmp 38) 9, 4, "law.go:128", #[⟨14, .data⟩, ⟨16, .data⟩, ⟨11, .guard⟩], some (11, false)⟩) (v := undef) rfl (by kernel_rfl) (by kernel_rfl) (by kernel_rfl) (fun _ _ _ h => h) (Or.inr ⟨by rfl, rfl⟩) hSA1 ?_
      simp only [Act.put, List.setIfInBounds_toArray, List.set_cons_zero, List.set_cons_succ]
      (refine wpAnyH_take (i := 18) (oi := ⟨some 40, .pick (.tmp 33) (.const (.bool Bool.true)) (.tmp 39), 4, "law.go:128", #[⟨11, .data⟩, ⟨17, .data⟩, ⟨8, .guard⟩], some (8, true)⟩) (v := ?_) rfl (by kernel_rfl) (by kernel_rfl) (by kernel_rfl) (fun _ _ _ h => h) (Or.inl ⟨by rfl, fun w' hSw => ?_⟩) hSA1 ?_; rotate_left; focus (go_simp; try with_reducible rfl))
      simp only [Act.put, List.setIfInBounds_toArray, List.set_cons_zero, List.set_cons_succ]
      (refine wpAnyH_take (i := 19) (oi := ⟨some 41, .pick (.tmp 30) (.tmp 40) (.const (.bool Bool.false)), 4, "law.go:128", #[⟨8, .data⟩, ⟨18, .data⟩], none⟩) (v := ?_) rfl (by kernel_rfl) (by kernel_rfl) (by kernel_rfl) (fun _ _ _ h => h) (Or.inl ⟨by rfl, fun w' hSw => ?_⟩) hSA1 ?_; rotate_left; focus (go_simp; try with_reducible rfl))
      simp only [Act.put, List.setIfInBounds_toArray, List.set_cons_zero, List.set_cons_succ]
      (refine wpAnyH_take (i := 20) (oi := ⟨some 2, .assign (.tmp 41), 4, "law.go:128", #[⟨19, .data⟩, ⟨13, .chain⟩, ⟨0, .phase⟩, ⟨1, .phase⟩, ⟨2, .phase⟩, ⟨3, .phase⟩, ⟨4, .phase⟩, ⟨5, .phase⟩, ⟨6, .phase⟩, ⟨7, .phase⟩, ⟨8, .phase⟩, ⟨9, .phase⟩, ⟨10, .phase⟩, ⟨11, .phase⟩, ⟨12, .phase⟩, ⟨13, .phase⟩, ⟨14, .phase⟩, ⟨15, .phase⟩, ⟨16, .phase⟩, ⟨17, .phase⟩, ⟨18, .phase⟩, ⟨19, .phase⟩], none⟩) (v := ?_) rfl (by kernel_rfl) (by kernel_rfl) (by kernel_rfl) (fun _ _ _ h => h) (Or.inl ⟨by rfl, fun w' hSw => ?_⟩) hSA1 ?_; rotate_left; focus (go_simp; try with_reducible rfl))
      simp only [Act.put, List.setIfInBounds_toArray, List.set_cons_zero, List.set_cons_succ]
      refine wpAnyH_done (by kernel_rfl) ?_ _
      go_wp2_with fail
      go_ret
      exact ⟨rfl, Below.then_ HB5.out hSA1⟩
end Go.Proofs.Ytbpmcnfmgaolnaa
