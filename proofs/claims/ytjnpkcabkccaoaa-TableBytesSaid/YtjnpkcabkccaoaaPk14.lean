import Derived.Test.YtjnpkcabkccaoaaPk13
import Derived.Test.YtjnpkcabkccaoaaPk1
import Derived.Test.YtjnpkcabkccaoaaPk9
/-
  table: are pairs a batch?
-/
namespace Go.Proofs.Ytjnpkcabkccaoaa
open Go.RowKit

/-- The key of the one ahead. -/
def prevK (L : List PairD) : Nat → Option (List Int)
  | 0 => none
  | j + 1 => (L[j]?).map (·.key)
theorem right_step (L : List PairD) (j : Nat) (x : PairD) (hx : L[j]? = some x) (h : rightB L = rightFrom (prevK L j) (L.drop j)) :
    rightB L = ((x.okB && aheadB (prevK L j) x.key) && rightFrom (prevK L (j + 1)) (L.drop (j + 1))) := by
  obtain ⟨hlt, he⟩ := List.getElem?_eq_some_iff.1 hx
  rw [h, List.drop_eq_getElem_cons hlt, he, rightFrom]
  simp only [prevK, hx, Option.map_some]
theorem pmap_get {xs : List PairV} {j : Nat} {x : PairV} (h : xs[j]? = some x) : (xs.map PairV.d)[j]? = some x.d := by rw [List.getElem?_map, h]; rfl
attribute [local go_sem ↓] loadPr_fold
set_option maxHeartbeats 4000000 in
set_option maxRecDepth 100000 in
theorem batch_any (w : World) (A : Option Addr) (n c : Nat) (xs : List PairV) (hX : PairsIn w A n xs) (hn : n ≤ 1000000000000) (hm : ∀ p ∈ xs, p.kN ≤ 1000000000000 ∧ p.vN ≤ 1000000000000) :
    Calls Try.prog 117 #[.slice A n c] w fun e w' => e = .returned (.bool (rightB (xs.map PairV.d))) ∧ Below w.heap.size w w' := by
  have HX := hide hX
  have HM := hide hm
  have n9 : (n : Int) ≤ 1000000000000 := by omega
  obtain ⟨L, hL⟩ : ∃ L, L = xs.map PairV.d := ⟨_, rfl⟩
  have HL := hide hL
  rw [← hL]
  clear hX hn hm hL
  go_enter Try.func117, Try.ntmps117
  go_wp2_with fail
  go_loopw [7] (fun i wr => ∃ j : Nat, j ≤ n ∧ i = .int .i64 (j : Int) ∧ rightB L = rightFrom (prevK L j) (L.drop j) ∧ Below w.heap.size w wr) (fun i _ => n - (intOf i).toNat)
  case atStart => exact ⟨0, by omega, rfl, rfl, Below.refl _ _⟩
  case round =>
    obtain ⟨j, hj, rfl, hr, hb⟩ := hrel
    have HB := hide hb
    have XR := hide (HX.out.below' hb)
    by_cases hlt : j < n
    · obtain ⟨pb, off, hpa, hrow⟩ := XR.out.2.2 (by omega)
      subst hpa
      obtain ⟨x, hx⟩ : ∃ x, xs[j]? = some x := ⟨_, List.getElem?_eq_getElem (by rw [XR.out.1]; exact hlt)⟩
      have XF := hide (XR.out.2.1 x (List.mem_of_getElem? hx))
      have XM := hide (HM.out x (List.mem_of_getElem? hx))
      have HR := hide (right_step L j x.d (by rw [HL.out]; exact pmap_get hx) hr)
      have hld := loadPr_run wr pb (off + j * 3) x (hrow j x hx)
      have HLT := hide hlt
      have HROW := hide hrow
      have i0 : (0 : Int) ≤ (j : Int) := by omega
      have i1 : (j : Int) < (n : Int) := by omega
      clear hr hb hx hlt hrow hj
      go_wp2_with (first
        | (refine wpList_alloc_agg rfl 100 rfl zeroPr zeroPr_info ?_; simp only [Act.put, sT, sZ, sS])
        | (refine pr_store rfl _ _ rfl wr rfl (by rfl) x (by rfl) ?_; intro w5 b5 s5 k5; have B5 := hide b5; have K5 := hide k5; clear b5 s5 k5 hld; simp only [Act.put]))
      have B05 := hide (Below.then_ HB.out B5.out)
      have XF5 := hide (XF.out.below B5.out)
      cases hok : x.d.okB with
      | false =>
        have HE := hide (show rightB L = false by rw [HR.out, hok]; rfl)
        have HOK := hide hok
        clear hok
        refine wp_region_held_drew (S := fun w' => Below w5.heap.size w5 w') (by kernel_rfl) ((Below.refl _ w5).drew) (fun hSA0 => ?_)
        obtain ⟨w5d, hwA⟩ : ∃ x, x = w5.drew := ⟨_, rfl⟩
        rw [← hwA] at hSA0 ⊢
        clear hwA
        (refine tk (i := 0) (oi := ⟨some 12, .load 100 (.tmp 4), 100, "table.go:28", #[], none⟩) (v := ?_) hSA0 (fun w' hSw => ?_) ?_; rotate_left; focus (have z := loadPr_run w' wr.heap.size 0 x (K5.out.under hSw).whole; go_simp; try with_reducible rfl))
        simp only [Act.put, sT, sZ, sS]
        refine wpAnyH_ready (rs := [1]) (by kernel_rfl) (by simp) ?_
        refine AllReadyH.cons rfl (fun K hK => ?_) AllReadyH.nil
        go_simp
        refine (one_any w5d x (XF5.out.below hSA0) XM.out).mono ?_
        rintro e w6 ⟨rfl, b6⟩
        rw [HOK.out]
        go_simp
        refine hK.out _ _ (Below.then_ hSA0 b6) (fun hSA1 => ?_)
        clear hK K
        (refine tk (i := 2) (oi := ⟨some 14, .unOp .not 4 (.tmp 13), 4, "table.go:28", #[⟨1, .data⟩], none⟩) (v := ?_) hSA1 (fun w' hSw => ?_) ?_; rotate_left; focus (go_simp; try with_reducible rfl))
        simp only [Act.put, sT, sZ, sS]
        (refine tk (i := 3) (oi := ⟨some 15, .move (.tmp 14), 4, "table.go:28", #[⟨2, .data⟩, ⟨1, .chain⟩], none⟩) (v := ?_) hSA1 (fun w' hSw => ?_) ?_; rotate_left; focus (go_simp; try with_reducible rfl))
        simp only [Act.put, sT, sZ, sS]
        refine tn (i := 4) (oi := ⟨some 16, .move (.tmp 3), 3, "table.go:28", #[⟨3, .guard⟩], some (3, false)⟩) hSA1 ?_
        simp only [Act.put, sT, sZ, sS]
        refine tn (i := 5) (oi := ⟨some 17, .binOp .gtr 3 (.tmp 16) (.const (.int .i64 0)) 3, 4, "table.go:28", #[⟨4, .data⟩, ⟨3, .guard⟩], some (3, false)⟩) hSA1 ?_
        simp only [Act.put, sT, sZ, sS]
        refine tn (i := 6) (oi := ⟨some 18, .move (.tmp 17), 4, "table.go:28", #[⟨5, .data⟩, ⟨3, .chain⟩, ⟨3, .guard⟩], some (3, false)⟩) hSA1 ?_
        simp only [Act.put, sT, sZ, sS]
        refine tn (i := 7) (oi := ⟨some 19, .move (.tmp 0), 94, "table.go:28", #[⟨6, .guard⟩], some (6, true)⟩) hSA1 ?_
        simp only [Act.put, sT, sZ, sS]
        refine tn (i := 8) (oi := ⟨some 20, .move (.tmp 3), 3, "table.go:28", #[⟨6, .guard⟩], some (6, true)⟩) hSA1 ?_
        simp only [Act.put, sT, sZ, sS]
        refine tn (i := 9) (oi := ⟨some 21, .binOp .sub 3 (.tmp 20) (.const (.int .i64 1)) 3, 3, "table.go:28", #[⟨8, .data⟩, ⟨6, .guard⟩], some (6, true)⟩) hSA1 ?_
        simp only [Act.put, sT, sZ, sS]
        refine tn (i := 10) (oi := ⟨some 22, .indexAddr 94 (.tmp 19) (.tmp 21), 0, "table.go:28", #[⟨7, .data⟩, ⟨9, .data⟩, ⟨6, .guard⟩], some (6, true)⟩) hSA1 ?_
        simp only [Act.put, sT, sZ, sS]
        refine tn (i := 11) (oi := ⟨some 23, .load 100 (.tmp 22), 100, "table.go:28", #[⟨10, .data⟩, ⟨6, .guard⟩], some (6, true)⟩) hSA1 ?_
        simp only [Act.put, sT, sZ, sS]
        refine tn (i := 12) (oi := ⟨some 24, .load 100 (.tmp 4), 100, "table.go:28", #[⟨6, .guard⟩], some (6, true)⟩) hSA1 ?_
        simp only [Act.put, sT, sZ, sS]
        refine tn (i := 13) (oi := ⟨some 25, .call { callee := .value (.func 119), args := #[.tmp 23, .tmp 24], argTypes := #[100, 100] }, 3, "table.go:28", #[⟨11, .data⟩, ⟨12, .data⟩, ⟨6, .chain⟩, ⟨6, .guard⟩], some (6, true)⟩) hSA1 ?_
        simp only [Act.put, sT, sZ, sS]
        refine tn (i := 14) (oi := ⟨some 26, .binOp .geq 3 (.tmp 25) (.const (.int .i64 0)) 3, 4, "table.go:28", #[⟨13, .data⟩, ⟨6, .guard⟩], some (6, true)⟩) hSA1 ?_
        simp only [Act.put, sT, sZ, sS]
        refine tn (i := 15) (oi := ⟨some 27, .pick (.tmp 18) (.tmp 26) (.const (.bool Bool.false)), 4, "table.go:28", #[⟨6, .data⟩, ⟨14, .data⟩, ⟨3, .guard⟩], some (3, false)⟩) hSA1 ?_
        simp only [Act.put, sT, sZ, sS]
        (refine tk (i := 16) (oi := ⟨some 28, .pick (.tmp 15) (.const (.bool Bool.true)) (.tmp 27), 4, "table.go:28", #[⟨3, .data⟩, ⟨15, .data⟩], none⟩) (v := ?_) hSA1 (fun w' hSw => ?_) ?_; rotate_left; focus (go_simp; try with_reducible rfl))
        simp only [Act.put, sT, sZ, sS]
        refine wpAnyH_done (by kernel_rfl) ?_ _
        go_wp2_with fail
        go_ret
        exact ⟨by rw [HE.out]; rfl, Below.then_ B05.out hSA1⟩
      | true =>
        have HOK := hide hok
        by_cases h0 : j = 0
        · subst h0
          have HE := hide (show rightB L = rightFrom (prevK L (0 + 1)) (L.drop (0 + 1)) by rw [HR.out, hok]; rfl)
          clear hok
          refine wp_region_held_drew (S := fun w' => Below w5.heap.size w5 w') (by kernel_rfl) ((Below.refl _ w5).drew) (fun hSB0 => ?_)
          obtain ⟨w5d, hwB⟩ : ∃ x, x = w5.drew := ⟨_, rfl⟩
          rw [← hwB] at hSB0 ⊢
          clear hwB
          (refine tk (i := 0) (oi := ⟨some 12, .load 100 (.tmp 4), 100, "table.go:28", #[], none⟩) (v := ?_) hSB0 (fun w' hSw => ?_) ?_; rotate_left; focus (have z := loadPr_run w' wr.heap.size 0 x (K5.out.under hSw).whole; go_simp; try with_reducible rfl))
          simp only [Act.put, sT, sZ, sS]
          refine wpAnyH_ready (rs := [1]) (by kernel_rfl) (by simp) ?_
          refine AllReadyH.cons rfl (fun K hK => ?_) AllReadyH.nil
          go_simp
          refine (one_any w5d x (XF5.out.below hSB0) XM.out).mono ?_
          rintro e w6 ⟨rfl, b6⟩
          rw [HOK.out]
          go_simp
          refine hK.out _ _ (Below.then_ hSB0 b6) (fun hSB1 => ?_)
          clear hK K
          (refine tk (i := 2) (oi := ⟨some 14, .unOp .not 4 (.tmp 13), 4, "table.go:28", #[⟨1, .data⟩], none⟩) (v := ?_) hSB1 (fun w' hSw => ?_) ?_; rotate_left; focus (go_simp; try with_reducible rfl))
          simp only [Act.put, sT, sZ, sS]
          (refine tk (i := 3) (oi := ⟨some 15, .move (.tmp 14), 4, "table.go:28", #[⟨2, .data⟩, ⟨1, .chain⟩], none⟩) (v := ?_) hSB1 (fun w' hSw => ?_) ?_; rotate_left; focus (go_simp; try with_reducible rfl))
          simp only [Act.put, sT, sZ, sS]
          (refine tk (i := 4) (oi := ⟨some 16, .move (.tmp 3), 3, "table.go:28", #[⟨3, .guard⟩], some (3, false)⟩) (v := ?_) hSB1 (fun w' hSw => ?_) ?_; rotate_left; focus (go_simp; try with_reducible rfl))
          simp only [Act.put, sT, sZ, sS]
          (refine tk (i := 5) (oi := ⟨some 17, .binOp .gtr 3 (.tmp 16) (.const (.int .i64 0)) 3, 4, "table.go:28", #[⟨4, .data⟩, ⟨3, .guard⟩], some (3, false)⟩) (v := ?_) hSB1 (fun w' hSw => ?_) ?_; rotate_left; focus (go_simp; try with_reducible rfl))
          simp only [Act.put, sT, sZ, sS]
          (refine tk (i := 6) (oi := ⟨some 18, .move (.tmp 17), 4, "table.go:28", #[⟨5, .data⟩, ⟨3, .chain⟩, ⟨3, .guard⟩], some (3, false)⟩) (v := ?_) hSB1 (fun w' hSw => ?_) ?_; rotate_left; focus (go_simp; try with_reducible rfl))
          simp only [Act.put, sT, sZ, sS]
          refine tn (i := 7) (oi := ⟨some 19, .move (.tmp 0), 94, "table.go:28", #[⟨6, .guard⟩], some (6, true)⟩) hSB1 ?_
          simp only [Act.put, sT, sZ, sS]
          refine tn (i := 8) (oi := ⟨some 20, .move (.tmp 3), 3, "table.go:28", #[⟨6, .guard⟩], some (6, true)⟩) hSB1 ?_
          simp only [Act.put, sT, sZ, sS]
          refine tn (i := 9) (oi := ⟨some 21, .binOp .sub 3 (.tmp 20) (.const (.int .i64 1)) 3, 3, "table.go:28", #[⟨8, .data⟩, ⟨6, .guard⟩], some (6, true)⟩) hSB1 ?_
          simp only [Act.put, sT, sZ, sS]
          refine tn (i := 10) (oi := ⟨some 22, .indexAddr 94 (.tmp 19) (.tmp 21), 0, "table.go:28", #[⟨7, .data⟩, ⟨9, .data⟩, ⟨6, .guard⟩], some (6, true)⟩) hSB1 ?_
          simp only [Act.put, sT, sZ, sS]
          refine tn (i := 11) (oi := ⟨some 23, .load 100 (.tmp 22), 100, "table.go:28", #[⟨10, .data⟩, ⟨6, .guard⟩], some (6, true)⟩) hSB1 ?_
          simp only [Act.put, sT, sZ, sS]
          refine tn (i := 12) (oi := ⟨some 24, .load 100 (.tmp 4), 100, "table.go:28", #[⟨6, .guard⟩], some (6, true)⟩) hSB1 ?_
          simp only [Act.put, sT, sZ, sS]
          refine tn (i := 13) (oi := ⟨some 25, .call { callee := .value (.func 119), args := #[.tmp 23, .tmp 24], argTypes := #[100, 100] }, 3, "table.go:28", #[⟨11, .data⟩, ⟨12, .data⟩, ⟨6, .chain⟩, ⟨6, .guard⟩], some (6, true)⟩) hSB1 ?_
          simp only [Act.put, sT, sZ, sS]
          refine tn (i := 14) (oi := ⟨some 26, .binOp .geq 3 (.tmp 25) (.const (.int .i64 0)) 3, 4, "table.go:28", #[⟨13, .data⟩, ⟨6, .guard⟩], some (6, true)⟩) hSB1 ?_
          simp only [Act.put, sT, sZ, sS]
          (refine tk (i := 15) (oi := ⟨some 27, .pick (.tmp 18) (.tmp 26) (.const (.bool Bool.false)), 4, "table.go:28", #[⟨6, .data⟩, ⟨14, .data⟩, ⟨3, .guard⟩], some (3, false)⟩) (v := ?_) hSB1 (fun w' hSw => ?_) ?_; rotate_left; focus (go_simp; try with_reducible rfl))
          simp only [Act.put, sT, sZ, sS]
          (refine tk (i := 16) (oi := ⟨some 28, .pick (.tmp 15) (.const (.bool Bool.true)) (.tmp 27), 4, "table.go:28", #[⟨3, .data⟩, ⟨15, .data⟩], none⟩) (v := ?_) hSB1 (fun w' hSw => ?_) ?_; rotate_left; focus (go_simp; try with_reducible rfl))
          simp only [Act.put, sT, sZ, sS]
          refine wpAnyH_done (by kernel_rfl) ?_ _
          go_wp2_with fail
          exact ⟨⟨0 + 1, by have := HLT.out; omega, by go_num, HE.out, Below.then_ B05.out hSB1⟩, by have := HLT.out; simp [intOf]; omega⟩
        · obtain ⟨k, hk⟩ : ∃ k, k + 1 = j := ⟨j - 1, by omega⟩
          have hkl : k < xs.length := by rw [XR.out.1]; have := HLT.out; omega
          obtain ⟨y, hy⟩ : ∃ y, xs[k]? = some y := ⟨_, List.getElem?_eq_getElem hkl⟩
          have YF5 := hide ((XR.out.2.1 y (List.mem_of_getElem? hy)).below B5.out)
          have YR := hide (range_under (HROW.out k y hy) B5.out)
          have hwr : IntKind.i64.wrap (k : Int) = (k : Int) := by rw [IntKind.wrap_i64]; omega
          have hwr2 : (j : Int) - 1 = (k : Int) := by omega
          have j1 : (j : Int) > 0 := by omega
          have j3 : 0 < j := by omega
          have k0 : (0 : Int) ≤ (k : Int) := by omega
          have k1 : (k : Int) < (n : Int) := by have := HLT.out; omega
          have HP := hide (show aheadB (prevK L j) x.d.key = decide (lex y.key x.key < 0) by rw [← hk, prevK, HL.out, pmap_get hy]; rfl)
          clear hk hkl hy h0
          by_cases hx9 : lex y.key x.key < 0
          · have HE := hide (show rightB L = rightFrom (prevK L (j + 1)) (L.drop (j + 1)) by rw [HR.out, hok, HP.out, decide_eq_true hx9]; rfl)
            have c9 : ¬ (0 ≤ lex y.key x.key) := by omega
            have d9 : decide (lex y.key x.key ≥ 0) = false := by simp; omega
            clear hok
            refine wp_region_held_drew (S := fun w' => Below w5.heap.size w5 w') (by kernel_rfl) ((Below.refl _ w5).drew) (fun hSC0 => ?_)
            obtain ⟨w5d, hwC⟩ : ∃ x, x = w5.drew := ⟨_, rfl⟩
            rw [← hwC] at hSC0 ⊢
            clear hwC
            (refine tk (i := 0) (oi := ⟨some 12, .load 100 (.tmp 4), 100, "table.go:28", #[], none⟩) (v := ?_) hSC0 (fun w' hSw => ?_) ?_; rotate_left; focus (have z := loadPr_run w' wr.heap.size 0 x (K5.out.under hSw).whole; go_simp; try with_reducible rfl))
            simp only [Act.put, sT, sZ, sS]
            refine wpAnyH_ready (rs := [1]) (by kernel_rfl) (by simp) ?_
            refine AllReadyH.cons rfl (fun K hK => ?_) AllReadyH.nil
            go_simp
            refine (one_any w5d x (XF5.out.below hSC0) XM.out).mono ?_
            rintro e w6 ⟨rfl, b6⟩
            rw [HOK.out]
            go_simp
            refine hK.out _ _ (Below.then_ hSC0 b6) (fun hSC1 => ?_)
            clear hK K
            (refine tk (i := 2) (oi := ⟨some 14, .unOp .not 4 (.tmp 13), 4, "table.go:28", #[⟨1, .data⟩], none⟩) (v := ?_) hSC1 (fun w' hSw => ?_) ?_; rotate_left; focus (go_simp; try with_reducible rfl))
            simp only [Act.put, sT, sZ, sS]
            (refine tk (i := 3) (oi := ⟨some 15, .move (.tmp 14), 4, "table.go:28", #[⟨2, .data⟩, ⟨1, .chain⟩], none⟩) (v := ?_) hSC1 (fun w' hSw => ?_) ?_; rotate_left; focus (go_simp; try with_reducible rfl))
            simp only [Act.put, sT, sZ, sS]
            (refine tk (i := 4) (oi := ⟨some 16, .move (.tmp 3), 3, "table.go:28", #[⟨3, .guard⟩], some (3, false)⟩) (v := ?_) hSC1 (fun w' hSw => ?_) ?_; rotate_left; focus (go_simp; try with_reducible rfl))
            simp only [Act.put, sT, sZ, sS]
            (refine tk (i := 5) (oi := ⟨some 17, .binOp .gtr 3 (.tmp 16) (.const (.int .i64 0)) 3, 4, "table.go:28", #[⟨4, .data⟩, ⟨3, .guard⟩], some (3, false)⟩) (v := ?_) hSC1 (fun w' hSw => ?_) ?_; rotate_left; focus (go_simp; try with_reducible rfl))
            simp only [Act.put, sT, sZ, sS]
            (refine tk (i := 6) (oi := ⟨some 18, .move (.tmp 17), 4, "table.go:28", #[⟨5, .data⟩, ⟨3, .chain⟩, ⟨3, .guard⟩], some (3, false)⟩) (v := ?_) hSC1 (fun w' hSw => ?_) ?_; rotate_left; focus (go_simp; try with_reducible rfl))
            simp only [Act.put, sT, sZ, sS]
            (refine tk (i := 7) (oi := ⟨some 19, .move (.tmp 0), 94, "table.go:28", #[⟨6, .guard⟩], some (6, true)⟩) (v := ?_) hSC1 (fun w' hSw => ?_) ?_; rotate_left; focus (go_simp; try with_reducible rfl))
            simp only [Act.put, sT, sZ, sS]
            (refine tk (i := 8) (oi := ⟨some 20, .move (.tmp 3), 3, "table.go:28", #[⟨6, .guard⟩], some (6, true)⟩) (v := ?_) hSC1 (fun w' hSw => ?_) ?_; rotate_left; focus (go_simp; try with_reducible rfl))
            simp only [Act.put, sT, sZ, sS]
            (refine tk (i := 9) (oi := ⟨some 21, .binOp .sub 3 (.tmp 20) (.const (.int .i64 1)) 3, 3, "table.go:28", #[⟨8, .data⟩, ⟨6, .guard⟩], some (6, true)⟩) (v := ?_) hSC1 (fun w' hSw => ?_) ?_; rotate_left; focus (go_simp; try with_reducible rfl))
            simp only [Act.put, sT, sZ, sS]
            (refine tk (i := 10) (oi := ⟨some 22, .indexAddr 94 (.tmp 19) (.tmp 21), 0, "table.go:28", #[⟨7, .data⟩, ⟨9, .data⟩, ⟨6, .guard⟩], some (6, true)⟩) (v := ?_) hSC1 (fun w' hSw => ?_) ?_; rotate_left; focus (go_simp; try with_reducible rfl))
            simp only [Act.put, sT, sZ, sS]
            (refine tk (i := 11) (oi := ⟨some 23, .load 100 (.tmp 22), 100, "table.go:28", #[⟨10, .data⟩, ⟨6, .guard⟩], some (6, true)⟩) (v := ?_) hSC1 (fun w' hSw => ?_) ?_; rotate_left; focus (have z := loadPr_run w' pb (off + k * 3) y (range_under YR.out hSw); go_simp; try with_reducible rfl))
            simp only [Act.put, sT, sZ, sS]
            (refine tk (i := 12) (oi := ⟨some 24, .load 100 (.tmp 4), 100, "table.go:28", #[⟨6, .guard⟩], some (6, true)⟩) (v := ?_) hSC1 (fun w' hSw => ?_) ?_; rotate_left; focus (have z := loadPr_run w' wr.heap.size 0 x (K5.out.under hSw).whole; go_simp; try with_reducible rfl))
            simp only [Act.put, sT, sZ, sS]
            refine wpAnyH_ready (rs := [13]) (by kernel_rfl) (by simp) ?_
            refine AllReadyH.cons rfl (fun K hK => ?_) AllReadyH.nil
            go_simp
            refine (byKey_any w6 y x (YF5.out.below hSC1) (XF5.out.below hSC1)).mono ?_
            rintro e w7 ⟨rfl, b7⟩
            go_simp
            refine hK.out _ _ (Below.then_ hSC1 b7) (fun hSC2 => ?_)
            clear hK K
            (refine tk (i := 14) (oi := ⟨some 26, .binOp .geq 3 (.tmp 25) (.const (.int .i64 0)) 3, 4, "table.go:28", #[⟨13, .data⟩, ⟨6, .guard⟩], some (6, true)⟩) (v := ?_) hSC2 (fun w' hSw => ?_) ?_; rotate_left; focus (go_simp; try with_reducible rfl))
            simp only [Act.put, sT, sZ, sS]
            (refine tk (i := 15) (oi := ⟨some 27, .pick (.tmp 18) (.tmp 26) (.const (.bool Bool.false)), 4, "table.go:28", #[⟨6, .data⟩, ⟨14, .data⟩, ⟨3, .guard⟩], some (3, false)⟩) (v := ?_) hSC2 (fun w' hSw => ?_) ?_; rotate_left; focus (go_simp; try with_reducible rfl))
            simp only [Act.put, sT, sZ, sS]
            (refine tk (i := 16) (oi := ⟨some 28, .pick (.tmp 15) (.const (.bool Bool.true)) (.tmp 27), 4, "table.go:28", #[⟨3, .data⟩, ⟨15, .data⟩], none⟩) (v := ?_) hSC2 (fun w' hSw => ?_) ?_; rotate_left; focus (go_simp; try with_reducible rfl))
            simp only [Act.put, sT, sZ, sS]
            refine wpAnyH_done (by kernel_rfl) ?_ _
            go_wp2_with fail
            exact ⟨⟨j + 1, by have := HLT.out; omega, by go_num, HE.out, Below.then_ B05.out hSC2⟩, by have := HLT.out; simp [intOf]; omega⟩
          · have HE := hide (show rightB L = false by rw [HR.out, hok, HP.out, decide_eq_false hx9]; rfl)
            have c9 : 0 ≤ lex y.key x.key := by omega
            have d9 : decide (lex y.key x.key ≥ 0) = true := by simp; omega
            clear hok
            refine wp_region_held_drew (S := fun w' => Below w5.heap.size w5 w') (by kernel_rfl) ((Below.refl _ w5).drew) (fun hSD0 => ?_)
            obtain ⟨w5d, hwD⟩ : ∃ x, x = w5.drew := ⟨_, rfl⟩
            rw [← hwD] at hSD0 ⊢
            clear hwD
            (refine tk (i := 0) (oi := ⟨some 12, .load 100 (.tmp 4), 100, "table.go:28", #[], none⟩) (v := ?_) hSD0 (fun w' hSw => ?_) ?_; rotate_left; focus (have z := loadPr_run w' wr.heap.size 0 x (K5.out.under hSw).whole; go_simp; try with_reducible rfl))
            simp only [Act.put, sT, sZ, sS]
            refine wpAnyH_ready (rs := [1]) (by kernel_rfl) (by simp) ?_
            refine AllReadyH.cons rfl (fun K hK => ?_) AllReadyH.nil
            go_simp
            refine (one_any w5d x (XF5.out.below hSD0) XM.out).mono ?_
            rintro e w6 ⟨rfl, b6⟩
            rw [HOK.out]
            go_simp
            refine hK.out _ _ (Below.then_ hSD0 b6) (fun hSD1 => ?_)
            clear hK K
            (refine tk (i := 2) (oi := ⟨some 14, .unOp .not 4 (.tmp 13), 4, "table.go:28", #[⟨1, .data⟩], none⟩) (v := ?_) hSD1 (fun w' hSw => ?_) ?_; rotate_left; focus (go_simp; try with_reducible rfl))
            simp only [Act.put, sT, sZ, sS]
            (refine tk (i := 3) (oi := ⟨some 15, .move (.tmp 14), 4, "table.go:28", #[⟨2, .data⟩, ⟨1, .chain⟩], none⟩) (v := ?_) hSD1 (fun w' hSw => ?_) ?_; rotate_left; focus (go_simp; try with_reducible rfl))
            simp only [Act.put, sT, sZ, sS]
            (refine tk (i := 4) (oi := ⟨some 16, .move (.tmp 3), 3, "table.go:28", #[⟨3, .guard⟩], some (3, false)⟩) (v := ?_) hSD1 (fun w' hSw => ?_) ?_; rotate_left; focus (go_simp; try with_reducible rfl))
            simp only [Act.put, sT, sZ, sS]
            (refine tk (i := 5) (oi := ⟨some 17, .binOp .gtr 3 (.tmp 16) (.const (.int .i64 0)) 3, 4, "table.go:28", #[⟨4, .data⟩, ⟨3, .guard⟩], some (3, false)⟩) (v := ?_) hSD1 (fun w' hSw => ?_) ?_; rotate_left; focus (go_simp; try with_reducible rfl))
            simp only [Act.put, sT, sZ, sS]
            (refine tk (i := 6) (oi := ⟨some 18, .move (.tmp 17), 4, "table.go:28", #[⟨5, .data⟩, ⟨3, .chain⟩, ⟨3, .guard⟩], some (3, false)⟩) (v := ?_) hSD1 (fun w' hSw => ?_) ?_; rotate_left; focus (go_simp; try with_reducible rfl))
            simp only [Act.put, sT, sZ, sS]
            (refine tk (i := 7) (oi := ⟨some 19, .move (.tmp 0), 94, "table.go:28", #[⟨6, .guard⟩], some (6, true)⟩) (v := ?_) hSD1 (fun w' hSw => ?_) ?_; rotate_left; focus (go_simp; try with_reducible rfl))
            simp only [Act.put, sT, sZ, sS]
            (refine tk (i := 8) (oi := ⟨some 20, .move (.tmp 3), 3, "table.go:28", #[⟨6, .guard⟩], some (6, true)⟩) (v := ?_) hSD1 (fun w' hSw => ?_) ?_; rotate_left; focus (go_simp; try with_reducible rfl))
            simp only [Act.put, sT, sZ, sS]
            (refine tk (i := 9) (oi := ⟨some 21, .binOp .sub 3 (.tmp 20) (.const (.int .i64 1)) 3, 3, "table.go:28", #[⟨8, .data⟩, ⟨6, .guard⟩], some (6, true)⟩) (v := ?_) hSD1 (fun w' hSw => ?_) ?_; rotate_left; focus (go_simp; try with_reducible rfl))
            simp only [Act.put, sT, sZ, sS]
            (refine tk (i := 10) (oi := ⟨some 22, .indexAddr 94 (.tmp 19) (.tmp 21), 0, "table.go:28", #[⟨7, .data⟩, ⟨9, .data⟩, ⟨6, .guard⟩], some (6, true)⟩) (v := ?_) hSD1 (fun w' hSw => ?_) ?_; rotate_left; focus (go_simp; try with_reducible rfl))
            simp only [Act.put, sT, sZ, sS]
            (refine tk (i := 11) (oi := ⟨some 23, .load 100 (.tmp 22), 100, "table.go:28", #[⟨10, .data⟩, ⟨6, .guard⟩], some (6, true)⟩) (v := ?_) hSD1 (fun w' hSw => ?_) ?_; rotate_left; focus (have z := loadPr_run w' pb (off + k * 3) y (range_under YR.out hSw); go_simp; try with_reducible rfl))
            simp only [Act.put, sT, sZ, sS]
            (refine tk (i := 12) (oi := ⟨some 24, .load 100 (.tmp 4), 100, "table.go:28", #[⟨6, .guard⟩], some (6, true)⟩) (v := ?_) hSD1 (fun w' hSw => ?_) ?_; rotate_left; focus (have z := loadPr_run w' wr.heap.size 0 x (K5.out.under hSw).whole; go_simp; try with_reducible rfl))
            simp only [Act.put, sT, sZ, sS]
            refine wpAnyH_ready (rs := [13]) (by kernel_rfl) (by simp) ?_
            refine AllReadyH.cons rfl (fun K hK => ?_) AllReadyH.nil
            go_simp
            refine (byKey_any w6 y x (YF5.out.below hSD1) (XF5.out.below hSD1)).mono ?_
            rintro e w7 ⟨rfl, b7⟩
            go_simp
            refine hK.out _ _ (Below.then_ hSD1 b7) (fun hSD2 => ?_)
            clear hK K
            (refine tk (i := 14) (oi := ⟨some 26, .binOp .geq 3 (.tmp 25) (.const (.int .i64 0)) 3, 4, "table.go:28", #[⟨13, .data⟩, ⟨6, .guard⟩], some (6, true)⟩) (v := ?_) hSD2 (fun w' hSw => ?_) ?_; rotate_left; focus (go_simp; try with_reducible rfl))
            simp only [Act.put, sT, sZ, sS]
            (refine tk (i := 15) (oi := ⟨some 27, .pick (.tmp 18) (.tmp 26) (.const (.bool Bool.false)), 4, "table.go:28", #[⟨6, .data⟩, ⟨14, .data⟩, ⟨3, .guard⟩], some (3, false)⟩) (v := ?_) hSD2 (fun w' hSw => ?_) ?_; rotate_left; focus (go_simp; try with_reducible rfl))
            simp only [Act.put, sT, sZ, sS]
            (refine tk (i := 16) (oi := ⟨some 28, .pick (.tmp 15) (.const (.bool Bool.true)) (.tmp 27), 4, "table.go:28", #[⟨3, .data⟩, ⟨15, .data⟩], none⟩) (v := ?_) hSD2 (fun w' hSw => ?_) ?_; rotate_left; focus (go_simp; try with_reducible rfl))
            simp only [Act.put, sT, sZ, sS]
            refine wpAnyH_done (by kernel_rfl) ?_ _
            go_wp2_with fail
            go_ret
            exact ⟨by rw [HE.out]; rfl, Below.then_ B05.out hSD2⟩
    · have HJ := hide (show j = n by omega)
      have i1 : ¬ (j : Int) < (n : Int) := by omega
      have HR := hide hr
      clear hr hb hlt
      go_wp2_with fail
      go_ret
      refine ⟨?_, HB.out⟩
      have hl : L.length ≤ j := by rw [HL.out, List.length_map, XR.out.1, HJ.out]; exact Nat.le_refl _
      rw [HR.out, List.drop_of_length_le hl]
      rfl
end Go.Proofs.Ytjnpkcabkccaoaa
/-
  table: a batch as bytes.
-/
namespace Go.Proofs.Ytjnpkcabkccaoaa
open Go.RowKit

theorem psize_mem {l : List PairD} {p : PairD} (h : p ∈ l) : p.key.length + p.value.length ≤ psize l := by
  induction l with
  | nil => cases h
  | cons q l ih =>
    rw [psize_cons]
    rcases List.mem_cons.1 h with e | h
    · rw [e]; omega
    · have := ih h; omega
theorem pflat_take (l : List PairD) (j : Nat) : ((l.take j).flatMap PairD.bytes).length ≤ (l.flatMap PairD.bytes).length := by
  have e : l.flatMap PairD.bytes = (l.take j).flatMap PairD.bytes ++ (l.drop j).flatMap PairD.bytes := by rw [← List.flatMap_append, List.take_append_drop]
  rw [e, List.length_append]; omega
theorem pflat_step {l : List PairD} {j : Nat} {p : PairD} (h : l[j]? = some p) : (l.take (j + 1)).flatMap PairD.bytes = (l.take j).flatMap PairD.bytes ++ p.bytes := by
  rw [List.take_add_one, h]; simp
theorem Byss.mk1 {w : World} {g : Nat} {A : Option Addr} {n c : Nat} {x : List Int} (h : w.cell? ⟨g, 0, none⟩ = some (.slice A n c)) (hB : Bys w A n x) (hc : n ≤ c) : Byss w (some ⟨g, 0, none⟩) 1 [x] := by
  refine ⟨rfl, fun _ => ⟨g, 0, rfl, fun j xs hj => ?_⟩⟩
  rcases j with _ | j
  · simp at hj; subst hj; exact ⟨A, n, c, h, hB, hc⟩
  · simp at hj
/-- Bytes of one's own, and the error's number. -/
def PBytesPost (w : World) (r : List Int × Int) (e : Ending) (w' : World) : Prop :=
  ∃ (A : Option Addr) (m c : Nat), e = .returned (.tuple #[.slice A m c, .int .i64 r.2]) ∧ Mine 5 w w' A m c r.1 ∧ Fr w A
attribute [local go_sem ↓] loadPr_fold
set_option maxHeartbeats 4000000 in
set_option maxRecDepth 100000 in
theorem PBytes_any (w : World) (A : Option Addr) (n c : Nat) (xs : List PairV) (hX : PairsIn w A n xs) (hn : n ≤ 10000000) (hs : psize (xs.map PairV.d) ≤ 100000000) :
    Calls Try.prog 64 #[.slice A n c] w (PBytesPost w (tbytes (xs.map PairV.d))) := by
  have HX := hide hX
  have n9 : (n : Int) ≤ 10000000 := by omega
  obtain ⟨L, hL⟩ : ∃ L, L = xs.map PairV.d := ⟨_, rfl⟩
  have HL := hide hL
  rw [← hL] at hs ⊢
  have HLN := hide (show L.length = n by rw [hL, List.length_map, hX.1])
  have hm : ∀ p ∈ xs, p.kN ≤ 1000000000000 ∧ p.vN ≤ 1000000000000 := fun p hp => by
    have h1 := psize_mem (l := L) (p := p.d) (by rw [hL]; exact List.mem_map_of_mem hp)
    have h2 := (hX.2.1 p hp).key.1
    have h3 := (hX.2.1 p hp).value.1
    simp only [PairV.d] at h1
    omega
  have hbt := hide (batch_any w A n c xs hX (by omega) hm)
  rw [← hL] at hbt
  have HLEN := hide (fun j : Nat => (by
    have h1 := pflat_take L j
    have h2 := flat_len L
    have h3 := (cnt_length L.length).2
    have h4 := HLN.out
    rw [List.length_append]
    omega : (cnt L.length ++ (L.take j).flatMap PairD.bytes).length ≤ 300000010))
  clear hX hn hs hm hL
  cases hr : rightB L with
  | false =>
    have HE := hide (show tbytes L = ([], 151) by rw [tbytes, hr]; rfl)
    rw [hr] at hbt
    clear hr
    go_enter Try.func64, Try.ntmps64
    go_wp2_with fail
    refine hbt.out.mono ?_
    rintro e w1 ⟨rfl, b1⟩
    have B1 := hide b1
    clear b1
    go_wp2_with fail
    go_ret2
    rw [HE.out]
    exact ⟨none, 0, 0, rfl, Mine.nil B1.out none, Fr.none w⟩
  | true =>
    have HE := hide (show tbytes L = (bytesP L, 0) by rw [tbytes, hr]; rfl)
    have HOK := hide (right_ok hr)
    rw [hr] at hbt
    clear hr
    go_enter Try.func64, Try.ntmps64
    go_wp2_with fail
    refine hbt.out.mono ?_
    rintro e w1 ⟨rfl, b1⟩
    have B1 := hide b1
    have n8 : (0 : Int) ≤ (n : Int) := by omega
    have hw : IntKind.u64.wrap (n : Int) = (n : Int) := by rw [IntKind.wrap_u64]; omega
    clear b1 hbt
    go_wp2_with fail
    refine (Count_any w w1 none 0 0 [] (n : Int) B1.out (Bys.nil _ _) (Nat.le_refl _) n8 (by omega) (by omega)).mono ?_
    rintro e w2 hp
    obtain ⟨A2, n2, c2, rfl, t2, f2⟩ := hp.fresh
    have T2 := hide t2
    have F2 := hide f2
    have B2 := hide t2.below
    clear hp t2 f2
    go_wp2_with fail
    go_loopw [4, 16] (fun b i wr => ∃ (j : Nat) (A' : Option Addr) (n' c' : Nat), j ≤ n ∧ i = .int .i64 (j : Int) ∧ b = .slice A' n' c' ∧ Mine 5 w wr A' n' c' (cnt L.length ++ (L.take j).flatMap PairD.bytes) ∧ Fr w A') (fun _ i _ => n - (intOf i).toNat)
    case atStart => exact ⟨0, A2, n2, c2, by omega, rfl, rfl, by have := T2.out; rw [HLN.out]; simpa using this, F2.out⟩
    case round =>
      obtain ⟨j, A4, n4, c4, hj, rfl, rfl, ht, hf⟩ := hrel
      have HT := hide ht
      have HF := hide hf
      have XR := hide (HX.out.below' ht.below)
      have HN4 := hide (show n4 ≤ 300000010 by rw [← ht.len]; exact HLEN.out j)
      by_cases hlt : j < n
      · obtain ⟨pb, off, hpa, hrow⟩ := XR.out.2.2 (by omega)
        subst hpa
        obtain ⟨x, hx⟩ : ∃ x, xs[j]? = some x := ⟨_, List.getElem?_eq_getElem (by rw [XR.out.1]; exact hlt)⟩
        have XF := hide (XR.out.2.1 x (List.mem_of_getElem? hx))
        have hld := loadPr_run wr pb (off + j * 3) x (hrow j x hx)
        have HLT := hide hlt
        have HXL := hide (show L[j]? = some x.d by rw [HL.out]; exact pmap_get hx)
        have HXO := hide ((okB_iff _).1 (HOK.out x.d (List.mem_of_getElem? HXL.out)))
        have i0 : (0 : Int) ≤ (j : Int) := by omega
        have i1 : (j : Int) < (n : Int) := by omega
        have HST := hide (pflat_step HXL.out)
        clear ht hf hx hlt hrow hj
        go_wp2_with (first
          | (refine wpList_alloc_agg rfl 100 rfl zeroPr zeroPr_info ?_; simp only [Act.put, sT, sZ, sS])
          | (refine pr_store rfl _ _ rfl wr rfl (by rfl) x (by rfl) ?_; intro w5 b5 s5 k5; have B5 := hide b5; have K5 := hide k5; have S5 := hide s5; have y0 := k5.c0; have y1 := k5.c1; have y2 := k5.c2; clear b5 s5 k5 hld; simp only [Act.put]))
        obtain ⟨V, hV⟩ : ∃ z, z = w5.alloc (.cells #[.slice x.kA x.kN x.kC] 28) := ⟨_, rfl⟩
        have B5V := hide (show Below w5.heap.size w5 V by rw [hV]; exact below_alloc (Below.refl _ _) _)
        have BV := hide (Below.then_ B5.out B5V.out)
        have KV := hide (K5.out.under B5V.out)
        have XFV := hide (XF.out.below BV.out)
        have HTV := hide (HT.out.keep BV.out)
        have HYV := hide (show Byss V (some ⟨w5.heap.size, 0, none⟩) 1 [x.key] by rw [hV]; exact Byss.one w5 w5 28 x.kA x.kN x.kC x.key (XF.out.key.below B5.out) XF.out.kcap (Below.refl _ _))
        rw [← hV]
        clear hV y0 y1 y2
        refine (Text_any V V A4 n4 c4 _ _ 1 1 [x.key] (Below.refl _ _) HTV.out.bys HYV.out (by have := HN4.out; omega) (by decide) (by intro z hz; have h1 := HXO.out.2.1; rw [List.mem_singleton.1 hz]; simp only [PairV.d] at h1; omega)).mono ?_
        rintro e w6 hp
        obtain ⟨A6, n6, c6, rfl, t6, f6⟩ := hp.fresh
        have T6 := hide t6
        have F6 := hide f6
        have B6 := hide t6.below
        have K6 := hide (KV.out.under t6.below)
        have HN6 := hide (show n6 ≤ 300000500 by
          have h1 := t6.len
          have h2 := HXO.out.2.1
          have h3 := HLEN.out j
          have h4 := (cnt_length x.key.length).2
          simp only [PairV.d] at h2
          simp only [List.length_append, List.flatMap_cons, List.flatMap_nil, List.append_nil, txt] at h1 h3
          omega)
        clear hp t6 f6
        have y2 := K6.out.c2
        cases hg : x.gone with
        | true =>
          rw [hg] at y2
          have HG := hide hg
          clear hg
          go_wp2_with (at_builtin; refine wpList_app rfl _ _ rfl w A6 n6 c6 (cnt L.length ++ (L.take j).flatMap PairD.bytes ++ [x.key].flatMap txt) (by rfl) ((T6.out.older (Below.then_ HT.out.below BV.out)).alloc _) (some ⟨w6.heap.size, 0, none⟩) 1 1 [0] (by rfl) (Bys.one w6 5 0 (by decide) (by decide)) (by have := HN6.out; omega) ?_; intro A7 n7 c7 w7 t7 f7; have T7 := hide t7; have F7 := hide (f7 (.inr (by decide))); clear t7 f7; simp only [Act.put, sT, sZ, sS])
          refine ⟨⟨j + 1, A7, n7, c7, by have := HLT.out; omega, by go_num, rfl, ?_, F7.out⟩, by have := HLT.out; simp [intOf]; omega⟩
          have h9 := T7.out
          rw [HST.out]
          have e : (cnt L.length ++ ((L.take j).flatMap PairD.bytes ++ x.d.bytes)) = cnt L.length ++ (L.take j).flatMap PairD.bytes ++ [x.key].flatMap txt ++ [0] := by simp [PairD.bytes, PairV.d, HG.out]
          rw [e]
          exact h9
        | false =>
          rw [hg] at y2
          have HG := hide hg
          clear hg
          go_wp2_with fail
          clear y2
          refine wp_region_held_drew (S := fun w' => Below V.heap.size V w') (by kernel_rfl) (B6.out.drew) (fun hSA0 => ?_)
          obtain ⟨w6d, hwA⟩ : ∃ x, x = w6.drew := ⟨_, rfl⟩
          rw [← hwA] at hSA0 ⊢
          have BW := hide (show Below w6.heap.size w6 w6d by rw [hwA]; exact (Below.refl _ _).drew)
          clear hwA
          (refine tk (i := 0) (oi := ⟨some 30, .move (.tmp 4), 28, "table.go:46", #[], none⟩) (v := ?_) hSA0 (fun w' hSw => ?_) ?_; rotate_left; focus (go_simp; try with_reducible rfl))
          simp only [Act.put, sT, sZ, sS]
          (refine tk (i := 3) (oi := ⟨some 33, .fieldAddr 100 (.tmp 6) 1, 0, "table.go:46", #[], none⟩) (v := ?_) hSA0 (fun w' hSw => ?_) ?_; rotate_left; focus (go_simp; try with_reducible rfl))
          simp only [Act.put, sT, sZ, sS]
          (refine tk (i := 4) (oi := ⟨some 34, .load 28 (.tmp 33), 28, "table.go:46", #[⟨3, .data⟩], none⟩) (v := ?_) hSA0 (fun w' hSw => ?_) ?_; rotate_left; focus (have z := (KV.out.under hSw).c1; go_simp; try with_reducible rfl))
          simp only [Act.put, sT, sZ, sS]
          refine wpAnyH_ready (rs := [1, 5]) (by kernel_rfl) (by simp) ?_
          refine AllReadyH.cons rfl (fun K hK => ?_) (AllReadyH.cons rfl (fun K hK => ?_) AllReadyH.nil)
          · go_simp
            obtain ⟨ga, hga⟩ : ∃ z, z = w6d.heap.size := ⟨_, rfl⟩
            obtain ⟨wA, hwA⟩ : ∃ z, z = w6d.alloc (.cells #[.int .u8 1] 5) := ⟨_, rfl⟩
            have YA := hide (show Bys wA (some ⟨ga, 0, none⟩) 1 [1] by rw [hwA, hga]; exact Bys.one w6d _ 1 (by decide) (by decide))
            have BA := hide (show Below w6d.heap.size w6d wA by rw [hwA]; exact below_alloc (Below.refl _ _) _)
            rw [← hwA, ← hga]
            clear hwA hga
            have BW := hide (Below.then_ BW.out BA.out)
            try have YB := hide (cell_under BA.out YB.out)
            refine hK.out _ _ (Below.then_ hSA0 BA.out) (fun hSA1 => ?_)
            clear hK K
            refine wpAnyH_ready (rs := [2, 5]) (by kernel_rfl) (by simp) ?_
            refine AllReadyH.cons rfl (fun K hK => ?_) (AllReadyH.cons rfl (fun K hK => ?_) AllReadyH.nil)
            · refine step_app3 rfl 32 rfl _ _ rfl V w6 A6 n6 c6 (cnt L.length ++ (L.take j).flatMap PairD.bytes ++ [x.key].flatMap txt) (by rfl) T6.out BW.out (some ⟨ga, 0, none⟩) 1 1 [1] (by rfl) YA.out (by have := HN6.out; omega) ?_
              intro A9 n9 c9 w9 m9 o9 f9
              have M9 := hide m9
              try have YB := hide ((World.cell?_of_block (w := wA) (o9.block gb (World.block_lt_of_cell? wA _ YB.out) (fun e => by have h1 := e.2; have h2 := GB.out; omega))).trans YB.out)
              clear m9 o9 f9 BW YA
              simp only [Act.put, sT, sZ, sS]
              refine hK.out _ _ (M9.out.below) (fun hSA2 => ?_)
              clear hK K
              refine wpAnyH_ready (rs := [5]) (by kernel_rfl) (by simp) ?_
              refine AllReadyH.cons rfl (fun K hK => ?_) AllReadyH.nil
              go_simp
              obtain ⟨gb, hgb⟩ : ∃ z, z = w9.heap.size := ⟨_, rfl⟩
              obtain ⟨wB, hwB⟩ : ∃ z, z = w9.alloc (.cells #[.slice x.vA x.vN x.vC] 28) := ⟨_, rfl⟩
              have YB := hide (show wB.cell? ⟨gb, 0, none⟩ = some (.slice x.vA x.vN x.vC) by rw [hwB, hgb]; exact (Blk.new w9 _ [.slice x.vA x.vN x.vC]).c0)
              have GB := hide (show w9.heap.size ≤ gb by rw [hgb]; exact Nat.le_refl _)
              have BB := hide (show Below w9.heap.size w9 wB by rw [hwB]; exact below_alloc (Below.refl _ _) _)
              rw [← hwB, ← hgb]
              clear hwB hgb
              try have GB := hide (Nat.le_trans BW.out.size GB.out)
              try have BW := hide (Below.then_ BW.out BB.out)
              try have YA := hide (YA.out.below BB.out)
              try have M9 := hide (M9.out.keep BB.out)
              refine hK.out _ _ (Below.then_ hSA2 BB.out) (fun hSA3 => ?_)
              clear hK K
              refine wpAnyH_ready (rs := [6]) (by kernel_rfl) (by simp) ?_
              refine AllReadyH.cons rfl (fun K hK => ?_) AllReadyH.nil
              go_simp
              refine (Text_any V wB A9 n9 c9 _ _ 1 1 [x.value] hSA3 M9.out.bys (Byss.mk1 YB.out (XFV.out.value.below hSA3) XFV.out.vcap) (by have h1 := M9.out.len; have h2 := T6.out.len; have h3 := HN6.out; simp only [List.length_append, List.length_singleton] at h1 h2; omega) (by decide) (by intro z hz; have h1 := HXO.out.2.2.1; rw [List.mem_singleton.1 hz]; simp only [PairV.d] at h1; omega)).mono ?_
              rintro e w10 hp
              obtain ⟨A10, n10, c10, rfl, t10, f10⟩ := hp.fresh
              have T10 := hide t10
              have F10 := hide f10
              clear hp t10 f10
              go_simp
              refine hK.out _ _ (T10.out.below) (fun hSA4 => ?_)
              clear hK K
              (refine tk (i := 7) (oi := ⟨some 4, .assign (.tmp 36), 28, "table.go:46", #[⟨6, .data⟩, ⟨6, .chain⟩, ⟨0, .phase⟩, ⟨1, .phase⟩, ⟨2, .phase⟩, ⟨3, .phase⟩, ⟨4, .phase⟩, ⟨5, .phase⟩, ⟨6, .phase⟩], none⟩) (v := ?_) hSA4 (fun w' hSw => ?_) ?_; rotate_left; focus (go_simp; try with_reducible rfl))
              simp only [Act.put, sT, sZ, sS]
              refine wpAnyH_done (by kernel_rfl) ?_ _
              go_wp2_with fail
              have BV0 := Below.then_ HT.out.below BV.out
              refine ⟨⟨j + 1, A10, n10, c10, by have := HLT.out; omega, by go_num, rfl, ?_, F10.out.older BV0⟩, by have := HLT.out; simp [intOf]; omega⟩
              have h9 := T10.out.older BV0
              rw [HST.out]
              have e : (cnt L.length ++ ((L.take j).flatMap PairD.bytes ++ x.d.bytes)) = cnt L.length ++ (L.take j).flatMap PairD.bytes ++ [x.key].flatMap txt ++ [1] ++ [x.value].flatMap txt := by simp [PairD.bytes, PairV.d, HG.out]
              rw [e]
              exact h9
            · go_simp
              obtain ⟨gb, hgb⟩ : ∃ z, z = wA.heap.size := ⟨_, rfl⟩
              obtain ⟨wB, hwB⟩ : ∃ z, z = wA.alloc (.cells #[.slice x.vA x.vN x.vC] 28) := ⟨_, rfl⟩
              have YB := hide (show wB.cell? ⟨gb, 0, none⟩ = some (.slice x.vA x.vN x.vC) by rw [hwB, hgb]; exact (Blk.new wA _ [.slice x.vA x.vN x.vC]).c0)
              have GB := hide (show wA.heap.size ≤ gb by rw [hgb]; exact Nat.le_refl _)
              have BB := hide (show Below wA.heap.size wA wB by rw [hwB]; exact below_alloc (Below.refl _ _) _)
              rw [← hwB, ← hgb]
              clear hwB hgb
              try have GB := hide (Nat.le_trans BW.out.size GB.out)
              try have BW := hide (Below.then_ BW.out BB.out)
              try have YA := hide (YA.out.below BB.out)
              try have M9 := hide (M9.out.keep BB.out)
              refine hK.out _ _ (Below.then_ hSA1 BB.out) (fun hSA2 => ?_)
              clear hK K
              refine wpAnyH_ready (rs := [2]) (by kernel_rfl) (by simp) ?_
              refine AllReadyH.cons rfl (fun K hK => ?_) AllReadyH.nil
              refine step_app3 rfl 32 rfl _ _ rfl V w6 A6 n6 c6 (cnt L.length ++ (L.take j).flatMap PairD.bytes ++ [x.key].flatMap txt) (by rfl) T6.out BW.out (some ⟨ga, 0, none⟩) 1 1 [1] (by rfl) YA.out (by have := HN6.out; omega) ?_
              intro A9 n9 c9 w9 m9 o9 f9
              have M9 := hide m9
              try have YB := hide ((World.cell?_of_block (w := wB) (o9.block gb (World.block_lt_of_cell? wB _ YB.out) (fun e => by have h1 := e.2; have h2 := GB.out; omega))).trans YB.out)
              clear m9 o9 f9 BW YA
              simp only [Act.put, sT, sZ, sS]
              refine hK.out _ _ (M9.out.below) (fun hSA3 => ?_)
              clear hK K
              refine wpAnyH_ready (rs := [6]) (by kernel_rfl) (by simp) ?_
              refine AllReadyH.cons rfl (fun K hK => ?_) AllReadyH.nil
              go_simp
              refine (Text_any V w9 A9 n9 c9 _ _ 1 1 [x.value] hSA3 M9.out.bys (Byss.mk1 YB.out (XFV.out.value.below hSA3) XFV.out.vcap) (by have h1 := M9.out.len; have h2 := T6.out.len; have h3 := HN6.out; simp only [List.length_append, List.length_singleton] at h1 h2; omega) (by decide) (by intro z hz; have h1 := HXO.out.2.2.1; rw [List.mem_singleton.1 hz]; simp only [PairV.d] at h1; omega)).mono ?_
              rintro e w10 hp
              obtain ⟨A10, n10, c10, rfl, t10, f10⟩ := hp.fresh
              have T10 := hide t10
              have F10 := hide f10
              clear hp t10 f10
              go_simp
              refine hK.out _ _ (T10.out.below) (fun hSA4 => ?_)
              clear hK K
              (refine tk (i := 7) (oi := ⟨some 4, .assign (.tmp 36), 28, "table.go:46", #[⟨6, .data⟩, ⟨6, .chain⟩, ⟨0, .phase⟩, ⟨1, .phase⟩, ⟨2, .phase⟩, ⟨3, .phase⟩, ⟨4, .phase⟩, ⟨5, .phase⟩, ⟨6, .phase⟩], none⟩) (v := ?_) hSA4 (fun w' hSw => ?_) ?_; rotate_left; focus (go_simp; try with_reducible rfl))
              simp only [Act.put, sT, sZ, sS]
              refine wpAnyH_done (by kernel_rfl) ?_ _
              go_wp2_with fail
              have BV0 := Below.then_ HT.out.below BV.out
              refine ⟨⟨j + 1, A10, n10, c10, by have := HLT.out; omega, by go_num, rfl, ?_, F10.out.older BV0⟩, by have := HLT.out; simp [intOf]; omega⟩
              have h9 := T10.out.older BV0
              rw [HST.out]
              have e : (cnt L.length ++ ((L.take j).flatMap PairD.bytes ++ x.d.bytes)) = cnt L.length ++ (L.take j).flatMap PairD.bytes ++ [x.key].flatMap txt ++ [1] ++ [x.value].flatMap txt := by simp [PairD.bytes, PairV.d, HG.out]
              rw [e]
              exact h9
          · go_simp
            obtain ⟨gb, hgb⟩ : ∃ z, z = w6d.heap.size := ⟨_, rfl⟩
            obtain ⟨wB, hwB⟩ : ∃ z, z = w6d.alloc (.cells #[.slice x.vA x.vN x.vC] 28) := ⟨_, rfl⟩
            have YB := hide (show wB.cell? ⟨gb, 0, none⟩ = some (.slice x.vA x.vN x.vC) by rw [hwB, hgb]; exact (Blk.new w6d _ [.slice x.vA x.vN x.vC]).c0)
            have GB := hide (show w6d.heap.size ≤ gb by rw [hgb]; exact Nat.le_refl _)
            have BB := hide (show Below w6d.heap.size w6d wB by rw [hwB]; exact below_alloc (Below.refl _ _) _)
            rw [← hwB, ← hgb]
            clear hwB hgb
            try have GB := hide (Nat.le_trans BW.out.size GB.out)
            try have BW := hide (Below.then_ BW.out BB.out)
            try have YA := hide (YA.out.below BB.out)
            try have M9 := hide (M9.out.keep BB.out)
            refine hK.out _ _ (Below.then_ hSA0 BB.out) (fun hSA1 => ?_)
            clear hK K
            refine wpAnyH_ready (rs := [1]) (by kernel_rfl) (by simp) ?_
            refine AllReadyH.cons rfl (fun K hK => ?_) AllReadyH.nil
            go_simp
            obtain ⟨ga, hga⟩ : ∃ z, z = wB.heap.size := ⟨_, rfl⟩
            obtain ⟨wA, hwA⟩ : ∃ z, z = wB.alloc (.cells #[.int .u8 1] 5) := ⟨_, rfl⟩
            have YA := hide (show Bys wA (some ⟨ga, 0, none⟩) 1 [1] by rw [hwA, hga]; exact Bys.one wB _ 1 (by decide) (by decide))
            have BA := hide (show Below wB.heap.size wB wA by rw [hwA]; exact below_alloc (Below.refl _ _) _)
            rw [← hwA, ← hga]
            clear hwA hga
            have BW := hide (Below.then_ BW.out BA.out)
            try have YB := hide (cell_under BA.out YB.out)
            refine hK.out _ _ (Below.then_ hSA1 BA.out) (fun hSA2 => ?_)
            clear hK K
            refine wpAnyH_ready (rs := [2]) (by kernel_rfl) (by simp) ?_
            refine AllReadyH.cons rfl (fun K hK => ?_) AllReadyH.nil
            refine step_app3 rfl 32 rfl _ _ rfl V w6 A6 n6 c6 (cnt L.length ++ (L.take j).flatMap PairD.bytes ++ [x.key].flatMap txt) (by rfl) T6.out BW.out (some ⟨ga, 0, none⟩) 1 1 [1] (by rfl) YA.out (by have := HN6.out; omega) ?_
            intro A9 n9 c9 w9 m9 o9 f9
            have M9 := hide m9
            try have YB := hide ((World.cell?_of_block (w := wA) (o9.block gb (World.block_lt_of_cell? wA _ YB.out) (fun e => by have h1 := e.2; have h2 := GB.out; omega))).trans YB.out)
            clear m9 o9 f9 BW YA
            simp only [Act.put, sT, sZ, sS]
            refine hK.out _ _ (M9.out.below) (fun hSA3 => ?_)
            clear hK K
            refine wpAnyH_ready (rs := [6]) (by kernel_rfl) (by simp) ?_
            refine AllReadyH.cons rfl (fun K hK => ?_) AllReadyH.nil
            go_simp
            refine (Text_any V w9 A9 n9 c9 _ _ 1 1 [x.value] hSA3 M9.out.bys (Byss.mk1 YB.out (XFV.out.value.below hSA3) XFV.out.vcap) (by have h1 := M9.out.len; have h2 := T6.out.len; have h3 := HN6.out; simp only [List.length_append, List.length_singleton] at h1 h2; omega) (by decide) (by intro z hz; have h1 := HXO.out.2.2.1; rw [List.mem_singleton.1 hz]; simp only [PairV.d] at h1; omega)).mono ?_
            rintro e w10 hp
            obtain ⟨A10, n10, c10, rfl, t10, f10⟩ := hp.fresh
            have T10 := hide t10
            have F10 := hide f10
            clear hp t10 f10
            go_simp
            refine hK.out _ _ (T10.out.below) (fun hSA4 => ?_)
            clear hK K
            (refine tk (i := 7) (oi := ⟨some 4, .assign (.tmp 36), 28, "table.go:46", #[⟨6, .data⟩, ⟨6, .chain⟩, ⟨0, .phase⟩, ⟨1, .phase⟩, ⟨2, .phase⟩, ⟨3, .phase⟩, ⟨4, .phase⟩, ⟨5, .phase⟩, ⟨6, .phase⟩], none⟩) (v := ?_) hSA4 (fun w' hSw => ?_) ?_; rotate_left; focus (go_simp; try with_reducible rfl))
            simp only [Act.put, sT, sZ, sS]
            refine wpAnyH_done (by kernel_rfl) ?_ _
            go_wp2_with fail
            have BV0 := Below.then_ HT.out.below BV.out
            refine ⟨⟨j + 1, A10, n10, c10, by have := HLT.out; omega, by go_num, rfl, ?_, F10.out.older BV0⟩, by have := HLT.out; simp [intOf]; omega⟩
            have h9 := T10.out.older BV0
            rw [HST.out]
            have e : (cnt L.length ++ ((L.take j).flatMap PairD.bytes ++ x.d.bytes)) = cnt L.length ++ (L.take j).flatMap PairD.bytes ++ [x.key].flatMap txt ++ [1] ++ [x.value].flatMap txt := by simp [PairD.bytes, PairV.d, HG.out]
            rw [e]
            exact h9
      · have HJ := hide (show j = n by omega)
        have i1 : ¬ (j : Int) < (n : Int) := by omega
        clear ht hf hlt
        go_wp2_with fail
        go_ret2
        rw [HE.out]
        refine ⟨A4, n4, c4, rfl, ?_, HF.out⟩
        have h9 := HT.out
        rw [HJ.out, List.take_of_length_le (by rw [HLN.out]; exact Nat.le_refl _)] at h9
        exact h9
end Go.Proofs.Ytjnpkcabkccaoaa
/-
  table: rows of pairs, of one's own; rows that stay.
-/
namespace Go.Proofs.Ytjnpkcabkccaoaa
open Go.RowKit

/-- It reads so, whatever turns in those blocks of memory. -/
def KeepP (w : World) (p : PairV) (F : Nat → Prop) : Prop := ∀ w', Only F w w' → p.Fine w'
theorem KeepP.fine {w : World} {p : PairV} {F : Nat → Prop} (h : KeepP w p F) : p.Fine w := h w (Only.refl _ _)
theorem KeepP.step {w w' : World} {p : PairV} {F F' : Nat → Prop} (h : KeepP w p F) (ho : Only F w w') (hF : ∀ i, i < w.heap.size → F' i → F i) : KeepP w' p F' := fun w'' h2 => h w'' (ho.trans h2 hF)
theorem KeepP.under {w w' : World} {p : PairV} {F : Nat → Prop} (h : KeepP w p F) (hb : Below w.heap.size w w') : KeepP w' p F := h.step (Only.of_below hb F) fun _ _ h => h
theorem KeepP.mono {w : World} {p : PairV} {F G : Nat → Prop} (h : KeepP w p F) (hG : ∀ i, i < w.heap.size → G i → F i) : KeepP w p G := h.step (Only.refl _ _) hG
theorem KeepP.mk {w : World} {p : PairV} {F : Nat → Prop} (h : p.Fine w) (hk : Apart p.kA p.kN F) (hv : Apart p.vA p.vN F) : KeepP w p F := fun _ ho => ⟨h.key.keep ho hk, h.kcap, h.value.keep ho hv, h.vcap⟩
/-- Its bytes are new since a world. -/
theorem KeepP.new {w0 w : World} {p : PairV} {F : Nat → Prop} (h : p.Fine w) (hk : Fr w0 p.kA) (hv : Fr w0 p.vA) (hF : ∀ i, F i → i < w0.heap.size) : KeepP w p F :=
  KeepP.mk h (fun _ ad e hf => by have h1 := hk ad e; have h2 := hF _ hf; omega) (fun _ ad e hf => by have h1 := hv ad e; have h2 := hF _ hf; omega)
/-- A row of pairs that stays, whatever turns in those blocks of memory. -/
def PKeep (w : World) (F : Nat → Prop) (A : Option Addr) (n : Nat) (xs : List PairV) : Prop := ∀ w', Only F w w' → PairsIn w' A n xs
namespace PKeep
variable {w w' : World} {F G : Nat → Prop} {A : Option Addr} {n : Nat} {xs : List PairV}
theorem in_ (h : PKeep w F A n xs) : PairsIn w A n xs := h w (Only.refl _ _)
theorem step (h : PKeep w F A n xs) (ho : Only F w w') (hF : ∀ i, i < w.heap.size → G i → F i) : PKeep w' G A n xs := fun w'' h2 => h w'' (ho.trans h2 hF)
theorem under (h : PKeep w F A n xs) (hb : Below w.heap.size w w') : PKeep w' F A n xs := h.step (Only.of_below hb F) fun _ _ h => h
theorem mono (h : PKeep w F A n xs) (hG : ∀ i, i < w.heap.size → G i → F i) : PKeep w G A n xs := h.step (Only.refl _ _) hG
theorem nil (w : World) (F : Nat → Prop) (A : Option Addr) : PKeep w F A 0 [] := fun _ _ => RowsIn.nil _ _ _ _ _
end PKeep
/-- A row of pairs of one's own: it, and they, are of no memory ahead of base. -/
structure PRow (base : Nat) (w : World) (A : Option Addr) (n c : Nat) (xs : List PairV) : Prop where
  len : xs.length = n
  cap : n ≤ c
  low : base ≤ w.heap.size
  row : w.ownsRow base 100 3 (.slice A n c) n (xs.flatMap PairV.cells)
  keep : ∀ x ∈ xs, KeepP w x (fun i => i < base ∨ (Value.slice A n c).ownBlock = some i)
namespace PRow
variable {base : Nat} {w w' : World} {A : Option Addr} {n c : Nat} {xs : List PairV}
theorem nil (h : base ≤ w.heap.size) : PRow base w none 0 0 [] := ⟨rfl, Nat.le_refl _, h, World.ownsRow_nil _ _ _ _, by simp⟩
theorem step (h : PRow base w A n c xs) {F : Nat → Prop} (ho : Only F w w') (hF : ∀ i, i < w.heap.size → F i → i < base) : PRow base w' A n c xs :=
  ⟨h.len, h.cap, Nat.le_trans h.low ho.size, ho.own h.row (fun g hg hf => by have := hF g (h.row.lt g hg).2 hf; have := (h.row.lt g hg).1; omega), fun x hx => (h.keep x hx).step (ho.mono fun i hi hf => .inl (hF i hi hf)) fun _ _ h => h⟩
theorem under (h : PRow base w A n c xs) (hb : Below w.heap.size w w') : PRow base w' A n c xs := h.step (Only.of_below hb fun _ => False) fun _ _ h => h.elim
theorem fine (h : PRow base w A n c xs) : ∀ x ∈ xs, x.Fine w := fun x hx => (h.keep x hx).fine
theorem in_ (h : PRow base w A n c xs) : PairsIn w A n xs := rowsOf h.len (fun _ _ => rfl) h.row h.fine
theorem stay (h : PRow base w A n c xs) : PKeep w (fun i => i < base) A n xs := fun _ ho => (h.step ho fun _ _ h => h).in_
/-- One more. -/
theorem app (h : PRow base w A n c xs) {V : PairV} (hV : KeepP w V (fun i => i < base ∨ (Value.slice A n c).ownBlock = some i)) {A' : Option Addr} {c' : Nat}
    (q1 : w'.ownsRow base 100 3 (.slice A' (n + 1) c') (n + 1) (xs.flatMap PairV.cells ++ V.cells)) (q2 : n + 1 ≤ c')
    (q3 : ∀ g, (Value.slice A' (n + 1) c').ownBlock = some g → (Value.slice A n c).ownBlock = some g ∨ w.heap.size ≤ g) (q4 : Only (fun i => (Value.slice A n c).ownBlock = some i) w w') : PRow base w' A' (n + 1) c' (xs ++ [V]) := by
  have hk : ∀ x, KeepP w x (fun i => i < base ∨ (Value.slice A n c).ownBlock = some i) → KeepP w' x (fun i => i < base ∨ (Value.slice A' (n + 1) c').ownBlock = some i) := fun x hx =>
    hx.step (q4.mono fun _ _ h => .inr h) fun i hi hf => by
      rcases hf with hf | hf
      · exact .inl hf
      · rcases q3 i hf with h1 | h1
        · exact .inr h1
        · omega
  refine ⟨by rw [List.length_append, h.len]; rfl, q2, Nat.le_trans h.low q4.size, by rw [List.flatMap_append]; simpa using q1, fun x hx => ?_⟩
  rcases List.mem_append.1 hx with hx | hx
  · exact hk x (h.keep x hx)
  · rw [List.mem_singleton.1 hx]; exact hk V hV
theorem lt (h : PRow base w A n c xs) : ∀ g, (Value.slice A n c).ownBlock = some g → base ≤ g ∧ g < w.heap.size := h.row.lt
end PRow
/-- A pair that has a key alone. -/
theorem mkPr_key (w : World) (A : Option Addr) (n c : Nat) : (mkPr #[(0, .slice A n c)]).run Try.prog w = .ok (.agg #[.slice A n c, .slice none 0 0, .bool false]) w := by
  have hz := zeroPr_info
  cases hq : Try.prog.info? 100 with
  | none => rw [hq] at hz; cases hz
  | some i =>
    rw [hq] at hz
    have hz' : i.zero = some (.agg zeroPr.toArray) := by simpa using hz
    have hs : ∀ t, t = 28 ∨ t = 4 → (Try.prog.info? t).map (·.size) = some 1 := by
      rintro t (rfl | rfl) <;> kernel_rfl
    have h28 := fun w => run_size (P := Try.prog) (hs 28 (.inl rfl)) w
    have h4 := fun w => run_size (P := Try.prog) (hs 4 (.inr rfl)) w
    unfold mkPr Instr.build
    simp only [Sem.run_bind, run_zero hq hz', Result.andThen_ok, run_underlying Try.underlying100]
    simp [h28, h4, Instr.fill, Value.cells, zeroPr]
end Go.Proofs.Ytjnpkcabkccaoaa
/-
  table: the batch of bytes.
-/
namespace Go.Proofs.Ytjnpkcabkccaoaa
open Go.RowKit

theorem ptext_most (r : Rd) (M : Int) (h0 : 0 ≤ M) : ((r.text M).1.length : Int) ≤ M := by
  unfold Rd.text
  have hp := peek_most r.rest (max M 0).toNat
  split
  · simpa using h0
  · split
    · simpa using h0
    · split
      · simpa using h0
      · simp only [List.length_take]
        omega
theorem pair_parts (r : Rd) (key : List Int) (r1 : Rd) (F : Nat) (r2 : Rd) (h1 : r.text 200 = (key, r1)) (h2 : r1.fixed 1 = (F, r2)) :
    (1 < F → r.pair = none) ∧ (F = 0 → r.pair = some (⟨key, [], true⟩, r2)) ∧ (F = 1 → ∀ v r3, r2.text 20000 = (v, r3) → r.pair = some (⟨key, v, false⟩, r3)) := by
  refine ⟨fun h => ?_, fun h => ?_, fun h v r3 h3 => ?_⟩
  · simp [Rd.pair, h1, h2, h]
  · subst h; simp [Rd.pair, h1, h2]
  · subst h; simp [Rd.pair, h1, h2, h3]
/-- What is left to read. -/
def PEq (N : Nat) (r0 : Rd) (M : Nat) (r : Rd) (ys : List PairD) : Prop := Rd.pairs N r0 = (Rd.pairs M r).map fun q => (ys ++ q.1, q.2)
theorem PEq.over {N : Nat} {r0 : Rd} {M : Nat} {r : Rd} {ys : List PairD} (h : PEq N r0 M r ys) (hz : M = 0 ∨ r.err ≠ 0) : Rd.pairs N r0 = some (ys, r) := by
  have e : Rd.pairs M r = some ([], r) := by
    cases M with
    | zero => rfl
    | succ M =>
      rcases hz with hz | hz
      · cases hz
      · rw [Rd.pairs, if_pos hz]
  rw [h, e]; simp
theorem PEq.none {N : Nat} {r0 : Rd} {M : Nat} {r : Rd} {ys : List PairD} (h : PEq N r0 (M + 1) r ys) (he : r.err = 0) (hp : r.pair = Option.none) : Rd.pairs N r0 = Option.none := by
  rw [h, Rd.pairs, if_neg (by simpa using he), hp]; rfl
theorem PEq.some {N : Nat} {r0 : Rd} {M : Nat} {r : Rd} {ys : List PairD} (h : PEq N r0 (M + 1) r ys) (he : r.err = 0) {p : PairD} {r' : Rd} (hp : r.pair = some (p, r')) : PEq N r0 M r' (ys ++ [p]) := by
  unfold PEq at h ⊢
  rw [h, Rd.pairs, if_neg (by simpa using he), hp]
  simp only
  cases Rd.pairs M r' <;> simp
def PParsePost (w : World) (o : Option (List PairD)) (e : Ending) (w' : World) : Prop :=
  Below w.heap.size w w' ∧ ((o = none ∧ e = .returned (.tuple #[.slice none 0 0, .int .i64 151])) ∨
    ∃ (A : Option Addr) (m c : Nat) (xs : List PairV), o = some (xs.map PairV.d) ∧ e = .returned (.tuple #[.slice A m c, .int .i64 0]) ∧ m ≤ c ∧ PKeep w' (fun i => i < w.heap.size) A m xs ∧ m ≤ 1048576)
/-- The pairs read so far. -/
structure PAt (T : TypeId) (w2 ws : World) (g h : Nat) (N : Nat) (r0 : Rd) (M : Nat) (r : Rd) (j : Nat) (A : Option Addr) (c : Nat) (ys : List PairV) : Prop where
  sum : j + M = N
  row : PRow w2.heap.size ws A j c ys
  rd : RdAt T ws g h r
  eq : PEq N r0 M r (ys.map PairV.d)
  small : ∀ p ∈ ys, p.kN ≤ 200 ∧ p.vN ≤ 20000
  only : Only (fun i => i = g) w2 ws
theorem PAt.next {T : TypeId} {w2 ws W7 w9 : World} {g h N : Nat} {r0 : Rd} {M j : Nat} {r r' : Rd} {A A9 : Option Addr} {c c9 : Nat} {ys : List PairV} {V : PairV}
    (hI : PAt T w2 ws g h N r0 (M + 1) r j A c ys) (he : r.err = 0) (hp : r.pair = some (V.d, r')) (hV : V.Fine W7) (hk : Fr ws V.kA) (hv : Fr ws V.vA) (hs : V.kN ≤ 200 ∧ V.vN ≤ 20000)
    (hO : Only (fun i => i = g) ws W7) (hRd : RdAt T W7 g h r') (hg : g < w2.heap.size) (hh : h < w2.heap.size)
    (q1 : w9.ownsRow w2.heap.size 100 3 (.slice A9 (j + 1) c9) (j + 1) (ys.flatMap PairV.cells ++ V.cells)) (q2 : j + 1 ≤ c9)
    (q3 : ∀ q, (Value.slice A9 (j + 1) c9).ownBlock = some q → (Value.slice A j c).ownBlock = some q ∨ W7.heap.size ≤ q) (q4 : Only (fun i => (Value.slice A j c).ownBlock = some i) W7 w9) :
    PAt T w2 w9 g h N r0 M r' (j + 1) A9 c9 (ys ++ [V]) := by
  have hs2 := hI.row.low
  have hlt := hI.row.lt
  have hR7 := hI.row.step hO (fun i _ e => by have h9 : i = g := e; omega)
  have hKV : KeepP W7 V (fun i => i < w2.heap.size ∨ (Value.slice A j c).ownBlock = some i) := KeepP.new hV hk hv fun i hi => by
    rcases hi with hi | hi
    · omega
    · exact (hlt i hi).2
  have hno : ∀ i, i < w2.heap.size → ¬ (Value.slice A j c).ownBlock = some i := fun i hi e => by have := (hlt i e).1; omega
  refine ⟨by have := hI.sum; omega, hR7.app hKV q1 q2 q3 q4, hRd.keep q4 (hno g hg) (hno h hh), by rw [List.map_append]; exact hI.eq.some he hp, fun p hp => ?_, ?_⟩
  · rcases List.mem_append.1 hp with hp | hp
    · exact hI.small p hp
    · rw [List.mem_singleton.1 hp]; exact hs
  · exact (hI.only.trans hO (fun _ _ h => h)).trans q4 (fun i hi e => absurd e (hno i hi))
attribute [local go_sem ↓] loadPr_fold mkPr_fold mkPrs1_fold
set_option maxHeartbeats 8000000 in
set_option maxRecDepth 100000 in
theorem PParse_any (w : World) (A : Option Addr) (n c : Nat) (bs : List Int) (hB : Bys w A n bs) (hn : n ≤ 1000000000) :
    Calls Try.prog 63 #[.slice A n c] w (PParsePost w (parseP bs)) := by
  have HN := hide hn
  have hnew := hide (New_any w A n c bs hB hn)
  clear hB hn
  go_enter Try.func63, Try.ntmps63
  go_wp2_with fail
  refine hnew.out.mono ?_
  rintro e w1 ⟨g, h, rfl, hR, hg, hh, hb⟩
  have R1 := hide hR
  have B1 := hide hb
  have HG := hide hg
  have HH := hide hh
  have HGL := hide hR.lt
  clear hnew hR hb hg hh
  go_wp2_with fail
  refine (RCount_any w1 g h ⟨bs, 0⟩ 1048576 R1.out (by decide)).mono ?_
  rintro e w2 ⟨rfl, hR2, o2⟩
  have e0 : (1048576 : Int).toNat = 1048576 := rfl
  rw [e0] at hR2 ⊢
  clear e0
  obtain ⟨N, hN⟩ : ∃ N, N = (Rd.count ⟨bs, 0⟩ 1048576).1 := ⟨_, rfl⟩
  obtain ⟨r0, hr0⟩ : ∃ r0, r0 = (Rd.count ⟨bs, 0⟩ 1048576).2 := ⟨_, rfl⟩
  have HNM := hide (show N ≤ 1048576 by
    rw [hN]
    unfold Rd.count
    simp only [ne_eq, not_true_eq_false, if_false]
    exact peek_most bs 1048576)
  have HP := hide (show parseP bs = doneP (Rd.pairs N r0) by rw [hN, hr0]; rfl)
  rw [← hr0] at hR2
  rw [← hN]
  have R2 := hide hR2
  have B2 := hide (show Below w.heap.size w w2 from B1.out.trans (o2.below B1.out.size (fun i hi e => by have h9 : i = g := e; have := HG.out; omega)))
  have HGL2 := hide (show g < w2.heap.size ∧ h < w2.heap.size by have := o2.size; have := HGL.out; omega)
  have A0 := hide (show PAt 132 w2 w2 g h N r0 N r0 0 none 0 [] from ⟨by omega, PRow.nil (Nat.le_refl _), hR2, by unfold PEq; cases Rd.pairs N r0 <;> simp, by simp, Only.refl _ _⟩)
  clear hN hr0 hR2 o2 R2 R1 HGL HH
  go_wp2_with fail
  go_loopw [5, 6] (fun v i ws => ∃ (j M : Nat) (A' : Option Addr) (c' : Nat) (ys : List PairV) (r : Rd), i = .int .u64 (M : Int) ∧ v = .slice A' j c' ∧ PAt 132 w2 ws g h N r0 M r j A' c' ys) (fun _ i _ => (intOf i).toNat)
  case atStart => exact ⟨0, N, none, 0, [], r0, rfl, rfl, A0.out⟩
  case round =>
    clear A0
    obtain ⟨j, M, A4, c4, ys, r, rfl, rfl, ha⟩ := hrel
    obtain ⟨rest, err⟩ := r
    have HA := hide ha
    have BR := hide (show Below w.heap.size w wr from B2.out.trans (ha.only.below B2.out.size (fun i hi e => by have h9 : i = g := e; have := HG.out; omega)))
    have HJ := hide (show j ≤ N by have := ha.sum; omega)
    clear ha
    by_cases hgo : 0 < M ∧ err = 0
    · obtain ⟨m1, rfl⟩ := hgo
      obtain ⟨M', hM'⟩ : ∃ M', M' + 1 = M := ⟨M - 1, by omega⟩
      have hw1 : (M : Int) - 1 = (M' : Int) := by omega
      have hmn := HNM.out
      have hms := HA.out.sum
      have hw2 : IntKind.u64.wrap (M' : Int) = (M' : Int) := by rw [IntKind.wrap_u64]; omega
      have HMM := hide hM'
      have HX := HA.out
      rw [← hM'] at HX
      have HAM := hide HX
      clear hM' hmn hms HX
      go_wp2_with fail
      refine (Err_any wr g h ⟨rest, 0⟩ HA.out.rd).mono ?_
      rintro e wz ⟨rfl, rfl⟩
      go_wp2_with fail
      refine (RText_any _ g h ⟨rest, 0⟩ 200 HA.out.rd (by decide)).mono ?_
      rintro e w3 ⟨A3, m3, c3, rfl, hB3, hc3, hf3, hR3, o3⟩
      obtain ⟨key, r1, h1⟩ : ∃ key r1, Rd.text ⟨rest, 0⟩ 200 = (key, r1) := ⟨_, _, rfl⟩
      have hkl := ptext_most ⟨rest, 0⟩ 200 (by decide)
      rw [h1] at hB3 hR3 hkl
      have H1 := hide h1
      have B3 := hide hB3
      have R3 := hide hR3
      have O3 := hide o3
      have C3 := hide hc3
      have F3 := hide hf3
      have M3 := hide (show m3 ≤ 200 by have h9 := hB3.1; simp only at h9 hkl; omega)
      have hmk := mkPr_key w3 A3 m3 c3
      clear h1 hB3 hR3 o3 hc3 hf3 hkl
      simp only
      go_wp2_with (first
        | (refine wpList_alloc_agg rfl 100 rfl zeroPr zeroPr_info ?_; simp only [Act.put, sT, sZ, sS])
        | (refine pr_store rfl _ _ rfl w3 rfl (by rfl) ⟨A3, m3, c3, key, none, 0, 0, [], false⟩ (by rfl) ?_; intro w4 b4 s4 k4; have B4 := hide b4; have K4 := hide k4; have S4 := hide s4; clear b4 s4 k4 hmk; simp only [Act.put]))
      refine (RFixed_any w4 g h r1 1 (R3.out.below B4.out)).mono ?_
      rintro e w5 ⟨rfl, hR5, o5⟩
      obtain ⟨F, r2, h2⟩ : ∃ F r2, r1.fixed 1 = (F, r2) := ⟨_, _, rfl⟩
      rw [h2] at hR5 ⊢
      simp only at hR5 ⊢
      obtain ⟨gp, hgp⟩ : ∃ z, z = w3.heap.size := ⟨_, rfl⟩
      have HGP := hide (show w2.heap.size ≤ gp ∧ wr.heap.size ≤ gp by have h7 := HA.out.row.low; have h8 := O3.out.size; omega)
      have NGP := hide (show gp ≠ g by have := HGP.out; have := HGL2.out; omega)
      have HPP := hide (pair_parts ⟨rest, 0⟩ key r1 F r2 H1.out h2)
      rw [← hgp] at K4 S4 ⊢
      have K5 := hide (o5.blk K4.out NGP.out)
      have R5 := hide hR5
      have O5 := hide (show Only (fun i => i = g) wr w5 from ((O3.out.trans (Only.of_below B4.out (fun _ => False)) (fun _ _ h => h.elim)).trans o5 (fun _ _ h => h)))
      have Y5 := hide (show Bys w5 A3 m3 key from (B3.out.below B4.out).keep o5 (fun _ ad e hf => by have h7 := F3.out ad e; have h8 : ad.block = g := hf; have h9 := HGL2.out; have h10 := HA.out.row.low; omega))
      have FF3 := hide (show Fr wr A3 from F3.out)
      have LT3 := hide (show 0 < m3 → ∀ ad, A3 = some ad → ad.block < gp from fun h0 ad e => by rw [hgp]; exact B3.out.lt h0 ad e)
      clear h2 hR5 o5 hgp R3 O3 B3 K4 B4 S4
      have c0 := K5.out.c0
      have c1 := K5.out.c1
      have c2 := K5.out.c2
      have f0 := K5.out.frozen 0
      have f1 := K5.out.frozen 1
      have f2 := K5.out.frozen 2
      by_cases hF0 : F = 0
      · subst hF0
        have hpr := HPP.out.2.1 rfl
        have HPR := hide hpr
        obtain ⟨W6, hW6⟩ : ∃ z, w5.setCell ⟨gp, 2, none⟩ (.bool true) = z := ⟨_, rfl⟩
        obtain ⟨V, hV⟩ : ∃ V : PairV, V = ⟨A3, m3, c3, key, none, 0, 0, [], true⟩ := ⟨_, rfl⟩
        have HV := hide hV
        have O6 := hide (show Only (fun i => i = gp) w5 W6 by rw [← hW6]; exact Only.cell1 _ _ _ _)
        have K6 := hide (show Blk W6 gp 100 V.cells by rw [← hW6, hV]; exact K5.out.set_ 2 _)
        have hld := loadPr_run W6 gp 0 V K6.out.whole
        obtain ⟨W7, hW7⟩ : ∃ z, z = W6.alloc (.cells V.cells.toArray 100) := ⟨_, rfl⟩
        have hmk := mkPrs1_run W6 V
        rw [← hW7] at hmk
        have B7 := hide (show Below W6.heap.size W6 W7 by rw [hW7]; exact below_alloc (Below.refl _ _) _)
        have N7 := hide (show W7.rangeAt W6.heap.size 0 V.cells by rw [hW7]; exact (Blk.new W6 100 V.cells).whole)
        have O7 := hide (show Only (fun i => i = g) wr W7 from ((O5.out.trans O6.out (fun i hi e => by have h9 : i = gp := e; have := HGP.out; omega)).trans (Only.of_below B7.out (fun _ => False)) (fun _ _ h => h.elim)))
        have R7 := hide (show RdAt 132 W7 g h r2 from (R5.out.keep O6.out (fun e => NGP.out e.symm) (fun e => by have h9 : h = gp := e; have := HGP.out; have := HGL2.out; omega)).below B7.out)
        have V7 := hide (show V.Fine W7 by
          rw [hV]
          exact ⟨(Y5.out.keep O6.out (fun hpos ad e hf => by have h7 := LT3.out hpos ad e; have h8 : ad.block = gp := hf; omega)).below B7.out, C3.out, Bys.nil _ _, Nat.le_refl _⟩)
        have VK := hide (show Fr wr V.kA ∧ Fr wr V.vA by rw [hV]; exact ⟨FF3.out, Fr.none _⟩)
        have VS := hide (show V.kN ≤ 200 ∧ V.vN ≤ 20000 by rw [hV]; exact ⟨M3.out, Nat.zero_le _⟩)
        have VP := hide (show Rd.pair ⟨rest, 0⟩ = some (V.d, r2) by rw [hV]; exact HPR.out)
        have RC := hide (HAM.out.row.step O7.out (fun i _ e => by have h9 : i = g := e; have := HGL2.out; omega))
        have J9 := hide (show j + 1 ≤ 2000000 by have := HJ.out; have := HNM.out; omega)
        clear hV hW7 hpr c0 c1 f0 f1
        go_wp2_with (at_builtin; refine wpListRow rfl 37 rfl _ _ 94 rfl 100 3 56 Try.underlying94 pr_infoR (by decide) w2.heap.size (.slice A4 j c4) j _ (by rfl) RC.out.row RC.out.low W6.heap.size 0 1 1 V.cells (by rfl) rfl N7.out (PairV.one V) (by have := J9.out; omega) (by decide) ?_; intro A9 c9 w9 q1 q2 q3 q4; have P9 := hide (HAM.out.next rfl VP.out V7.out VK.out.1 VK.out.2 VS.out O7.out R7.out HGL2.out.1 HGL2.out.2 q1 q2 q3 q4); clear q1 q2 q3 q4; simp only [Act.put, sT, sZ, sS])
        exact ⟨⟨j + 1, M', A9, c9, ys ++ [V], _, by simp, rfl, P9.out⟩, by have := HMM.out; simp [intOf]; omega⟩
      · by_cases hF1 : F = 1
        · subst hF1
          have HP1 := hide (HPP.out.2.2 rfl)
          go_wp2_with fail
          refine (RText_any w5 g h r2 20000 R5.out (by decide)).mono ?_
          rintro e w6 ⟨A6, m6, c6, rfl, hB6, hc6, hf6, hR6, o6⟩
          obtain ⟨v, r3, h3⟩ : ∃ v r3, r2.text 20000 = (v, r3) := ⟨_, _, rfl⟩
          have hvl := ptext_most r2 20000 (by decide)
          rw [h3] at hB6 hR6 hvl
          have HPR := hide (HP1.out v r3 h3)
          have M6 := hide (show m6 ≤ 20000 by have h9 := hB6.1; simp only at h9 hvl; omega)
          have C6 := hide hc6
          have F6 := hide hf6
          have B6 := hide hB6
          have K6a := hide (o6.blk K5.out NGP.out)
          have LT6 := hide (show 0 < m6 → ∀ ad, A6 = some ad → ad.block ≠ gp from fun _ ad e => by have h7 := hf6 ad e; have h8 := K5.out.lt; omega)
          have Y6 := hide (show Bys w6 A3 m3 key from Y5.out.keep o6 (fun _ ad e hf => by have h7 := FF3.out ad e; have h8 : ad.block = g := hf; have h9 := HGL2.out; have h10 := HAM.out.row.low; omega))
          have O6a := hide (O5.out.trans o6 (fun _ _ h => h))
          have R6a := hide hR6
          have FR6 := hide (show Fr wr A6 from fun ad e => Nat.le_trans O5.out.size (hf6 ad e))
          clear hB6 hc6 hf6 hR6 o6 h3 hvl c0 c1 c2 f0 f1 f2
          have c0 := K6a.out.c0
          have c1 := K6a.out.c1
          have f0 := K6a.out.frozen 0
          have f1 := K6a.out.frozen 1
          have hpr := True.intro
          obtain ⟨W6, hW6⟩ : ∃ z, w6.setCell ⟨gp, 1, none⟩ (.slice A6 m6 c6) = z := ⟨_, rfl⟩
          obtain ⟨V, hV⟩ : ∃ V : PairV, V = ⟨A3, m3, c3, key, A6, m6, c6, v, false⟩ := ⟨_, rfl⟩
          have HV := hide hV
          have O6 := hide (show Only (fun i => i = gp) w6 W6 by rw [← hW6]; exact Only.cell1 _ _ _ _)
          have K6 := hide (show Blk W6 gp 100 V.cells by rw [← hW6, hV]; exact K6a.out.set_ 1 _)
          have hld := loadPr_run W6 gp 0 V K6.out.whole
          obtain ⟨W7, hW7⟩ : ∃ z, z = W6.alloc (.cells V.cells.toArray 100) := ⟨_, rfl⟩
          have hmk := mkPrs1_run W6 V
          rw [← hW7] at hmk
          have B7 := hide (show Below W6.heap.size W6 W7 by rw [hW7]; exact below_alloc (Below.refl _ _) _)
          have N7 := hide (show W7.rangeAt W6.heap.size 0 V.cells by rw [hW7]; exact (Blk.new W6 100 V.cells).whole)
          have O7 := hide (show Only (fun i => i = g) wr W7 from ((O6a.out.trans O6.out (fun i hi e => by have h9 : i = gp := e; have := HGP.out; omega)).trans (Only.of_below B7.out (fun _ => False)) (fun _ _ h => h.elim)))
          have R7 := hide (show RdAt 132 W7 g h r3 from (R6a.out.keep O6.out (fun e => NGP.out e.symm) (fun e => by have h9 : h = gp := e; have := HGP.out; have := HGL2.out; omega)).below B7.out)
          have V7 := hide (show V.Fine W7 by
            rw [hV]
            exact ⟨(Y6.out.keep O6.out (fun hpos ad e hf => by have h7 := LT3.out hpos ad e; have h8 : ad.block = gp := hf; omega)).below B7.out, C3.out, (B6.out.keep O6.out (fun hpos ad e hf => LT6.out hpos ad e hf)).below B7.out, C6.out⟩)
          have VK := hide (show Fr wr V.kA ∧ Fr wr V.vA by rw [hV]; exact ⟨FF3.out, FR6.out⟩)
          have VS := hide (show V.kN ≤ 200 ∧ V.vN ≤ 20000 by rw [hV]; exact ⟨M3.out, M6.out⟩)
          have VP := hide (show Rd.pair ⟨rest, 0⟩ = some (V.d, r3) by rw [hV]; exact HPR.out)
          have RC := hide (HAM.out.row.step O7.out (fun i _ e => by have h9 : i = g := e; have := HGL2.out; omega))
          have J9 := hide (show j + 1 ≤ 2000000 by have := HJ.out; have := HNM.out; omega)
          clear hV hW7 hpr c0 f0
          go_wp2_with (at_builtin; refine wpListRow rfl 37 rfl _ _ 94 rfl 100 3 56 Try.underlying94 pr_infoR (by decide) w2.heap.size (.slice A4 j c4) j _ (by rfl) RC.out.row RC.out.low W6.heap.size 0 1 1 V.cells (by rfl) rfl N7.out (PairV.one V) (by have := J9.out; omega) (by decide) ?_; intro A9 c9 w9 q1 q2 q3 q4; have P9 := hide (HAM.out.next rfl VP.out V7.out VK.out.1 VK.out.2 VS.out O7.out R7.out HGL2.out.1 HGL2.out.2 q1 q2 q3 q4); clear q1 q2 q3 q4; simp only [Act.put, sT, sZ, sS])
          exact ⟨⟨j + 1, M', A9, c9, ys ++ [V], _, by simp, rfl, P9.out⟩, by have := HMM.out; simp [intOf]; omega⟩
        · have hpn := HPP.out.1 (by omega)
          have HPN := hide (HP.out.trans (show doneP (Rd.pairs N r0) = none by rw [HAM.out.eq.none rfl hpn]; rfl))
          have e0 : ((F : Int) == 0) = false := by simp; omega
          have e1 : ((F : Int) == 1) = false := by simp; omega
          have BW := hide (show Below w.heap.size w w5 from BR.out.trans (O5.out.below BR.out.size (fun i hi e => by have h9 : i = g := e; have := HG.out; omega)))
          clear hpn
          go_wp2_with fail
          go_ret2
          exact ⟨BW.out, .inl ⟨HPN.out, rfl⟩⟩
    · have HOV := hide (HP.out.trans (by rw [HA.out.eq.over (by
          rcases Nat.eq_zero_or_pos M with h9 | h9
          · exact .inl h9
          · exact .inr (fun e => hgo ⟨h9, e⟩))]))
      have hbt := hide (batch_any wr A4 j c4 ys HA.out.row.in_ (by have := HJ.out; have := HNM.out; omega) (fun p hp => by have := HA.out.small p hp; omega))
      have HRD := hide HA.out.rd
      by_cases he : err = 0
      · subst he
        obtain rfl : M = 0 := by
          rcases Nat.eq_zero_or_pos M with h9 | h9
          · exact h9
          · exact absurd ⟨h9, rfl⟩ hgo
        obtain ⟨L, hL⟩ : ∃ L, L = rest.length := ⟨_, rfl⟩
        have HL := hide hL
        have m0 : ¬ (0 : Int) < ((0 : Nat) : Int) := by omega
        clear hgo hL
        by_cases hl : 0 < L
        · have HD := hide (HOV.out.trans (show doneP (some (ys.map PairV.d, ⟨rest, 0⟩)) = none by rw [doneP, if_pos (.inr (.inl (by show 0 < rest.length; rw [← HL.out]; exact hl)))]))
          clear HOV
          go_wp2_with fail
          refine (Err_any wr g h ⟨rest, 0⟩ HRD.out).mono ?_
          rintro e wz ⟨rfl, rfl⟩
          go_wp2_with fail
          refine (Left_any wr g h ⟨rest, 0⟩ HRD.out).mono ?_
          rintro e wz ⟨rfl, rfl⟩
          simp only
          rw [← HL.out]
          go_wp2_with fail
          go_ret2
          exact ⟨BR.out, .inl ⟨HD.out, rfl⟩⟩
        · have hl0 : L = 0 := by omega
          subst hl0
          clear hl
          cases hr : rightB (ys.map PairV.d) with
          | false =>
            have HD := hide (HOV.out.trans (show doneP (some (ys.map PairV.d, ⟨rest, 0⟩)) = none by rw [doneP, if_pos (.inr (.inr hr))]))
            rw [hr] at hbt
            clear HOV hr
            go_wp2_with fail
            refine (Err_any wr g h ⟨rest, 0⟩ HRD.out).mono ?_
            rintro e wz ⟨rfl, rfl⟩
            go_wp2_with fail
            refine (Left_any wr g h ⟨rest, 0⟩ HRD.out).mono ?_
            rintro e wz ⟨rfl, rfl⟩
            simp only
            rw [← HL.out]
            go_wp2_with fail
            refine hbt.out.mono ?_
            rintro e w3 ⟨rfl, b3⟩
            have B3 := hide b3
            clear b3
            go_wp2_with fail
            go_ret2
            exact ⟨Below.then_ BR.out B3.out, .inl ⟨HD.out, rfl⟩⟩
          | true =>
            have HD := hide (HOV.out.trans (show doneP (some (ys.map PairV.d, ⟨rest, 0⟩)) = some (ys.map PairV.d) by
              rw [doneP, if_neg]
              rintro (h9 | h9 | h9)
              · exact h9 rfl
              · have h8 : 0 < rest.length := h9
                rw [← HL.out] at h8
                omega
              · rw [hr] at h9; cases h9))
            rw [hr] at hbt
            clear HOV hr
            go_wp2_with fail
            refine (Err_any wr g h ⟨rest, 0⟩ HRD.out).mono ?_
            rintro e wz ⟨rfl, rfl⟩
            go_wp2_with fail
            refine (Left_any wr g h ⟨rest, 0⟩ HRD.out).mono ?_
            rintro e wz ⟨rfl, rfl⟩
            simp only
            rw [← HL.out]
            go_wp2_with fail
            refine hbt.out.mono ?_
            rintro e w3 ⟨rfl, b3⟩
            have B3 := hide b3
            clear b3
            go_wp2_with fail
            go_ret2
            refine ⟨Below.then_ BR.out B3.out, .inr ⟨A4, j, c4, ys, HD.out, rfl, HA.out.row.cap, ?_, by have := HJ.out; have := HNM.out; omega⟩⟩
            exact (HA.out.row.under B3.out).stay.mono fun i _ hi => by have := B2.out.size; show i < w2.heap.size; omega
      · have HD := hide (HOV.out.trans (show doneP (some (ys.map PairV.d, ⟨rest, err⟩)) = none by rw [doneP, if_pos (.inl he)]))
        have e1 : (err == 0) = false := by simpa using he
        have e2 : (err != 0) = true := by simpa using he
        clear HOV hgo he
        by_cases hM : M = 0
        · subst hM
          have m0 : ¬ (0 : Int) < ((0 : Nat) : Int) := by omega
          go_wp2_with fail
          refine (Err_any wr g h ⟨rest, err⟩ HRD.out).mono ?_
          rintro e wz ⟨rfl, rfl⟩
          go_wp2_with fail
          go_ret2
          exact ⟨BR.out, .inl ⟨HD.out, rfl⟩⟩
        · have m1 : 0 < M := by omega
          clear hM
          go_wp2_with fail
          refine (Err_any wr g h ⟨rest, err⟩ HRD.out).mono ?_
          rintro e wz ⟨rfl, rfl⟩
          go_wp2_with fail
          refine (Err_any wr g h ⟨rest, err⟩ HRD.out).mono ?_
          rintro e wz ⟨rfl, rfl⟩
          go_wp2_with fail
          go_ret2
          exact ⟨BR.out, .inl ⟨HD.out, rfl⟩⟩
end Go.Proofs.Ytjnpkcabkccaoaa
/-
  table: a pair of its own.
-/
namespace Go.Proofs.Ytjnpkcabkccaoaa
open Go.RowKit

theorem step_storeP {ops : Array Oper} {op : Oper} {a : Act} {w : World} {K : Act → World → Prop} {Q : Exit → Act → World → Prop} {E : Prop} (hgd : op.guard = none) (x y : Operand) (ho : op.op = .store 100 x y)
    (g : Nat) (cs : List Value) (p : PairV) (hl : cs.length = 3) (hx : a.eval x = .pointer (some ⟨g, 0, none⟩)) (hy : a.eval y = .agg p.cells.toArray) (hb : Blk w g 100 cs)
    (h : ∀ w', Only (fun i => i = g) w w' → w'.heap.size = w.heap.size → Blk w' g 100 p.cells → K (a.put op.dst undef) w') :
    if Region.wanted op (yielded ops a.tmps) = true then Oper.wp Try.prog op a w K Q else E := by
  have hw : Region.wanted op (yielded ops a.tmps) = true := by simp [Region.wanted, hgd]
  rw [if_pos hw]
  have hl3 : p.cells.length = 3 := rfl
  refine wp_store_mid 100 x y ho g 0 p.cells.toArray hx hy (by simpa using hb.there 0 p.cells.length (by rw [hl, hl3]; decide)) (by rw [isPr]; rfl) (all_oneCell_toArray (PairV.one p)) ?_
  refine h _ (Only.setCells (F := fun i => i = g) (.inr rfl) _ _ _ (Only.refl _ w)) (by rw [setCells_size]) ?_
  have := hb.cells p.cells 0 w cs
  rw [lay_all _ _ (by rw [hl]; rfl)] at this
  simpa using this
def CopyPPost (w : World) (d : PairD) (e : Ending) (w' : World) : Prop :=
  ∃ V : PairV, e = .returned (.agg V.cells.toArray) ∧ V.d = d ∧ V.Fine w' ∧ Fr w V.kA ∧ Fr w V.vA ∧ Below w.heap.size w w'
attribute [local go_sem ↓] mkPr_fold
set_option maxHeartbeats 4000000 in
set_option maxRecDepth 100000 in
theorem copied_any (w : World) (p : PairV) (hp : p.Fine w) (hm : p.kN ≤ 1000000000000 ∧ p.vN ≤ 1000000000000) :
    Calls Try.prog 120 #[.agg p.cells.toArray] w (CopyPPost w p.d) := by
  have HP := hide hp
  have HM := hide hm
  have HI := hide isPr
  have HU := hide Try.underlying100
  obtain ⟨w0, hw0⟩ : ∃ z, z = w.alloc (.cells p.cells.toArray 100) := ⟨_, rfl⟩
  obtain ⟨w1, hw1⟩ : ∃ z, z = w0.alloc (.cells zeroPr.toArray 100) := ⟨_, rfl⟩
  have Z0 := hide (show w0.heap.size = w.heap.size + 1 by rw [hw0]; simp)
  have B0 := hide (show Below w.heap.size w w0 by rw [hw0]; exact below_alloc (Below.refl _ _) _)
  have B01 := hide (show Below w0.heap.size w0 w1 by rw [hw1]; exact below_alloc (Below.refl _ _) _)
  have B1 := hide (Below.then_ B0.out B01.out)
  have K1 := hide (show Blk w1 w.heap.size 100 p.cells from Blk.under (by rw [hw0]; exact Blk.new w _ _) B01.out)
  have K2 := hide (show Blk w1 (w.heap.size + 1) 100 zeroPr by rw [hw1, ← Z0.out]; exact Blk.new w0 _ _)
  obtain ⟨kA, kN, kC, key, vA, vN, vC, value, gone⟩ := p
  simp only [PairV.cells] at K1 hw0
  simp only [PairV.cells]
  clear hp hm
  go_enter Try.func120, Try.ntmps120
  go_wp2_with (refine wpList_alloc_agg rfl 100 rfl zeroPr zeroPr_info ?_; simp only [Act.put, sT, sZ, sS])
  have hw0' : w.alloc (.cells #[.slice kA kN kC, .slice vA vN vC, .bool gone] 100) = w0 := hw0.symm
  rw [hw0', ← hw1]
  clear hw0 hw0' hw1
  refine wp_region_held_drew (S := fun w' => Below w.heap.size w w' ∧ Blk w' w.heap.size 100 [.slice kA kN kC, .slice vA vN vC, .bool gone]) (by kernel_rfl) (⟨B1.out.drew, K1.out⟩) (fun hSA0 => ?_)
  obtain ⟨w1d, hwA⟩ : ∃ x, x = w1.drew := ⟨_, rfl⟩
  rw [← hwA] at hSA0 ⊢
  have KZ := hide (show Blk w1d (w.heap.size + 1) 100 zeroPr by rw [hwA]; exact K2.out)
  have HZ := hide (show w.heap.size + 1 < w1d.heap.size from KZ.out.lt)
  clear hwA
  (refine tk (i := 0) (oi := ⟨some 3, .fieldAddr 100 (.tmp 1) 0, 0, "table.go:76", #[], none⟩) (v := ?_) hSA0 (fun w' hSw => ?_) ?_; rotate_left; focus (go_simp; try with_reducible rfl))
  simp only [Act.put, sT, sZ, sS]
  (refine tk (i := 1) (oi := ⟨some 4, .load 28 (.tmp 3), 28, "table.go:76", #[⟨0, .data⟩], none⟩) (v := ?_) hSA0 (fun w' hSw => ?_) ?_; rotate_left; focus (have z := hSw.2.c0; go_simp; try with_reducible rfl))
  simp only [Act.put, sT, sZ, sS]
  (refine tk (i := 3) (oi := ⟨some 6, .fieldAddr 100 (.tmp 1) 1, 0, "table.go:76", #[], none⟩) (v := ?_) hSA0 (fun w' hSw => ?_) ?_; rotate_left; focus (go_simp; try with_reducible rfl))
  simp only [Act.put, sT, sZ, sS]
  (refine tk (i := 4) (oi := ⟨some 7, .load 28 (.tmp 6), 28, "table.go:76", #[⟨3, .data⟩], none⟩) (v := ?_) hSA0 (fun w' hSw => ?_) ?_; rotate_left; focus (have z := hSw.2.c1; go_simp; try with_reducible rfl))
  simp only [Act.put, sT, sZ, sS]
  (refine tk (i := 6) (oi := ⟨some 9, .fieldAddr 100 (.tmp 1) 2, 0, "table.go:76", #[], none⟩) (v := ?_) hSA0 (fun w' hSw => ?_) ?_; rotate_left; focus (go_simp; try with_reducible rfl))
  simp only [Act.put, sT, sZ, sS]
  (refine tk (i := 7) (oi := ⟨some 10, .load 4 (.tmp 9), 4, "table.go:76", #[⟨6, .data⟩], none⟩) (v := ?_) hSA0 (fun w' hSw => ?_) ?_; rotate_left; focus (have z := hSw.2.c2; go_simp; try with_reducible rfl))
  simp only [Act.put, sT, sZ, sS]
  refine wpAnyH_ready (rs := [2]) (by kernel_rfl) (by simp) ?_
  refine AllReadyH.cons rfl (fun K hK => ?_) AllReadyH.nil
  go_simp
  refine (clone_any w1d w1d kA kN kC key (Below.refl _ _) (HP.out.key.below hSA0.1) (by have := HM.out; omega)).mono ?_
  rintro e w3 hp
  obtain ⟨A3, n3, c3, rfl, t3, f3⟩ := hp.fresh
  have T3 := hide t3
  have F3 := hide (Fr.older f3 hSA0.1)
  have N3 := hide (show ∀ ad, A3 = some ad → w.heap.size + 1 < ad.block from fun ad e => by have h1 := f3 ad e; have h2 := KZ.out.lt; omega)
  have B3 := hide t3.below
  have KZ := hide (KZ.out.under t3.below)
  clear hp t3 f3
  go_simp
  refine hK.out _ _ (⟨Below.then_ hSA0.1 B3.out, hSA0.2.under B3.out⟩) (fun hSA1 => ?_)
  clear hK K
  refine wpAnyH_ready (rs := [5]) (by kernel_rfl) (by simp) ?_
  refine AllReadyH.cons rfl (fun K hK => ?_) AllReadyH.nil
  go_simp
  refine (clone_any w3 w3 vA vN vC value (Below.refl _ _) (HP.out.value.below hSA1.1) (by have := HM.out; omega)).mono ?_
  rintro e w4 hp
  obtain ⟨A4, n4, c4, rfl, t4, f4⟩ := hp.fresh
  have T4 := hide t4
  have F4 := hide (Fr.older f4 hSA1.1)
  have N4 := hide (show ∀ ad, A4 = some ad → w.heap.size + 1 < ad.block from fun ad e => by have h1 := f4 ad e; have h2 := KZ.out.lt; omega)
  have B4 := hide t4.below
  have KZ := hide (KZ.out.under t4.below)
  have T3 := hide (T3.out.keep t4.below)
  clear hp t4 f4
  go_simp
  refine hK.out _ _ (⟨Below.then_ hSA1.1 B4.out, hSA1.2.under B4.out⟩) (fun hSA2 => ?_)
  clear hK K
  (refine tk (i := 8) (oi := ⟨some 11, .build 100 #[(0, .tmp 5), (1, .tmp 8), (2, .tmp 10)], 100, "table.go:76", #[⟨2, .data⟩, ⟨5, .data⟩, ⟨7, .data⟩], none⟩) (v := ?_) hSA2 (fun w' hSw => ?_) ?_; rotate_left; focus (have z := mkPr_run w' ⟨A3, n3, c3, key, A4, n4, c4, value, gone⟩; go_simp; try with_reducible rfl))
  simp only [Act.put, sT, sZ, sS]
  refine wpAnyH_ready (rs := [9]) (by kernel_rfl) (by simp) ?_
  refine AllReadyH.cons rfl (fun K hK => ?_) AllReadyH.nil
  refine step_storeP rfl _ _ rfl (w.heap.size + 1) zeroPr ⟨A3, n3, c3, key, A4, n4, c4, value, gone⟩ rfl (by rfl) (by rfl) KZ.out ?_
  intro w9 o9 z9 b9
  have K9 := hide b9
  have O9 := hide o9
  have S9 := hide (show Below w.heap.size w w9 from hSA2.1.trans (o9.below hSA2.1.size (fun i hi e => by have h9 : i = w.heap.size + 1 := e; omega)))
  have Y3 := hide (T3.out.bys.keep o9 (fun hpos ad e hf => by have h8 : ad.block = w.heap.size + 1 := hf; have h7 := N3.out ad e; omega))
  have Y4 := hide (T4.out.bys.keep o9 (fun hpos ad e hf => by have h8 : ad.block = w.heap.size + 1 := hf; have h7 := N4.out ad e; omega))
  have K19 := hide (show Blk w9 w.heap.size 100 _ from o9.blk hSA2.2 (fun e => by have h9 : w.heap.size = w.heap.size + 1 := e; omega))
  clear o9 z9 b9
  refine hK.out _ _ (⟨S9.out, K19.out⟩) (fun hSA3 => ?_)
  clear hK K
  refine wpAnyH_done (by kernel_rfl) ?_ _
  go_wp2_with fail
  refine bodyPost_ret (results_cell_blk rfl _ _ (w.heap.size + 1) 100 _ _ (by rfl) K9.out HU.out rfl (by rw [HI.out]; rfl)) rfl ⟨⟨A3, n3, c3, key, A4, n4, c4, value, gone⟩, rfl, rfl, ⟨Y3.out, T3.out.cap, Y4.out, T4.out.cap⟩, F3.out, F4.out, S9.out⟩
end Go.Proofs.Ytjnpkcabkccaoaa
