import Derived.Test.YtjnpkcabkccaoaaPk18
/-
  table: the same pairs; pairs too great to be looked at.
-/
namespace Go.Proofs.Ytjnpkcabkccaoaa
open Go.RowKit

def sameP (a b : List PairD) : Bool := decide (a = b)
theorem same_step (a b : List PairD) (j : Nat) (x y : PairD) (hx : a[j]? = some x) (hy : b[j]? = some y) (h : a = b ↔ a.drop j = b.drop j) : a = b ↔ x = y ∧ a.drop (j + 1) = b.drop (j + 1) := by
  obtain ⟨h1, e1⟩ := List.getElem?_eq_some_iff.1 hx
  obtain ⟨h2, e2⟩ := List.getElem?_eq_some_iff.1 hy
  rw [h, List.drop_eq_getElem_cons h1, List.drop_eq_getElem_cons h2, e1, e2, List.cons.injEq]
theorem ba_ne {a b : List Int} (ha : Byt a) (hb : Byt b) (h : a ≠ b) : (ba a).toList ≠ (ba b).toList := fun e => h (by
  have h1 := baBeq a b ha hb
  rw [e] at h1
  simp at h1
  exact h1)
set_option maxHeartbeats 8000000 in
set_option maxRecDepth 100000 in
theorem refSameP_any (w : World) (A B : Option Addr) (n c m d : Nat) (xs ys : List PairV) (hX : PairsIn w A n xs) (hY : PairsIn w B m ys) (hn : n ≤ 1000000000000) (hm : m ≤ 1000000000000) :
    Calls Try.prog 69 #[.slice A n c, .slice B m d] w fun e w' => e = .returned (.bool (sameP (xs.map PairV.d) (ys.map PairV.d))) ∧ Below w.heap.size w w' := by
  obtain ⟨a, ha⟩ : ∃ a, a = xs.map PairV.d := ⟨_, rfl⟩
  obtain ⟨b, hb⟩ : ∃ b, b = ys.map PairV.d := ⟨_, rfl⟩
  have HA := hide ha
  have HB := hide hb
  have HX := hide hX
  have HY := hide hY
  have LA := hide (show a.length = n by rw [ha, List.length_map, hX.1])
  have LB := hide (show b.length = m by rw [hb, List.length_map, hY.1])
  have n9 : (n : Int) ≤ 1000000000000 := by omega
  have m9 : (m : Int) ≤ 1000000000000 := by omega
  rw [← ha, ← hb]
  clear ha hb hX hY hn hm
  by_cases hnm : n = m
  · subst hnm
    clear m9
    go_enter Try.func69, Try.ntmps69
    go_wp2_with fail
    go_loopw [13] (fun i wr => ∃ j : Nat, j ≤ n ∧ i = .int .i64 (j : Int) ∧ (a = b ↔ a.drop j = b.drop j) ∧ Below w.heap.size w wr) (fun i _ => n - (intOf i).toNat)
    case atStart => exact ⟨0, by omega, rfl, Iff.rfl, Below.refl _ _⟩
    case round =>
      obtain ⟨j, hj, rfl, hs, hb⟩ := hrel
      have BW := hide hb
      have XR := hide (HX.out.below' hb)
      have YR := hide (HY.out.below' hb)
      by_cases hlt : j < n
      · obtain ⟨xb, xo, hxa, hxr⟩ := XR.out.2.2 (by omega)
        obtain ⟨yb, yo, hya, hyr⟩ := YR.out.2.2 (by omega)
        subst hxa; subst hya
        obtain ⟨x, hx⟩ : ∃ x, xs[j]? = some x := ⟨_, List.getElem?_eq_getElem (by rw [XR.out.1]; exact hlt)⟩
        obtain ⟨y, hy⟩ : ∃ y, ys[j]? = some y := ⟨_, List.getElem?_eq_getElem (by rw [YR.out.1]; exact hlt)⟩
        have HS := hide (same_step a b j x.d y.d (by rw [HA.out]; exact pmap_get hx) (by rw [HB.out]; exact pmap_get hy) hs)
        have XF := hide (XR.out.2.1 x (List.mem_of_getElem? hx))
        have YF := hide (YR.out.2.1 y (List.mem_of_getElem? hy))
        have XC := hide (hxr j x hx)
        have YC := hide (hyr j y hy)
        have HLT := hide hlt
        have j0 : (0 : Int) ≤ (j : Int) := by omega
        have j1 : (j : Int) < (n : Int) := by omega
        clear hs hb hx hy hxr hyr hlt hj
        obtain ⟨S1, hS1⟩ : ∃ S, S = ba x.key := ⟨_, rfl⟩
        have HS1 := hide hS1
        by_cases hk : x.key = y.key
        · have HS2 := hide (show S1 = ba y.key by rw [hS1, hk])
          have HK := hide hk
          clear hk hS1
          obtain ⟨V1, hV1⟩ : ∃ S, S = ba x.value := ⟨_, rfl⟩
          have HV1 := hide hV1
          by_cases hv : x.value = y.value
          · have HV2 := hide (show V1 = ba y.value by rw [hV1, hv])
            have HV := hide hv
            clear hv hV1
            cases hg : x.gone with
            | true =>
              cases hg2 : y.gone with
              | true =>
                have HE := hide (show a = b ↔ a.drop (j + 1) = b.drop (j + 1) from HS.out.trans ⟨fun h => h.2, fun h => ⟨by simp only [PairV.d]; rw [HK.out, HV.out, hg, hg2], h⟩⟩)
                have HG1 := hide hg
                have HG2 := hide hg2
                clear hg hg2
                go_wp2_with fail
                refine wp_region_held_drew (S := fun w' => Below wr.heap.size wr w') (by kernel_rfl) ((Below.refl _ wr).drew) (fun hSA0 => ?_)
                obtain ⟨wrd, hwA⟩ : ∃ x, x = wr.drew := ⟨_, rfl⟩
                rw [← hwA] at hSA0 ⊢
                clear hwA
                (refine tk (i := 0) (oi := ⟨some 16, .move (.tmp 0), 94, "ref.go:184", #[], none⟩) (v := ?_) hSA0 (fun w' hSw => ?_) ?_; rotate_left; focus (go_simp; try with_reducible rfl))
                simp only [Act.put, sT, sZ, sS]
                (refine tk (i := 1) (oi := ⟨some 17, .move (.tmp 5), 3, "ref.go:184", #[], none⟩) (v := ?_) hSA0 (fun w' hSw => ?_) ?_; rotate_left; focus (go_simp; try with_reducible rfl))
                simp only [Act.put, sT, sZ, sS]
                (refine tk (i := 2) (oi := ⟨some 18, .indexAddr 94 (.tmp 16) (.tmp 17), 0, "ref.go:184", #[⟨0, .data⟩, ⟨1, .data⟩], none⟩) (v := ?_) hSA0 (fun w' hSw => ?_) ?_; rotate_left; focus (go_simp; try with_reducible rfl))
                simp only [Act.put, sT, sZ, sS]
                (refine tk (i := 3) (oi := ⟨some 19, .fieldAddr 100 (.tmp 18) 0, 0, "ref.go:184", #[⟨2, .data⟩], none⟩) (v := ?_) hSA0 (fun w' hSw => ?_) ?_; rotate_left; focus (go_simp; try with_reducible rfl))
                simp only [Act.put, sT, sZ, sS]
                (refine tk (i := 4) (oi := ⟨some 20, .load 28 (.tmp 19), 28, "ref.go:184", #[⟨3, .data⟩], none⟩) (v := ?_) hSA0 (fun w' hSw => ?_) ?_; rotate_left; focus (have z : w'.cell? ⟨xb, xo + j * 3, none⟩ = some (.slice x.kA x.kN x.kC) := (by have := (range_under XC.out hSw) 0 (.slice x.kA x.kN x.kC) rfl; simpa using this); go_simp; try with_reducible rfl))
                simp only [Act.put, sT, sZ, sS]
                (refine tk (i := 5) (oi := ⟨some 21, .convert 28 9 (.tmp 20), 9, "ref.go:184", #[⟨4, .data⟩], none⟩) (v := ?_) hSA0 (fun w' hSw => ?_) ?_; rotate_left; focus (have z := run_str w' x.kA x.kN x.kC x.key (XF.out.key.below hSw); rw [← HS1.out] at z; go_simp; try with_reducible rfl))
                simp only [Act.put, sT, sZ, sS]
                (refine tk (i := 6) (oi := ⟨some 22, .move (.tmp 1), 94, "ref.go:184", #[], none⟩) (v := ?_) hSA0 (fun w' hSw => ?_) ?_; rotate_left; focus (go_simp; try with_reducible rfl))
                simp only [Act.put, sT, sZ, sS]
                (refine tk (i := 7) (oi := ⟨some 23, .move (.tmp 5), 3, "ref.go:184", #[], none⟩) (v := ?_) hSA0 (fun w' hSw => ?_) ?_; rotate_left; focus (go_simp; try with_reducible rfl))
                simp only [Act.put, sT, sZ, sS]
                (refine tk (i := 8) (oi := ⟨some 24, .indexAddr 94 (.tmp 22) (.tmp 23), 0, "ref.go:184", #[⟨6, .data⟩, ⟨7, .data⟩], none⟩) (v := ?_) hSA0 (fun w' hSw => ?_) ?_; rotate_left; focus (go_simp; try with_reducible rfl))
                simp only [Act.put, sT, sZ, sS]
                (refine tk (i := 9) (oi := ⟨some 25, .fieldAddr 100 (.tmp 24) 0, 0, "ref.go:184", #[⟨8, .data⟩], none⟩) (v := ?_) hSA0 (fun w' hSw => ?_) ?_; rotate_left; focus (go_simp; try with_reducible rfl))
                simp only [Act.put, sT, sZ, sS]
                (refine tk (i := 10) (oi := ⟨some 26, .load 28 (.tmp 25), 28, "ref.go:184", #[⟨9, .data⟩], none⟩) (v := ?_) hSA0 (fun w' hSw => ?_) ?_; rotate_left; focus (have z : w'.cell? ⟨yb, yo + j * 3, none⟩ = some (.slice y.kA y.kN y.kC) := (by have := (range_under YC.out hSw) 0 (.slice y.kA y.kN y.kC) rfl; simpa using this); go_simp; try with_reducible rfl))
                simp only [Act.put, sT, sZ, sS]
                (refine tk (i := 11) (oi := ⟨some 27, .convert 28 9 (.tmp 26), 9, "ref.go:184", #[⟨10, .data⟩], none⟩) (v := ?_) hSA0 (fun w' hSw => ?_) ?_; rotate_left; focus (have z := run_str w' y.kA y.kN y.kC y.key (YF.out.key.below hSw); rw [← HS2.out] at z; go_simp; try with_reducible rfl))
                simp only [Act.put, sT, sZ, sS]
                (refine tk (i := 12) (oi := ⟨some 28, .binOp .neq 9 (.tmp 21) (.tmp 27) 9, 4, "ref.go:184", #[⟨5, .data⟩, ⟨11, .data⟩], none⟩) (v := ?_) hSA0 (fun w' hSw => ?_) ?_; rotate_left; focus (go_simp; try with_reducible rfl))
                simp only [Act.put, sT, sZ, sS]
                (refine tk (i := 13) (oi := ⟨some 29, .move (.tmp 28), 4, "ref.go:184", #[⟨12, .data⟩], none⟩) (v := ?_) hSA0 (fun w' hSw => ?_) ?_; rotate_left; focus (go_simp; try with_reducible rfl))
                simp only [Act.put, sT, sZ, sS]
                (refine tk (i := 14) (oi := ⟨some 30, .move (.tmp 0), 94, "ref.go:184", #[⟨13, .guard⟩], some (13, false)⟩) (v := ?_) hSA0 (fun w' hSw => ?_) ?_; rotate_left; focus (go_simp; try with_reducible rfl))
                simp only [Act.put, sT, sZ, sS]
                (refine tk (i := 15) (oi := ⟨some 31, .move (.tmp 5), 3, "ref.go:184", #[⟨13, .guard⟩], some (13, false)⟩) (v := ?_) hSA0 (fun w' hSw => ?_) ?_; rotate_left; focus (go_simp; try with_reducible rfl))
                simp only [Act.put, sT, sZ, sS]
                (refine tk (i := 16) (oi := ⟨some 32, .indexAddr 94 (.tmp 30) (.tmp 31), 0, "ref.go:184", #[⟨14, .data⟩, ⟨15, .data⟩, ⟨13, .guard⟩], some (13, false)⟩) (v := ?_) hSA0 (fun w' hSw => ?_) ?_; rotate_left; focus (go_simp; try with_reducible rfl))
                simp only [Act.put, sT, sZ, sS]
                (refine tk (i := 17) (oi := ⟨some 33, .fieldAddr 100 (.tmp 32) 1, 0, "ref.go:184", #[⟨16, .data⟩, ⟨13, .guard⟩], some (13, false)⟩) (v := ?_) hSA0 (fun w' hSw => ?_) ?_; rotate_left; focus (go_simp; try with_reducible rfl))
                simp only [Act.put, sT, sZ, sS]
                (refine tk (i := 18) (oi := ⟨some 34, .load 28 (.tmp 33), 28, "ref.go:184", #[⟨17, .data⟩, ⟨13, .guard⟩], some (13, false)⟩) (v := ?_) hSA0 (fun w' hSw => ?_) ?_; rotate_left; focus (have z : w'.cell? ⟨xb, xo + j * 3 + 1, none⟩ = some (.slice x.vA x.vN x.vC) := (by have := (range_under XC.out hSw) 1 (.slice x.vA x.vN x.vC) rfl; simpa using this); go_simp; try with_reducible rfl))
                simp only [Act.put, sT, sZ, sS]
                (refine tk (i := 19) (oi := ⟨some 35, .convert 28 9 (.tmp 34), 9, "ref.go:184", #[⟨18, .data⟩, ⟨13, .guard⟩], some (13, false)⟩) (v := ?_) hSA0 (fun w' hSw => ?_) ?_; rotate_left; focus (have z := run_str w' x.vA x.vN x.vC x.value (XF.out.value.below hSw); rw [← HV1.out] at z; go_simp; try with_reducible rfl))
                simp only [Act.put, sT, sZ, sS]
                (refine tk (i := 20) (oi := ⟨some 36, .move (.tmp 1), 94, "ref.go:184", #[⟨13, .guard⟩], some (13, false)⟩) (v := ?_) hSA0 (fun w' hSw => ?_) ?_; rotate_left; focus (go_simp; try with_reducible rfl))
                simp only [Act.put, sT, sZ, sS]
                (refine tk (i := 21) (oi := ⟨some 37, .move (.tmp 5), 3, "ref.go:184", #[⟨13, .guard⟩], some (13, false)⟩) (v := ?_) hSA0 (fun w' hSw => ?_) ?_; rotate_left; focus (go_simp; try with_reducible rfl))
                simp only [Act.put, sT, sZ, sS]
                (refine tk (i := 22) (oi := ⟨some 38, .indexAddr 94 (.tmp 36) (.tmp 37), 0, "ref.go:184", #[⟨20, .data⟩, ⟨21, .data⟩, ⟨13, .guard⟩], some (13, false)⟩) (v := ?_) hSA0 (fun w' hSw => ?_) ?_; rotate_left; focus (go_simp; try with_reducible rfl))
                simp only [Act.put, sT, sZ, sS]
                (refine tk (i := 23) (oi := ⟨some 39, .fieldAddr 100 (.tmp 38) 1, 0, "ref.go:184", #[⟨22, .data⟩, ⟨13, .guard⟩], some (13, false)⟩) (v := ?_) hSA0 (fun w' hSw => ?_) ?_; rotate_left; focus (go_simp; try with_reducible rfl))
                simp only [Act.put, sT, sZ, sS]
                (refine tk (i := 24) (oi := ⟨some 40, .load 28 (.tmp 39), 28, "ref.go:184", #[⟨23, .data⟩, ⟨13, .guard⟩], some (13, false)⟩) (v := ?_) hSA0 (fun w' hSw => ?_) ?_; rotate_left; focus (have z : w'.cell? ⟨yb, yo + j * 3 + 1, none⟩ = some (.slice y.vA y.vN y.vC) := (by have := (range_under YC.out hSw) 1 (.slice y.vA y.vN y.vC) rfl; simpa using this); go_simp; try with_reducible rfl))
                simp only [Act.put, sT, sZ, sS]
                (refine tk (i := 25) (oi := ⟨some 41, .convert 28 9 (.tmp 40), 9, "ref.go:184", #[⟨24, .data⟩, ⟨13, .guard⟩], some (13, false)⟩) (v := ?_) hSA0 (fun w' hSw => ?_) ?_; rotate_left; focus (have z := run_str w' y.vA y.vN y.vC y.value (YF.out.value.below hSw); rw [← HV2.out] at z; go_simp; try with_reducible rfl))
                simp only [Act.put, sT, sZ, sS]
                (refine tk (i := 26) (oi := ⟨some 42, .binOp .neq 9 (.tmp 35) (.tmp 41) 9, 4, "ref.go:184", #[⟨19, .data⟩, ⟨25, .data⟩, ⟨13, .guard⟩], some (13, false)⟩) (v := ?_) hSA0 (fun w' hSw => ?_) ?_; rotate_left; focus (go_simp; try with_reducible rfl))
                simp only [Act.put, sT, sZ, sS]
                (refine tk (i := 27) (oi := ⟨some 43, .pick (.tmp 29) (.const (.bool Bool.true)) (.tmp 42), 4, "ref.go:184", #[⟨13, .data⟩, ⟨26, .data⟩], none⟩) (v := ?_) hSA0 (fun w' hSw => ?_) ?_; rotate_left; focus (go_simp; try with_reducible rfl))
                simp only [Act.put, sT, sZ, sS]
                (refine tk (i := 28) (oi := ⟨some 44, .move (.tmp 43), 4, "ref.go:184", #[⟨27, .data⟩, ⟨13, .chain⟩], none⟩) (v := ?_) hSA0 (fun w' hSw => ?_) ?_; rotate_left; focus (go_simp; try with_reducible rfl))
                simp only [Act.put, sT, sZ, sS]
                (refine tk (i := 29) (oi := ⟨some 45, .move (.tmp 0), 94, "ref.go:184", #[⟨28, .guard⟩], some (28, false)⟩) (v := ?_) hSA0 (fun w' hSw => ?_) ?_; rotate_left; focus (go_simp; try with_reducible rfl))
                simp only [Act.put, sT, sZ, sS]
                (refine tk (i := 30) (oi := ⟨some 46, .move (.tmp 5), 3, "ref.go:184", #[⟨28, .guard⟩], some (28, false)⟩) (v := ?_) hSA0 (fun w' hSw => ?_) ?_; rotate_left; focus (go_simp; try with_reducible rfl))
                simp only [Act.put, sT, sZ, sS]
                (refine tk (i := 31) (oi := ⟨some 47, .indexAddr 94 (.tmp 45) (.tmp 46), 0, "ref.go:184", #[⟨29, .data⟩, ⟨30, .data⟩, ⟨28, .guard⟩], some (28, false)⟩) (v := ?_) hSA0 (fun w' hSw => ?_) ?_; rotate_left; focus (go_simp; try with_reducible rfl))
                simp only [Act.put, sT, sZ, sS]
                (refine tk (i := 32) (oi := ⟨some 48, .fieldAddr 100 (.tmp 47) 2, 0, "ref.go:184", #[⟨31, .data⟩, ⟨28, .guard⟩], some (28, false)⟩) (v := ?_) hSA0 (fun w' hSw => ?_) ?_; rotate_left; focus (go_simp; try with_reducible rfl))
                simp only [Act.put, sT, sZ, sS]
                (refine tk (i := 33) (oi := ⟨some 49, .load 4 (.tmp 48), 4, "ref.go:184", #[⟨32, .data⟩, ⟨28, .guard⟩], some (28, false)⟩) (v := ?_) hSA0 (fun w' hSw => ?_) ?_; rotate_left; focus (have z : w'.cell? ⟨xb, xo + j * 3 + 2, none⟩ = some (.bool x.gone) := (by have := (range_under XC.out hSw) 2 (.bool x.gone) rfl; simpa using this); rw [HG1.out] at z; go_simp; try with_reducible rfl))
                simp only [Act.put, sT, sZ, sS]
                (refine tk (i := 34) (oi := ⟨some 50, .move (.tmp 1), 94, "ref.go:184", #[⟨28, .guard⟩], some (28, false)⟩) (v := ?_) hSA0 (fun w' hSw => ?_) ?_; rotate_left; focus (go_simp; try with_reducible rfl))
                simp only [Act.put, sT, sZ, sS]
                (refine tk (i := 35) (oi := ⟨some 51, .move (.tmp 5), 3, "ref.go:184", #[⟨28, .guard⟩], some (28, false)⟩) (v := ?_) hSA0 (fun w' hSw => ?_) ?_; rotate_left; focus (go_simp; try with_reducible rfl))
                simp only [Act.put, sT, sZ, sS]
                (refine tk (i := 36) (oi := ⟨some 52, .indexAddr 94 (.tmp 50) (.tmp 51), 0, "ref.go:184", #[⟨34, .data⟩, ⟨35, .data⟩, ⟨28, .guard⟩], some (28, false)⟩) (v := ?_) hSA0 (fun w' hSw => ?_) ?_; rotate_left; focus (go_simp; try with_reducible rfl))
                simp only [Act.put, sT, sZ, sS]
                (refine tk (i := 37) (oi := ⟨some 53, .fieldAddr 100 (.tmp 52) 2, 0, "ref.go:184", #[⟨36, .data⟩, ⟨28, .guard⟩], some (28, false)⟩) (v := ?_) hSA0 (fun w' hSw => ?_) ?_; rotate_left; focus (go_simp; try with_reducible rfl))
                simp only [Act.put, sT, sZ, sS]
                (refine tk (i := 38) (oi := ⟨some 54, .load 4 (.tmp 53), 4, "ref.go:184", #[⟨37, .data⟩, ⟨28, .guard⟩], some (28, false)⟩) (v := ?_) hSA0 (fun w' hSw => ?_) ?_; rotate_left; focus (have z : w'.cell? ⟨yb, yo + j * 3 + 2, none⟩ = some (.bool y.gone) := (by have := (range_under YC.out hSw) 2 (.bool y.gone) rfl; simpa using this); rw [HG2.out] at z; go_simp; try with_reducible rfl))
                simp only [Act.put, sT, sZ, sS]
                (refine tk (i := 39) (oi := ⟨some 55, .binOp .neq 4 (.tmp 49) (.tmp 54) 4, 4, "ref.go:184", #[⟨33, .data⟩, ⟨38, .data⟩, ⟨28, .guard⟩], some (28, false)⟩) (v := ?_) hSA0 (fun w' hSw => ?_) ?_; rotate_left; focus (go_simp; try with_reducible rfl))
                simp only [Act.put, sT, sZ, sS]
                (refine tk (i := 40) (oi := ⟨some 56, .pick (.tmp 44) (.const (.bool Bool.true)) (.tmp 55), 4, "ref.go:184", #[⟨28, .data⟩, ⟨39, .data⟩], none⟩) (v := ?_) hSA0 (fun w' hSw => ?_) ?_; rotate_left; focus (go_simp; try with_reducible rfl))
                simp only [Act.put, sT, sZ, sS]
                refine wpAnyH_done (by kernel_rfl) ?_ _
                go_wp2_with fail
                exact ⟨⟨j + 1, by have := HLT.out; omega, by go_num, HE.out, Below.then_ BW.out hSA0⟩, by have := HLT.out; simp [intOf]; omega⟩
              | false =>
                have HE := hide (show sameP a b = false from decide_eq_false fun h => by have h9 := congrArg PairD.gone (HS.out.1 h).1; simp only [PairV.d] at h9; rw [hg, hg2] at h9; cases h9)
                have HG1 := hide hg
                have HG2 := hide hg2
                clear hg hg2
                go_wp2_with fail
                refine wp_region_held_drew (S := fun w' => Below wr.heap.size wr w') (by kernel_rfl) ((Below.refl _ wr).drew) (fun hSB0 => ?_)
                obtain ⟨wrd, hwB⟩ : ∃ x, x = wr.drew := ⟨_, rfl⟩
                rw [← hwB] at hSB0 ⊢
                clear hwB
                (refine tk (i := 0) (oi := ⟨some 16, .move (.tmp 0), 94, "ref.go:184", #[], none⟩) (v := ?_) hSB0 (fun w' hSw => ?_) ?_; rotate_left; focus (go_simp; try with_reducible rfl))
                simp only [Act.put, sT, sZ, sS]
                (refine tk (i := 1) (oi := ⟨some 17, .move (.tmp 5), 3, "ref.go:184", #[], none⟩) (v := ?_) hSB0 (fun w' hSw => ?_) ?_; rotate_left; focus (go_simp; try with_reducible rfl))
                simp only [Act.put, sT, sZ, sS]
                (refine tk (i := 2) (oi := ⟨some 18, .indexAddr 94 (.tmp 16) (.tmp 17), 0, "ref.go:184", #[⟨0, .data⟩, ⟨1, .data⟩], none⟩) (v := ?_) hSB0 (fun w' hSw => ?_) ?_; rotate_left; focus (go_simp; try with_reducible rfl))
                simp only [Act.put, sT, sZ, sS]
                (refine tk (i := 3) (oi := ⟨some 19, .fieldAddr 100 (.tmp 18) 0, 0, "ref.go:184", #[⟨2, .data⟩], none⟩) (v := ?_) hSB0 (fun w' hSw => ?_) ?_; rotate_left; focus (go_simp; try with_reducible rfl))
                simp only [Act.put, sT, sZ, sS]
                (refine tk (i := 4) (oi := ⟨some 20, .load 28 (.tmp 19), 28, "ref.go:184", #[⟨3, .data⟩], none⟩) (v := ?_) hSB0 (fun w' hSw => ?_) ?_; rotate_left; focus (have z : w'.cell? ⟨xb, xo + j * 3, none⟩ = some (.slice x.kA x.kN x.kC) := (by have := (range_under XC.out hSw) 0 (.slice x.kA x.kN x.kC) rfl; simpa using this); go_simp; try with_reducible rfl))
                simp only [Act.put, sT, sZ, sS]
                (refine tk (i := 5) (oi := ⟨some 21, .convert 28 9 (.tmp 20), 9, "ref.go:184", #[⟨4, .data⟩], none⟩) (v := ?_) hSB0 (fun w' hSw => ?_) ?_; rotate_left; focus (have z := run_str w' x.kA x.kN x.kC x.key (XF.out.key.below hSw); rw [← HS1.out] at z; go_simp; try with_reducible rfl))
                simp only [Act.put, sT, sZ, sS]
                (refine tk (i := 6) (oi := ⟨some 22, .move (.tmp 1), 94, "ref.go:184", #[], none⟩) (v := ?_) hSB0 (fun w' hSw => ?_) ?_; rotate_left; focus (go_simp; try with_reducible rfl))
                simp only [Act.put, sT, sZ, sS]
                (refine tk (i := 7) (oi := ⟨some 23, .move (.tmp 5), 3, "ref.go:184", #[], none⟩) (v := ?_) hSB0 (fun w' hSw => ?_) ?_; rotate_left; focus (go_simp; try with_reducible rfl))
                simp only [Act.put, sT, sZ, sS]
                (refine tk (i := 8) (oi := ⟨some 24, .indexAddr 94 (.tmp 22) (.tmp 23), 0, "ref.go:184", #[⟨6, .data⟩, ⟨7, .data⟩], none⟩) (v := ?_) hSB0 (fun w' hSw => ?_) ?_; rotate_left; focus (go_simp; try with_reducible rfl))
                simp only [Act.put, sT, sZ, sS]
                (refine tk (i := 9) (oi := ⟨some 25, .fieldAddr 100 (.tmp 24) 0, 0, "ref.go:184", #[⟨8, .data⟩], none⟩) (v := ?_) hSB0 (fun w' hSw => ?_) ?_; rotate_left; focus (go_simp; try with_reducible rfl))
                simp only [Act.put, sT, sZ, sS]
                (refine tk (i := 10) (oi := ⟨some 26, .load 28 (.tmp 25), 28, "ref.go:184", #[⟨9, .data⟩], none⟩) (v := ?_) hSB0 (fun w' hSw => ?_) ?_; rotate_left; focus (have z : w'.cell? ⟨yb, yo + j * 3, none⟩ = some (.slice y.kA y.kN y.kC) := (by have := (range_under YC.out hSw) 0 (.slice y.kA y.kN y.kC) rfl; simpa using this); go_simp; try with_reducible rfl))
                simp only [Act.put, sT, sZ, sS]
                (refine tk (i := 11) (oi := ⟨some 27, .convert 28 9 (.tmp 26), 9, "ref.go:184", #[⟨10, .data⟩], none⟩) (v := ?_) hSB0 (fun w' hSw => ?_) ?_; rotate_left; focus (have z := run_str w' y.kA y.kN y.kC y.key (YF.out.key.below hSw); rw [← HS2.out] at z; go_simp; try with_reducible rfl))
                simp only [Act.put, sT, sZ, sS]
                (refine tk (i := 12) (oi := ⟨some 28, .binOp .neq 9 (.tmp 21) (.tmp 27) 9, 4, "ref.go:184", #[⟨5, .data⟩, ⟨11, .data⟩], none⟩) (v := ?_) hSB0 (fun w' hSw => ?_) ?_; rotate_left; focus (go_simp; try with_reducible rfl))
                simp only [Act.put, sT, sZ, sS]
                (refine tk (i := 13) (oi := ⟨some 29, .move (.tmp 28), 4, "ref.go:184", #[⟨12, .data⟩], none⟩) (v := ?_) hSB0 (fun w' hSw => ?_) ?_; rotate_left; focus (go_simp; try with_reducible rfl))
                simp only [Act.put, sT, sZ, sS]
                (refine tk (i := 14) (oi := ⟨some 30, .move (.tmp 0), 94, "ref.go:184", #[⟨13, .guard⟩], some (13, false)⟩) (v := ?_) hSB0 (fun w' hSw => ?_) ?_; rotate_left; focus (go_simp; try with_reducible rfl))
                simp only [Act.put, sT, sZ, sS]
                (refine tk (i := 15) (oi := ⟨some 31, .move (.tmp 5), 3, "ref.go:184", #[⟨13, .guard⟩], some (13, false)⟩) (v := ?_) hSB0 (fun w' hSw => ?_) ?_; rotate_left; focus (go_simp; try with_reducible rfl))
                simp only [Act.put, sT, sZ, sS]
                (refine tk (i := 16) (oi := ⟨some 32, .indexAddr 94 (.tmp 30) (.tmp 31), 0, "ref.go:184", #[⟨14, .data⟩, ⟨15, .data⟩, ⟨13, .guard⟩], some (13, false)⟩) (v := ?_) hSB0 (fun w' hSw => ?_) ?_; rotate_left; focus (go_simp; try with_reducible rfl))
                simp only [Act.put, sT, sZ, sS]
                (refine tk (i := 17) (oi := ⟨some 33, .fieldAddr 100 (.tmp 32) 1, 0, "ref.go:184", #[⟨16, .data⟩, ⟨13, .guard⟩], some (13, false)⟩) (v := ?_) hSB0 (fun w' hSw => ?_) ?_; rotate_left; focus (go_simp; try with_reducible rfl))
                simp only [Act.put, sT, sZ, sS]
                (refine tk (i := 18) (oi := ⟨some 34, .load 28 (.tmp 33), 28, "ref.go:184", #[⟨17, .data⟩, ⟨13, .guard⟩], some (13, false)⟩) (v := ?_) hSB0 (fun w' hSw => ?_) ?_; rotate_left; focus (have z : w'.cell? ⟨xb, xo + j * 3 + 1, none⟩ = some (.slice x.vA x.vN x.vC) := (by have := (range_under XC.out hSw) 1 (.slice x.vA x.vN x.vC) rfl; simpa using this); go_simp; try with_reducible rfl))
                simp only [Act.put, sT, sZ, sS]
                (refine tk (i := 19) (oi := ⟨some 35, .convert 28 9 (.tmp 34), 9, "ref.go:184", #[⟨18, .data⟩, ⟨13, .guard⟩], some (13, false)⟩) (v := ?_) hSB0 (fun w' hSw => ?_) ?_; rotate_left; focus (have z := run_str w' x.vA x.vN x.vC x.value (XF.out.value.below hSw); rw [← HV1.out] at z; go_simp; try with_reducible rfl))
                simp only [Act.put, sT, sZ, sS]
                (refine tk (i := 20) (oi := ⟨some 36, .move (.tmp 1), 94, "ref.go:184", #[⟨13, .guard⟩], some (13, false)⟩) (v := ?_) hSB0 (fun w' hSw => ?_) ?_; rotate_left; focus (go_simp; try with_reducible rfl))
                simp only [Act.put, sT, sZ, sS]
                (refine tk (i := 21) (oi := ⟨some 37, .move (.tmp 5), 3, "ref.go:184", #[⟨13, .guard⟩], some (13, false)⟩) (v := ?_) hSB0 (fun w' hSw => ?_) ?_; rotate_left; focus (go_simp; try with_reducible rfl))
                simp only [Act.put, sT, sZ, sS]
                (refine tk (i := 22) (oi := ⟨some 38, .indexAddr 94 (.tmp 36) (.tmp 37), 0, "ref.go:184", #[⟨20, .data⟩, ⟨21, .data⟩, ⟨13, .guard⟩], some (13, false)⟩) (v := ?_) hSB0 (fun w' hSw => ?_) ?_; rotate_left; focus (go_simp; try with_reducible rfl))
                simp only [Act.put, sT, sZ, sS]
                (refine tk (i := 23) (oi := ⟨some 39, .fieldAddr 100 (.tmp 38) 1, 0, "ref.go:184", #[⟨22, .data⟩, ⟨13, .guard⟩], some (13, false)⟩) (v := ?_) hSB0 (fun w' hSw => ?_) ?_; rotate_left; focus (go_simp; try with_reducible rfl))
                simp only [Act.put, sT, sZ, sS]
                (refine tk (i := 24) (oi := ⟨some 40, .load 28 (.tmp 39), 28, "ref.go:184", #[⟨23, .data⟩, ⟨13, .guard⟩], some (13, false)⟩) (v := ?_) hSB0 (fun w' hSw => ?_) ?_; rotate_left; focus (have z : w'.cell? ⟨yb, yo + j * 3 + 1, none⟩ = some (.slice y.vA y.vN y.vC) := (by have := (range_under YC.out hSw) 1 (.slice y.vA y.vN y.vC) rfl; simpa using this); go_simp; try with_reducible rfl))
                simp only [Act.put, sT, sZ, sS]
                (refine tk (i := 25) (oi := ⟨some 41, .convert 28 9 (.tmp 40), 9, "ref.go:184", #[⟨24, .data⟩, ⟨13, .guard⟩], some (13, false)⟩) (v := ?_) hSB0 (fun w' hSw => ?_) ?_; rotate_left; focus (have z := run_str w' y.vA y.vN y.vC y.value (YF.out.value.below hSw); rw [← HV2.out] at z; go_simp; try with_reducible rfl))
                simp only [Act.put, sT, sZ, sS]
                (refine tk (i := 26) (oi := ⟨some 42, .binOp .neq 9 (.tmp 35) (.tmp 41) 9, 4, "ref.go:184", #[⟨19, .data⟩, ⟨25, .data⟩, ⟨13, .guard⟩], some (13, false)⟩) (v := ?_) hSB0 (fun w' hSw => ?_) ?_; rotate_left; focus (go_simp; try with_reducible rfl))
                simp only [Act.put, sT, sZ, sS]
                (refine tk (i := 27) (oi := ⟨some 43, .pick (.tmp 29) (.const (.bool Bool.true)) (.tmp 42), 4, "ref.go:184", #[⟨13, .data⟩, ⟨26, .data⟩], none⟩) (v := ?_) hSB0 (fun w' hSw => ?_) ?_; rotate_left; focus (go_simp; try with_reducible rfl))
                simp only [Act.put, sT, sZ, sS]
                (refine tk (i := 28) (oi := ⟨some 44, .move (.tmp 43), 4, "ref.go:184", #[⟨27, .data⟩, ⟨13, .chain⟩], none⟩) (v := ?_) hSB0 (fun w' hSw => ?_) ?_; rotate_left; focus (go_simp; try with_reducible rfl))
                simp only [Act.put, sT, sZ, sS]
                (refine tk (i := 29) (oi := ⟨some 45, .move (.tmp 0), 94, "ref.go:184", #[⟨28, .guard⟩], some (28, false)⟩) (v := ?_) hSB0 (fun w' hSw => ?_) ?_; rotate_left; focus (go_simp; try with_reducible rfl))
                simp only [Act.put, sT, sZ, sS]
                (refine tk (i := 30) (oi := ⟨some 46, .move (.tmp 5), 3, "ref.go:184", #[⟨28, .guard⟩], some (28, false)⟩) (v := ?_) hSB0 (fun w' hSw => ?_) ?_; rotate_left; focus (go_simp; try with_reducible rfl))
                simp only [Act.put, sT, sZ, sS]
                (refine tk (i := 31) (oi := ⟨some 47, .indexAddr 94 (.tmp 45) (.tmp 46), 0, "ref.go:184", #[⟨29, .data⟩, ⟨30, .data⟩, ⟨28, .guard⟩], some (28, false)⟩) (v := ?_) hSB0 (fun w' hSw => ?_) ?_; rotate_left; focus (go_simp; try with_reducible rfl))
                simp only [Act.put, sT, sZ, sS]
                (refine tk (i := 32) (oi := ⟨some 48, .fieldAddr 100 (.tmp 47) 2, 0, "ref.go:184", #[⟨31, .data⟩, ⟨28, .guard⟩], some (28, false)⟩) (v := ?_) hSB0 (fun w' hSw => ?_) ?_; rotate_left; focus (go_simp; try with_reducible rfl))
                simp only [Act.put, sT, sZ, sS]
                (refine tk (i := 33) (oi := ⟨some 49, .load 4 (.tmp 48), 4, "ref.go:184", #[⟨32, .data⟩, ⟨28, .guard⟩], some (28, false)⟩) (v := ?_) hSB0 (fun w' hSw => ?_) ?_; rotate_left; focus (have z : w'.cell? ⟨xb, xo + j * 3 + 2, none⟩ = some (.bool x.gone) := (by have := (range_under XC.out hSw) 2 (.bool x.gone) rfl; simpa using this); rw [HG1.out] at z; go_simp; try with_reducible rfl))
                simp only [Act.put, sT, sZ, sS]
                (refine tk (i := 34) (oi := ⟨some 50, .move (.tmp 1), 94, "ref.go:184", #[⟨28, .guard⟩], some (28, false)⟩) (v := ?_) hSB0 (fun w' hSw => ?_) ?_; rotate_left; focus (go_simp; try with_reducible rfl))
                simp only [Act.put, sT, sZ, sS]
                (refine tk (i := 35) (oi := ⟨some 51, .move (.tmp 5), 3, "ref.go:184", #[⟨28, .guard⟩], some (28, false)⟩) (v := ?_) hSB0 (fun w' hSw => ?_) ?_; rotate_left; focus (go_simp; try with_reducible rfl))
                simp only [Act.put, sT, sZ, sS]
                (refine tk (i := 36) (oi := ⟨some 52, .indexAddr 94 (.tmp 50) (.tmp 51), 0, "ref.go:184", #[⟨34, .data⟩, ⟨35, .data⟩, ⟨28, .guard⟩], some (28, false)⟩) (v := ?_) hSB0 (fun w' hSw => ?_) ?_; rotate_left; focus (go_simp; try with_reducible rfl))
                simp only [Act.put, sT, sZ, sS]
                (refine tk (i := 37) (oi := ⟨some 53, .fieldAddr 100 (.tmp 52) 2, 0, "ref.go:184", #[⟨36, .data⟩, ⟨28, .guard⟩], some (28, false)⟩) (v := ?_) hSB0 (fun w' hSw => ?_) ?_; rotate_left; focus (go_simp; try with_reducible rfl))
                simp only [Act.put, sT, sZ, sS]
                (refine tk (i := 38) (oi := ⟨some 54, .load 4 (.tmp 53), 4, "ref.go:184", #[⟨37, .data⟩, ⟨28, .guard⟩], some (28, false)⟩) (v := ?_) hSB0 (fun w' hSw => ?_) ?_; rotate_left; focus (have z : w'.cell? ⟨yb, yo + j * 3 + 2, none⟩ = some (.bool y.gone) := (by have := (range_under YC.out hSw) 2 (.bool y.gone) rfl; simpa using this); rw [HG2.out] at z; go_simp; try with_reducible rfl))
                simp only [Act.put, sT, sZ, sS]
                (refine tk (i := 39) (oi := ⟨some 55, .binOp .neq 4 (.tmp 49) (.tmp 54) 4, 4, "ref.go:184", #[⟨33, .data⟩, ⟨38, .data⟩, ⟨28, .guard⟩], some (28, false)⟩) (v := ?_) hSB0 (fun w' hSw => ?_) ?_; rotate_left; focus (go_simp; try with_reducible rfl))
                simp only [Act.put, sT, sZ, sS]
                (refine tk (i := 40) (oi := ⟨some 56, .pick (.tmp 44) (.const (.bool Bool.true)) (.tmp 55), 4, "ref.go:184", #[⟨28, .data⟩, ⟨39, .data⟩], none⟩) (v := ?_) hSB0 (fun w' hSw => ?_) ?_; rotate_left; focus (go_simp; try with_reducible rfl))
                simp only [Act.put, sT, sZ, sS]
                refine wpAnyH_done (by kernel_rfl) ?_ _
                go_wp2_with fail
                go_ret
                exact ⟨by rw [HE.out]; rfl, Below.then_ BW.out hSB0⟩
            | false =>
              cases hg2 : y.gone with
              | true =>
                have HE := hide (show sameP a b = false from decide_eq_false fun h => by have h9 := congrArg PairD.gone (HS.out.1 h).1; simp only [PairV.d] at h9; rw [hg, hg2] at h9; cases h9)
                have HG1 := hide hg
                have HG2 := hide hg2
                clear hg hg2
                go_wp2_with fail
                refine wp_region_held_drew (S := fun w' => Below wr.heap.size wr w') (by kernel_rfl) ((Below.refl _ wr).drew) (fun hSB0 => ?_)
                obtain ⟨wrd, hwB⟩ : ∃ x, x = wr.drew := ⟨_, rfl⟩
                rw [← hwB] at hSB0 ⊢
                clear hwB
                (refine tk (i := 0) (oi := ⟨some 16, .move (.tmp 0), 94, "ref.go:184", #[], none⟩) (v := ?_) hSB0 (fun w' hSw => ?_) ?_; rotate_left; focus (go_simp; try with_reducible rfl))
                simp only [Act.put, sT, sZ, sS]
                (refine tk (i := 1) (oi := ⟨some 17, .move (.tmp 5), 3, "ref.go:184", #[], none⟩) (v := ?_) hSB0 (fun w' hSw => ?_) ?_; rotate_left; focus (go_simp; try with_reducible rfl))
                simp only [Act.put, sT, sZ, sS]
                (refine tk (i := 2) (oi := ⟨some 18, .indexAddr 94 (.tmp 16) (.tmp 17), 0, "ref.go:184", #[⟨0, .data⟩, ⟨1, .data⟩], none⟩) (v := ?_) hSB0 (fun w' hSw => ?_) ?_; rotate_left; focus (go_simp; try with_reducible rfl))
                simp only [Act.put, sT, sZ, sS]
                (refine tk (i := 3) (oi := ⟨some 19, .fieldAddr 100 (.tmp 18) 0, 0, "ref.go:184", #[⟨2, .data⟩], none⟩) (v := ?_) hSB0 (fun w' hSw => ?_) ?_; rotate_left; focus (go_simp; try with_reducible rfl))
                simp only [Act.put, sT, sZ, sS]
                (refine tk (i := 4) (oi := ⟨some 20, .load 28 (.tmp 19), 28, "ref.go:184", #[⟨3, .data⟩], none⟩) (v := ?_) hSB0 (fun w' hSw => ?_) ?_; rotate_left; focus (have z : w'.cell? ⟨xb, xo + j * 3, none⟩ = some (.slice x.kA x.kN x.kC) := (by have := (range_under XC.out hSw) 0 (.slice x.kA x.kN x.kC) rfl; simpa using this); go_simp; try with_reducible rfl))
                simp only [Act.put, sT, sZ, sS]
                (refine tk (i := 5) (oi := ⟨some 21, .convert 28 9 (.tmp 20), 9, "ref.go:184", #[⟨4, .data⟩], none⟩) (v := ?_) hSB0 (fun w' hSw => ?_) ?_; rotate_left; focus (have z := run_str w' x.kA x.kN x.kC x.key (XF.out.key.below hSw); rw [← HS1.out] at z; go_simp; try with_reducible rfl))
                simp only [Act.put, sT, sZ, sS]
                (refine tk (i := 6) (oi := ⟨some 22, .move (.tmp 1), 94, "ref.go:184", #[], none⟩) (v := ?_) hSB0 (fun w' hSw => ?_) ?_; rotate_left; focus (go_simp; try with_reducible rfl))
                simp only [Act.put, sT, sZ, sS]
                (refine tk (i := 7) (oi := ⟨some 23, .move (.tmp 5), 3, "ref.go:184", #[], none⟩) (v := ?_) hSB0 (fun w' hSw => ?_) ?_; rotate_left; focus (go_simp; try with_reducible rfl))
                simp only [Act.put, sT, sZ, sS]
                (refine tk (i := 8) (oi := ⟨some 24, .indexAddr 94 (.tmp 22) (.tmp 23), 0, "ref.go:184", #[⟨6, .data⟩, ⟨7, .data⟩], none⟩) (v := ?_) hSB0 (fun w' hSw => ?_) ?_; rotate_left; focus (go_simp; try with_reducible rfl))
                simp only [Act.put, sT, sZ, sS]
                (refine tk (i := 9) (oi := ⟨some 25, .fieldAddr 100 (.tmp 24) 0, 0, "ref.go:184", #[⟨8, .data⟩], none⟩) (v := ?_) hSB0 (fun w' hSw => ?_) ?_; rotate_left; focus (go_simp; try with_reducible rfl))
                simp only [Act.put, sT, sZ, sS]
                (refine tk (i := 10) (oi := ⟨some 26, .load 28 (.tmp 25), 28, "ref.go:184", #[⟨9, .data⟩], none⟩) (v := ?_) hSB0 (fun w' hSw => ?_) ?_; rotate_left; focus (have z : w'.cell? ⟨yb, yo + j * 3, none⟩ = some (.slice y.kA y.kN y.kC) := (by have := (range_under YC.out hSw) 0 (.slice y.kA y.kN y.kC) rfl; simpa using this); go_simp; try with_reducible rfl))
                simp only [Act.put, sT, sZ, sS]
                (refine tk (i := 11) (oi := ⟨some 27, .convert 28 9 (.tmp 26), 9, "ref.go:184", #[⟨10, .data⟩], none⟩) (v := ?_) hSB0 (fun w' hSw => ?_) ?_; rotate_left; focus (have z := run_str w' y.kA y.kN y.kC y.key (YF.out.key.below hSw); rw [← HS2.out] at z; go_simp; try with_reducible rfl))
                simp only [Act.put, sT, sZ, sS]
                (refine tk (i := 12) (oi := ⟨some 28, .binOp .neq 9 (.tmp 21) (.tmp 27) 9, 4, "ref.go:184", #[⟨5, .data⟩, ⟨11, .data⟩], none⟩) (v := ?_) hSB0 (fun w' hSw => ?_) ?_; rotate_left; focus (go_simp; try with_reducible rfl))
                simp only [Act.put, sT, sZ, sS]
                (refine tk (i := 13) (oi := ⟨some 29, .move (.tmp 28), 4, "ref.go:184", #[⟨12, .data⟩], none⟩) (v := ?_) hSB0 (fun w' hSw => ?_) ?_; rotate_left; focus (go_simp; try with_reducible rfl))
                simp only [Act.put, sT, sZ, sS]
                (refine tk (i := 14) (oi := ⟨some 30, .move (.tmp 0), 94, "ref.go:184", #[⟨13, .guard⟩], some (13, false)⟩) (v := ?_) hSB0 (fun w' hSw => ?_) ?_; rotate_left; focus (go_simp; try with_reducible rfl))
                simp only [Act.put, sT, sZ, sS]
                (refine tk (i := 15) (oi := ⟨some 31, .move (.tmp 5), 3, "ref.go:184", #[⟨13, .guard⟩], some (13, false)⟩) (v := ?_) hSB0 (fun w' hSw => ?_) ?_; rotate_left; focus (go_simp; try with_reducible rfl))
                simp only [Act.put, sT, sZ, sS]
                (refine tk (i := 16) (oi := ⟨some 32, .indexAddr 94 (.tmp 30) (.tmp 31), 0, "ref.go:184", #[⟨14, .data⟩, ⟨15, .data⟩, ⟨13, .guard⟩], some (13, false)⟩) (v := ?_) hSB0 (fun w' hSw => ?_) ?_; rotate_left; focus (go_simp; try with_reducible rfl))
                simp only [Act.put, sT, sZ, sS]
                (refine tk (i := 17) (oi := ⟨some 33, .fieldAddr 100 (.tmp 32) 1, 0, "ref.go:184", #[⟨16, .data⟩, ⟨13, .guard⟩], some (13, false)⟩) (v := ?_) hSB0 (fun w' hSw => ?_) ?_; rotate_left; focus (go_simp; try with_reducible rfl))
                simp only [Act.put, sT, sZ, sS]
                (refine tk (i := 18) (oi := ⟨some 34, .load 28 (.tmp 33), 28, "ref.go:184", #[⟨17, .data⟩, ⟨13, .guard⟩], some (13, false)⟩) (v := ?_) hSB0 (fun w' hSw => ?_) ?_; rotate_left; focus (have z : w'.cell? ⟨xb, xo + j * 3 + 1, none⟩ = some (.slice x.vA x.vN x.vC) := (by have := (range_under XC.out hSw) 1 (.slice x.vA x.vN x.vC) rfl; simpa using this); go_simp; try with_reducible rfl))
                simp only [Act.put, sT, sZ, sS]
                (refine tk (i := 19) (oi := ⟨some 35, .convert 28 9 (.tmp 34), 9, "ref.go:184", #[⟨18, .data⟩, ⟨13, .guard⟩], some (13, false)⟩) (v := ?_) hSB0 (fun w' hSw => ?_) ?_; rotate_left; focus (have z := run_str w' x.vA x.vN x.vC x.value (XF.out.value.below hSw); rw [← HV1.out] at z; go_simp; try with_reducible rfl))
                simp only [Act.put, sT, sZ, sS]
                (refine tk (i := 20) (oi := ⟨some 36, .move (.tmp 1), 94, "ref.go:184", #[⟨13, .guard⟩], some (13, false)⟩) (v := ?_) hSB0 (fun w' hSw => ?_) ?_; rotate_left; focus (go_simp; try with_reducible rfl))
                simp only [Act.put, sT, sZ, sS]
                (refine tk (i := 21) (oi := ⟨some 37, .move (.tmp 5), 3, "ref.go:184", #[⟨13, .guard⟩], some (13, false)⟩) (v := ?_) hSB0 (fun w' hSw => ?_) ?_; rotate_left; focus (go_simp; try with_reducible rfl))
                simp only [Act.put, sT, sZ, sS]
                (refine tk (i := 22) (oi := ⟨some 38, .indexAddr 94 (.tmp 36) (.tmp 37), 0, "ref.go:184", #[⟨20, .data⟩, ⟨21, .data⟩, ⟨13, .guard⟩], some (13, false)⟩) (v := ?_) hSB0 (fun w' hSw => ?_) ?_; rotate_left; focus (go_simp; try with_reducible rfl))
                simp only [Act.put, sT, sZ, sS]
                (refine tk (i := 23) (oi := ⟨some 39, .fieldAddr 100 (.tmp 38) 1, 0, "ref.go:184", #[⟨22, .data⟩, ⟨13, .guard⟩], some (13, false)⟩) (v := ?_) hSB0 (fun w' hSw => ?_) ?_; rotate_left; focus (go_simp; try with_reducible rfl))
                simp only [Act.put, sT, sZ, sS]
                (refine tk (i := 24) (oi := ⟨some 40, .load 28 (.tmp 39), 28, "ref.go:184", #[⟨23, .data⟩, ⟨13, .guard⟩], some (13, false)⟩) (v := ?_) hSB0 (fun w' hSw => ?_) ?_; rotate_left; focus (have z : w'.cell? ⟨yb, yo + j * 3 + 1, none⟩ = some (.slice y.vA y.vN y.vC) := (by have := (range_under YC.out hSw) 1 (.slice y.vA y.vN y.vC) rfl; simpa using this); go_simp; try with_reducible rfl))
                simp only [Act.put, sT, sZ, sS]
                (refine tk (i := 25) (oi := ⟨some 41, .convert 28 9 (.tmp 40), 9, "ref.go:184", #[⟨24, .data⟩, ⟨13, .guard⟩], some (13, false)⟩) (v := ?_) hSB0 (fun w' hSw => ?_) ?_; rotate_left; focus (have z := run_str w' y.vA y.vN y.vC y.value (YF.out.value.below hSw); rw [← HV2.out] at z; go_simp; try with_reducible rfl))
                simp only [Act.put, sT, sZ, sS]
                (refine tk (i := 26) (oi := ⟨some 42, .binOp .neq 9 (.tmp 35) (.tmp 41) 9, 4, "ref.go:184", #[⟨19, .data⟩, ⟨25, .data⟩, ⟨13, .guard⟩], some (13, false)⟩) (v := ?_) hSB0 (fun w' hSw => ?_) ?_; rotate_left; focus (go_simp; try with_reducible rfl))
                simp only [Act.put, sT, sZ, sS]
                (refine tk (i := 27) (oi := ⟨some 43, .pick (.tmp 29) (.const (.bool Bool.true)) (.tmp 42), 4, "ref.go:184", #[⟨13, .data⟩, ⟨26, .data⟩], none⟩) (v := ?_) hSB0 (fun w' hSw => ?_) ?_; rotate_left; focus (go_simp; try with_reducible rfl))
                simp only [Act.put, sT, sZ, sS]
                (refine tk (i := 28) (oi := ⟨some 44, .move (.tmp 43), 4, "ref.go:184", #[⟨27, .data⟩, ⟨13, .chain⟩], none⟩) (v := ?_) hSB0 (fun w' hSw => ?_) ?_; rotate_left; focus (go_simp; try with_reducible rfl))
                simp only [Act.put, sT, sZ, sS]
                (refine tk (i := 29) (oi := ⟨some 45, .move (.tmp 0), 94, "ref.go:184", #[⟨28, .guard⟩], some (28, false)⟩) (v := ?_) hSB0 (fun w' hSw => ?_) ?_; rotate_left; focus (go_simp; try with_reducible rfl))
                simp only [Act.put, sT, sZ, sS]
                (refine tk (i := 30) (oi := ⟨some 46, .move (.tmp 5), 3, "ref.go:184", #[⟨28, .guard⟩], some (28, false)⟩) (v := ?_) hSB0 (fun w' hSw => ?_) ?_; rotate_left; focus (go_simp; try with_reducible rfl))
                simp only [Act.put, sT, sZ, sS]
                (refine tk (i := 31) (oi := ⟨some 47, .indexAddr 94 (.tmp 45) (.tmp 46), 0, "ref.go:184", #[⟨29, .data⟩, ⟨30, .data⟩, ⟨28, .guard⟩], some (28, false)⟩) (v := ?_) hSB0 (fun w' hSw => ?_) ?_; rotate_left; focus (go_simp; try with_reducible rfl))
                simp only [Act.put, sT, sZ, sS]
                (refine tk (i := 32) (oi := ⟨some 48, .fieldAddr 100 (.tmp 47) 2, 0, "ref.go:184", #[⟨31, .data⟩, ⟨28, .guard⟩], some (28, false)⟩) (v := ?_) hSB0 (fun w' hSw => ?_) ?_; rotate_left; focus (go_simp; try with_reducible rfl))
                simp only [Act.put, sT, sZ, sS]
                (refine tk (i := 33) (oi := ⟨some 49, .load 4 (.tmp 48), 4, "ref.go:184", #[⟨32, .data⟩, ⟨28, .guard⟩], some (28, false)⟩) (v := ?_) hSB0 (fun w' hSw => ?_) ?_; rotate_left; focus (have z : w'.cell? ⟨xb, xo + j * 3 + 2, none⟩ = some (.bool x.gone) := (by have := (range_under XC.out hSw) 2 (.bool x.gone) rfl; simpa using this); rw [HG1.out] at z; go_simp; try with_reducible rfl))
                simp only [Act.put, sT, sZ, sS]
                (refine tk (i := 34) (oi := ⟨some 50, .move (.tmp 1), 94, "ref.go:184", #[⟨28, .guard⟩], some (28, false)⟩) (v := ?_) hSB0 (fun w' hSw => ?_) ?_; rotate_left; focus (go_simp; try with_reducible rfl))
                simp only [Act.put, sT, sZ, sS]
                (refine tk (i := 35) (oi := ⟨some 51, .move (.tmp 5), 3, "ref.go:184", #[⟨28, .guard⟩], some (28, false)⟩) (v := ?_) hSB0 (fun w' hSw => ?_) ?_; rotate_left; focus (go_simp; try with_reducible rfl))
                simp only [Act.put, sT, sZ, sS]
                (refine tk (i := 36) (oi := ⟨some 52, .indexAddr 94 (.tmp 50) (.tmp 51), 0, "ref.go:184", #[⟨34, .data⟩, ⟨35, .data⟩, ⟨28, .guard⟩], some (28, false)⟩) (v := ?_) hSB0 (fun w' hSw => ?_) ?_; rotate_left; focus (go_simp; try with_reducible rfl))
                simp only [Act.put, sT, sZ, sS]
                (refine tk (i := 37) (oi := ⟨some 53, .fieldAddr 100 (.tmp 52) 2, 0, "ref.go:184", #[⟨36, .data⟩, ⟨28, .guard⟩], some (28, false)⟩) (v := ?_) hSB0 (fun w' hSw => ?_) ?_; rotate_left; focus (go_simp; try with_reducible rfl))
                simp only [Act.put, sT, sZ, sS]
                (refine tk (i := 38) (oi := ⟨some 54, .load 4 (.tmp 53), 4, "ref.go:184", #[⟨37, .data⟩, ⟨28, .guard⟩], some (28, false)⟩) (v := ?_) hSB0 (fun w' hSw => ?_) ?_; rotate_left; focus (have z : w'.cell? ⟨yb, yo + j * 3 + 2, none⟩ = some (.bool y.gone) := (by have := (range_under YC.out hSw) 2 (.bool y.gone) rfl; simpa using this); rw [HG2.out] at z; go_simp; try with_reducible rfl))
                simp only [Act.put, sT, sZ, sS]
                (refine tk (i := 39) (oi := ⟨some 55, .binOp .neq 4 (.tmp 49) (.tmp 54) 4, 4, "ref.go:184", #[⟨33, .data⟩, ⟨38, .data⟩, ⟨28, .guard⟩], some (28, false)⟩) (v := ?_) hSB0 (fun w' hSw => ?_) ?_; rotate_left; focus (go_simp; try with_reducible rfl))
                simp only [Act.put, sT, sZ, sS]
                (refine tk (i := 40) (oi := ⟨some 56, .pick (.tmp 44) (.const (.bool Bool.true)) (.tmp 55), 4, "ref.go:184", #[⟨28, .data⟩, ⟨39, .data⟩], none⟩) (v := ?_) hSB0 (fun w' hSw => ?_) ?_; rotate_left; focus (go_simp; try with_reducible rfl))
                simp only [Act.put, sT, sZ, sS]
                refine wpAnyH_done (by kernel_rfl) ?_ _
                go_wp2_with fail
                go_ret
                exact ⟨by rw [HE.out]; rfl, Below.then_ BW.out hSB0⟩
              | false =>
                have HE := hide (show a = b ↔ a.drop (j + 1) = b.drop (j + 1) from HS.out.trans ⟨fun h => h.2, fun h => ⟨by simp only [PairV.d]; rw [HK.out, HV.out, hg, hg2], h⟩⟩)
                have HG1 := hide hg
                have HG2 := hide hg2
                clear hg hg2
                go_wp2_with fail
                refine wp_region_held_drew (S := fun w' => Below wr.heap.size wr w') (by kernel_rfl) ((Below.refl _ wr).drew) (fun hSA0 => ?_)
                obtain ⟨wrd, hwA⟩ : ∃ x, x = wr.drew := ⟨_, rfl⟩
                rw [← hwA] at hSA0 ⊢
                clear hwA
                (refine tk (i := 0) (oi := ⟨some 16, .move (.tmp 0), 94, "ref.go:184", #[], none⟩) (v := ?_) hSA0 (fun w' hSw => ?_) ?_; rotate_left; focus (go_simp; try with_reducible rfl))
                simp only [Act.put, sT, sZ, sS]
                (refine tk (i := 1) (oi := ⟨some 17, .move (.tmp 5), 3, "ref.go:184", #[], none⟩) (v := ?_) hSA0 (fun w' hSw => ?_) ?_; rotate_left; focus (go_simp; try with_reducible rfl))
                simp only [Act.put, sT, sZ, sS]
                (refine tk (i := 2) (oi := ⟨some 18, .indexAddr 94 (.tmp 16) (.tmp 17), 0, "ref.go:184", #[⟨0, .data⟩, ⟨1, .data⟩], none⟩) (v := ?_) hSA0 (fun w' hSw => ?_) ?_; rotate_left; focus (go_simp; try with_reducible rfl))
                simp only [Act.put, sT, sZ, sS]
                (refine tk (i := 3) (oi := ⟨some 19, .fieldAddr 100 (.tmp 18) 0, 0, "ref.go:184", #[⟨2, .data⟩], none⟩) (v := ?_) hSA0 (fun w' hSw => ?_) ?_; rotate_left; focus (go_simp; try with_reducible rfl))
                simp only [Act.put, sT, sZ, sS]
                (refine tk (i := 4) (oi := ⟨some 20, .load 28 (.tmp 19), 28, "ref.go:184", #[⟨3, .data⟩], none⟩) (v := ?_) hSA0 (fun w' hSw => ?_) ?_; rotate_left; focus (have z : w'.cell? ⟨xb, xo + j * 3, none⟩ = some (.slice x.kA x.kN x.kC) := (by have := (range_under XC.out hSw) 0 (.slice x.kA x.kN x.kC) rfl; simpa using this); go_simp; try with_reducible rfl))
                simp only [Act.put, sT, sZ, sS]
                (refine tk (i := 5) (oi := ⟨some 21, .convert 28 9 (.tmp 20), 9, "ref.go:184", #[⟨4, .data⟩], none⟩) (v := ?_) hSA0 (fun w' hSw => ?_) ?_; rotate_left; focus (have z := run_str w' x.kA x.kN x.kC x.key (XF.out.key.below hSw); rw [← HS1.out] at z; go_simp; try with_reducible rfl))
                simp only [Act.put, sT, sZ, sS]
                (refine tk (i := 6) (oi := ⟨some 22, .move (.tmp 1), 94, "ref.go:184", #[], none⟩) (v := ?_) hSA0 (fun w' hSw => ?_) ?_; rotate_left; focus (go_simp; try with_reducible rfl))
                simp only [Act.put, sT, sZ, sS]
                (refine tk (i := 7) (oi := ⟨some 23, .move (.tmp 5), 3, "ref.go:184", #[], none⟩) (v := ?_) hSA0 (fun w' hSw => ?_) ?_; rotate_left; focus (go_simp; try with_reducible rfl))
                simp only [Act.put, sT, sZ, sS]
                (refine tk (i := 8) (oi := ⟨some 24, .indexAddr 94 (.tmp 22) (.tmp 23), 0, "ref.go:184", #[⟨6, .data⟩, ⟨7, .data⟩], none⟩) (v := ?_) hSA0 (fun w' hSw => ?_) ?_; rotate_left; focus (go_simp; try with_reducible rfl))
                simp only [Act.put, sT, sZ, sS]
                (refine tk (i := 9) (oi := ⟨some 25, .fieldAddr 100 (.tmp 24) 0, 0, "ref.go:184", #[⟨8, .data⟩], none⟩) (v := ?_) hSA0 (fun w' hSw => ?_) ?_; rotate_left; focus (go_simp; try with_reducible rfl))
                simp only [Act.put, sT, sZ, sS]
                (refine tk (i := 10) (oi := ⟨some 26, .load 28 (.tmp 25), 28, "ref.go:184", #[⟨9, .data⟩], none⟩) (v := ?_) hSA0 (fun w' hSw => ?_) ?_; rotate_left; focus (have z : w'.cell? ⟨yb, yo + j * 3, none⟩ = some (.slice y.kA y.kN y.kC) := (by have := (range_under YC.out hSw) 0 (.slice y.kA y.kN y.kC) rfl; simpa using this); go_simp; try with_reducible rfl))
                simp only [Act.put, sT, sZ, sS]
                (refine tk (i := 11) (oi := ⟨some 27, .convert 28 9 (.tmp 26), 9, "ref.go:184", #[⟨10, .data⟩], none⟩) (v := ?_) hSA0 (fun w' hSw => ?_) ?_; rotate_left; focus (have z := run_str w' y.kA y.kN y.kC y.key (YF.out.key.below hSw); rw [← HS2.out] at z; go_simp; try with_reducible rfl))
                simp only [Act.put, sT, sZ, sS]
                (refine tk (i := 12) (oi := ⟨some 28, .binOp .neq 9 (.tmp 21) (.tmp 27) 9, 4, "ref.go:184", #[⟨5, .data⟩, ⟨11, .data⟩], none⟩) (v := ?_) hSA0 (fun w' hSw => ?_) ?_; rotate_left; focus (go_simp; try with_reducible rfl))
                simp only [Act.put, sT, sZ, sS]
                (refine tk (i := 13) (oi := ⟨some 29, .move (.tmp 28), 4, "ref.go:184", #[⟨12, .data⟩], none⟩) (v := ?_) hSA0 (fun w' hSw => ?_) ?_; rotate_left; focus (go_simp; try with_reducible rfl))
                simp only [Act.put, sT, sZ, sS]
                (refine tk (i := 14) (oi := ⟨some 30, .move (.tmp 0), 94, "ref.go:184", #[⟨13, .guard⟩], some (13, false)⟩) (v := ?_) hSA0 (fun w' hSw => ?_) ?_; rotate_left; focus (go_simp; try with_reducible rfl))
                simp only [Act.put, sT, sZ, sS]
                (refine tk (i := 15) (oi := ⟨some 31, .move (.tmp 5), 3, "ref.go:184", #[⟨13, .guard⟩], some (13, false)⟩) (v := ?_) hSA0 (fun w' hSw => ?_) ?_; rotate_left; focus (go_simp; try with_reducible rfl))
                simp only [Act.put, sT, sZ, sS]
                (refine tk (i := 16) (oi := ⟨some 32, .indexAddr 94 (.tmp 30) (.tmp 31), 0, "ref.go:184", #[⟨14, .data⟩, ⟨15, .data⟩, ⟨13, .guard⟩], some (13, false)⟩) (v := ?_) hSA0 (fun w' hSw => ?_) ?_; rotate_left; focus (go_simp; try with_reducible rfl))
                simp only [Act.put, sT, sZ, sS]
                (refine tk (i := 17) (oi := ⟨some 33, .fieldAddr 100 (.tmp 32) 1, 0, "ref.go:184", #[⟨16, .data⟩, ⟨13, .guard⟩], some (13, false)⟩) (v := ?_) hSA0 (fun w' hSw => ?_) ?_; rotate_left; focus (go_simp; try with_reducible rfl))
                simp only [Act.put, sT, sZ, sS]
                (refine tk (i := 18) (oi := ⟨some 34, .load 28 (.tmp 33), 28, "ref.go:184", #[⟨17, .data⟩, ⟨13, .guard⟩], some (13, false)⟩) (v := ?_) hSA0 (fun w' hSw => ?_) ?_; rotate_left; focus (have z : w'.cell? ⟨xb, xo + j * 3 + 1, none⟩ = some (.slice x.vA x.vN x.vC) := (by have := (range_under XC.out hSw) 1 (.slice x.vA x.vN x.vC) rfl; simpa using this); go_simp; try with_reducible rfl))
                simp only [Act.put, sT, sZ, sS]
                (refine tk (i := 19) (oi := ⟨some 35, .convert 28 9 (.tmp 34), 9, "ref.go:184", #[⟨18, .data⟩, ⟨13, .guard⟩], some (13, false)⟩) (v := ?_) hSA0 (fun w' hSw => ?_) ?_; rotate_left; focus (have z := run_str w' x.vA x.vN x.vC x.value (XF.out.value.below hSw); rw [← HV1.out] at z; go_simp; try with_reducible rfl))
                simp only [Act.put, sT, sZ, sS]
                (refine tk (i := 20) (oi := ⟨some 36, .move (.tmp 1), 94, "ref.go:184", #[⟨13, .guard⟩], some (13, false)⟩) (v := ?_) hSA0 (fun w' hSw => ?_) ?_; rotate_left; focus (go_simp; try with_reducible rfl))
                simp only [Act.put, sT, sZ, sS]
                (refine tk (i := 21) (oi := ⟨some 37, .move (.tmp 5), 3, "ref.go:184", #[⟨13, .guard⟩], some (13, false)⟩) (v := ?_) hSA0 (fun w' hSw => ?_) ?_; rotate_left; focus (go_simp; try with_reducible rfl))
                simp only [Act.put, sT, sZ, sS]
                (refine tk (i := 22) (oi := ⟨some 38, .indexAddr 94 (.tmp 36) (.tmp 37), 0, "ref.go:184", #[⟨20, .data⟩, ⟨21, .data⟩, ⟨13, .guard⟩], some (13, false)⟩) (v := ?_) hSA0 (fun w' hSw => ?_) ?_; rotate_left; focus (go_simp; try with_reducible rfl))
                simp only [Act.put, sT, sZ, sS]
                (refine tk (i := 23) (oi := ⟨some 39, .fieldAddr 100 (.tmp 38) 1, 0, "ref.go:184", #[⟨22, .data⟩, ⟨13, .guard⟩], some (13, false)⟩) (v := ?_) hSA0 (fun w' hSw => ?_) ?_; rotate_left; focus (go_simp; try with_reducible rfl))
                simp only [Act.put, sT, sZ, sS]
                (refine tk (i := 24) (oi := ⟨some 40, .load 28 (.tmp 39), 28, "ref.go:184", #[⟨23, .data⟩, ⟨13, .guard⟩], some (13, false)⟩) (v := ?_) hSA0 (fun w' hSw => ?_) ?_; rotate_left; focus (have z : w'.cell? ⟨yb, yo + j * 3 + 1, none⟩ = some (.slice y.vA y.vN y.vC) := (by have := (range_under YC.out hSw) 1 (.slice y.vA y.vN y.vC) rfl; simpa using this); go_simp; try with_reducible rfl))
                simp only [Act.put, sT, sZ, sS]
                (refine tk (i := 25) (oi := ⟨some 41, .convert 28 9 (.tmp 40), 9, "ref.go:184", #[⟨24, .data⟩, ⟨13, .guard⟩], some (13, false)⟩) (v := ?_) hSA0 (fun w' hSw => ?_) ?_; rotate_left; focus (have z := run_str w' y.vA y.vN y.vC y.value (YF.out.value.below hSw); rw [← HV2.out] at z; go_simp; try with_reducible rfl))
                simp only [Act.put, sT, sZ, sS]
                (refine tk (i := 26) (oi := ⟨some 42, .binOp .neq 9 (.tmp 35) (.tmp 41) 9, 4, "ref.go:184", #[⟨19, .data⟩, ⟨25, .data⟩, ⟨13, .guard⟩], some (13, false)⟩) (v := ?_) hSA0 (fun w' hSw => ?_) ?_; rotate_left; focus (go_simp; try with_reducible rfl))
                simp only [Act.put, sT, sZ, sS]
                (refine tk (i := 27) (oi := ⟨some 43, .pick (.tmp 29) (.const (.bool Bool.true)) (.tmp 42), 4, "ref.go:184", #[⟨13, .data⟩, ⟨26, .data⟩], none⟩) (v := ?_) hSA0 (fun w' hSw => ?_) ?_; rotate_left; focus (go_simp; try with_reducible rfl))
                simp only [Act.put, sT, sZ, sS]
                (refine tk (i := 28) (oi := ⟨some 44, .move (.tmp 43), 4, "ref.go:184", #[⟨27, .data⟩, ⟨13, .chain⟩], none⟩) (v := ?_) hSA0 (fun w' hSw => ?_) ?_; rotate_left; focus (go_simp; try with_reducible rfl))
                simp only [Act.put, sT, sZ, sS]
                (refine tk (i := 29) (oi := ⟨some 45, .move (.tmp 0), 94, "ref.go:184", #[⟨28, .guard⟩], some (28, false)⟩) (v := ?_) hSA0 (fun w' hSw => ?_) ?_; rotate_left; focus (go_simp; try with_reducible rfl))
                simp only [Act.put, sT, sZ, sS]
                (refine tk (i := 30) (oi := ⟨some 46, .move (.tmp 5), 3, "ref.go:184", #[⟨28, .guard⟩], some (28, false)⟩) (v := ?_) hSA0 (fun w' hSw => ?_) ?_; rotate_left; focus (go_simp; try with_reducible rfl))
                simp only [Act.put, sT, sZ, sS]
                (refine tk (i := 31) (oi := ⟨some 47, .indexAddr 94 (.tmp 45) (.tmp 46), 0, "ref.go:184", #[⟨29, .data⟩, ⟨30, .data⟩, ⟨28, .guard⟩], some (28, false)⟩) (v := ?_) hSA0 (fun w' hSw => ?_) ?_; rotate_left; focus (go_simp; try with_reducible rfl))
                simp only [Act.put, sT, sZ, sS]
                (refine tk (i := 32) (oi := ⟨some 48, .fieldAddr 100 (.tmp 47) 2, 0, "ref.go:184", #[⟨31, .data⟩, ⟨28, .guard⟩], some (28, false)⟩) (v := ?_) hSA0 (fun w' hSw => ?_) ?_; rotate_left; focus (go_simp; try with_reducible rfl))
                simp only [Act.put, sT, sZ, sS]
                (refine tk (i := 33) (oi := ⟨some 49, .load 4 (.tmp 48), 4, "ref.go:184", #[⟨32, .data⟩, ⟨28, .guard⟩], some (28, false)⟩) (v := ?_) hSA0 (fun w' hSw => ?_) ?_; rotate_left; focus (have z : w'.cell? ⟨xb, xo + j * 3 + 2, none⟩ = some (.bool x.gone) := (by have := (range_under XC.out hSw) 2 (.bool x.gone) rfl; simpa using this); rw [HG1.out] at z; go_simp; try with_reducible rfl))
                simp only [Act.put, sT, sZ, sS]
                (refine tk (i := 34) (oi := ⟨some 50, .move (.tmp 1), 94, "ref.go:184", #[⟨28, .guard⟩], some (28, false)⟩) (v := ?_) hSA0 (fun w' hSw => ?_) ?_; rotate_left; focus (go_simp; try with_reducible rfl))
                simp only [Act.put, sT, sZ, sS]
                (refine tk (i := 35) (oi := ⟨some 51, .move (.tmp 5), 3, "ref.go:184", #[⟨28, .guard⟩], some (28, false)⟩) (v := ?_) hSA0 (fun w' hSw => ?_) ?_; rotate_left; focus (go_simp; try with_reducible rfl))
                simp only [Act.put, sT, sZ, sS]
                (refine tk (i := 36) (oi := ⟨some 52, .indexAddr 94 (.tmp 50) (.tmp 51), 0, "ref.go:184", #[⟨34, .data⟩, ⟨35, .data⟩, ⟨28, .guard⟩], some (28, false)⟩) (v := ?_) hSA0 (fun w' hSw => ?_) ?_; rotate_left; focus (go_simp; try with_reducible rfl))
                simp only [Act.put, sT, sZ, sS]
                (refine tk (i := 37) (oi := ⟨some 53, .fieldAddr 100 (.tmp 52) 2, 0, "ref.go:184", #[⟨36, .data⟩, ⟨28, .guard⟩], some (28, false)⟩) (v := ?_) hSA0 (fun w' hSw => ?_) ?_; rotate_left; focus (go_simp; try with_reducible rfl))
                simp only [Act.put, sT, sZ, sS]
                (refine tk (i := 38) (oi := ⟨some 54, .load 4 (.tmp 53), 4, "ref.go:184", #[⟨37, .data⟩, ⟨28, .guard⟩], some (28, false)⟩) (v := ?_) hSA0 (fun w' hSw => ?_) ?_; rotate_left; focus (have z : w'.cell? ⟨yb, yo + j * 3 + 2, none⟩ = some (.bool y.gone) := (by have := (range_under YC.out hSw) 2 (.bool y.gone) rfl; simpa using this); rw [HG2.out] at z; go_simp; try with_reducible rfl))
                simp only [Act.put, sT, sZ, sS]
                (refine tk (i := 39) (oi := ⟨some 55, .binOp .neq 4 (.tmp 49) (.tmp 54) 4, 4, "ref.go:184", #[⟨33, .data⟩, ⟨38, .data⟩, ⟨28, .guard⟩], some (28, false)⟩) (v := ?_) hSA0 (fun w' hSw => ?_) ?_; rotate_left; focus (go_simp; try with_reducible rfl))
                simp only [Act.put, sT, sZ, sS]
                (refine tk (i := 40) (oi := ⟨some 56, .pick (.tmp 44) (.const (.bool Bool.true)) (.tmp 55), 4, "ref.go:184", #[⟨28, .data⟩, ⟨39, .data⟩], none⟩) (v := ?_) hSA0 (fun w' hSw => ?_) ?_; rotate_left; focus (go_simp; try with_reducible rfl))
                simp only [Act.put, sT, sZ, sS]
                refine wpAnyH_done (by kernel_rfl) ?_ _
                go_wp2_with fail
                exact ⟨⟨j + 1, by have := HLT.out; omega, by go_num, HE.out, Below.then_ BW.out hSA0⟩, by have := HLT.out; simp [intOf]; omega⟩
          · obtain ⟨V2, hV2⟩ : ∃ S, S = ba y.value := ⟨_, rfl⟩
            have HV2 := hide hV2
            have hne : V1.toList ≠ V2.toList := by rw [hV1, hV2]; exact ba_ne XF.out.value.2.1 YF.out.value.2.1 hv
            have hbe : (V1.toList == V2.toList) = false := by simpa using hne
            have HE := hide (show sameP a b = false from decide_eq_false fun h => hv (congrArg PairD.value (HS.out.1 h).1))
            clear hv hV1 hV2
            go_wp2_with fail
            refine wp_region_held_drew (S := fun w' => Below wr.heap.size wr w') (by kernel_rfl) ((Below.refl _ wr).drew) (fun hSC0 => ?_)
            obtain ⟨wrd, hwC⟩ : ∃ x, x = wr.drew := ⟨_, rfl⟩
            rw [← hwC] at hSC0 ⊢
            clear hwC
            (refine tk (i := 0) (oi := ⟨some 16, .move (.tmp 0), 94, "ref.go:184", #[], none⟩) (v := ?_) hSC0 (fun w' hSw => ?_) ?_; rotate_left; focus (go_simp; try with_reducible rfl))
            simp only [Act.put, sT, sZ, sS]
            (refine tk (i := 1) (oi := ⟨some 17, .move (.tmp 5), 3, "ref.go:184", #[], none⟩) (v := ?_) hSC0 (fun w' hSw => ?_) ?_; rotate_left; focus (go_simp; try with_reducible rfl))
            simp only [Act.put, sT, sZ, sS]
            (refine tk (i := 2) (oi := ⟨some 18, .indexAddr 94 (.tmp 16) (.tmp 17), 0, "ref.go:184", #[⟨0, .data⟩, ⟨1, .data⟩], none⟩) (v := ?_) hSC0 (fun w' hSw => ?_) ?_; rotate_left; focus (go_simp; try with_reducible rfl))
            simp only [Act.put, sT, sZ, sS]
            (refine tk (i := 3) (oi := ⟨some 19, .fieldAddr 100 (.tmp 18) 0, 0, "ref.go:184", #[⟨2, .data⟩], none⟩) (v := ?_) hSC0 (fun w' hSw => ?_) ?_; rotate_left; focus (go_simp; try with_reducible rfl))
            simp only [Act.put, sT, sZ, sS]
            (refine tk (i := 4) (oi := ⟨some 20, .load 28 (.tmp 19), 28, "ref.go:184", #[⟨3, .data⟩], none⟩) (v := ?_) hSC0 (fun w' hSw => ?_) ?_; rotate_left; focus (have z : w'.cell? ⟨xb, xo + j * 3, none⟩ = some (.slice x.kA x.kN x.kC) := (by have := (range_under XC.out hSw) 0 (.slice x.kA x.kN x.kC) rfl; simpa using this); go_simp; try with_reducible rfl))
            simp only [Act.put, sT, sZ, sS]
            (refine tk (i := 5) (oi := ⟨some 21, .convert 28 9 (.tmp 20), 9, "ref.go:184", #[⟨4, .data⟩], none⟩) (v := ?_) hSC0 (fun w' hSw => ?_) ?_; rotate_left; focus (have z := run_str w' x.kA x.kN x.kC x.key (XF.out.key.below hSw); rw [← HS1.out] at z; go_simp; try with_reducible rfl))
            simp only [Act.put, sT, sZ, sS]
            (refine tk (i := 6) (oi := ⟨some 22, .move (.tmp 1), 94, "ref.go:184", #[], none⟩) (v := ?_) hSC0 (fun w' hSw => ?_) ?_; rotate_left; focus (go_simp; try with_reducible rfl))
            simp only [Act.put, sT, sZ, sS]
            (refine tk (i := 7) (oi := ⟨some 23, .move (.tmp 5), 3, "ref.go:184", #[], none⟩) (v := ?_) hSC0 (fun w' hSw => ?_) ?_; rotate_left; focus (go_simp; try with_reducible rfl))
            simp only [Act.put, sT, sZ, sS]
            (refine tk (i := 8) (oi := ⟨some 24, .indexAddr 94 (.tmp 22) (.tmp 23), 0, "ref.go:184", #[⟨6, .data⟩, ⟨7, .data⟩], none⟩) (v := ?_) hSC0 (fun w' hSw => ?_) ?_; rotate_left; focus (go_simp; try with_reducible rfl))
            simp only [Act.put, sT, sZ, sS]
            (refine tk (i := 9) (oi := ⟨some 25, .fieldAddr 100 (.tmp 24) 0, 0, "ref.go:184", #[⟨8, .data⟩], none⟩) (v := ?_) hSC0 (fun w' hSw => ?_) ?_; rotate_left; focus (go_simp; try with_reducible rfl))
            simp only [Act.put, sT, sZ, sS]
            (refine tk (i := 10) (oi := ⟨some 26, .load 28 (.tmp 25), 28, "ref.go:184", #[⟨9, .data⟩], none⟩) (v := ?_) hSC0 (fun w' hSw => ?_) ?_; rotate_left; focus (have z : w'.cell? ⟨yb, yo + j * 3, none⟩ = some (.slice y.kA y.kN y.kC) := (by have := (range_under YC.out hSw) 0 (.slice y.kA y.kN y.kC) rfl; simpa using this); go_simp; try with_reducible rfl))
            simp only [Act.put, sT, sZ, sS]
            (refine tk (i := 11) (oi := ⟨some 27, .convert 28 9 (.tmp 26), 9, "ref.go:184", #[⟨10, .data⟩], none⟩) (v := ?_) hSC0 (fun w' hSw => ?_) ?_; rotate_left; focus (have z := run_str w' y.kA y.kN y.kC y.key (YF.out.key.below hSw); rw [← HS2.out] at z; go_simp; try with_reducible rfl))
            simp only [Act.put, sT, sZ, sS]
            (refine tk (i := 12) (oi := ⟨some 28, .binOp .neq 9 (.tmp 21) (.tmp 27) 9, 4, "ref.go:184", #[⟨5, .data⟩, ⟨11, .data⟩], none⟩) (v := ?_) hSC0 (fun w' hSw => ?_) ?_; rotate_left; focus (go_simp; try with_reducible rfl))
            simp only [Act.put, sT, sZ, sS]
            (refine tk (i := 13) (oi := ⟨some 29, .move (.tmp 28), 4, "ref.go:184", #[⟨12, .data⟩], none⟩) (v := ?_) hSC0 (fun w' hSw => ?_) ?_; rotate_left; focus (go_simp; try with_reducible rfl))
            simp only [Act.put, sT, sZ, sS]
            (refine tk (i := 14) (oi := ⟨some 30, .move (.tmp 0), 94, "ref.go:184", #[⟨13, .guard⟩], some (13, false)⟩) (v := ?_) hSC0 (fun w' hSw => ?_) ?_; rotate_left; focus (go_simp; try with_reducible rfl))
            simp only [Act.put, sT, sZ, sS]
            (refine tk (i := 15) (oi := ⟨some 31, .move (.tmp 5), 3, "ref.go:184", #[⟨13, .guard⟩], some (13, false)⟩) (v := ?_) hSC0 (fun w' hSw => ?_) ?_; rotate_left; focus (go_simp; try with_reducible rfl))
            simp only [Act.put, sT, sZ, sS]
            (refine tk (i := 16) (oi := ⟨some 32, .indexAddr 94 (.tmp 30) (.tmp 31), 0, "ref.go:184", #[⟨14, .data⟩, ⟨15, .data⟩, ⟨13, .guard⟩], some (13, false)⟩) (v := ?_) hSC0 (fun w' hSw => ?_) ?_; rotate_left; focus (go_simp; try with_reducible rfl))
            simp only [Act.put, sT, sZ, sS]
            (refine tk (i := 17) (oi := ⟨some 33, .fieldAddr 100 (.tmp 32) 1, 0, "ref.go:184", #[⟨16, .data⟩, ⟨13, .guard⟩], some (13, false)⟩) (v := ?_) hSC0 (fun w' hSw => ?_) ?_; rotate_left; focus (go_simp; try with_reducible rfl))
            simp only [Act.put, sT, sZ, sS]
            (refine tk (i := 18) (oi := ⟨some 34, .load 28 (.tmp 33), 28, "ref.go:184", #[⟨17, .data⟩, ⟨13, .guard⟩], some (13, false)⟩) (v := ?_) hSC0 (fun w' hSw => ?_) ?_; rotate_left; focus (have z : w'.cell? ⟨xb, xo + j * 3 + 1, none⟩ = some (.slice x.vA x.vN x.vC) := (by have := (range_under XC.out hSw) 1 (.slice x.vA x.vN x.vC) rfl; simpa using this); go_simp; try with_reducible rfl))
            simp only [Act.put, sT, sZ, sS]
            (refine tk (i := 19) (oi := ⟨some 35, .convert 28 9 (.tmp 34), 9, "ref.go:184", #[⟨18, .data⟩, ⟨13, .guard⟩], some (13, false)⟩) (v := ?_) hSC0 (fun w' hSw => ?_) ?_; rotate_left; focus (have z := run_str w' x.vA x.vN x.vC x.value (XF.out.value.below hSw); rw [← HV1.out] at z; go_simp; try with_reducible rfl))
            simp only [Act.put, sT, sZ, sS]
            (refine tk (i := 20) (oi := ⟨some 36, .move (.tmp 1), 94, "ref.go:184", #[⟨13, .guard⟩], some (13, false)⟩) (v := ?_) hSC0 (fun w' hSw => ?_) ?_; rotate_left; focus (go_simp; try with_reducible rfl))
            simp only [Act.put, sT, sZ, sS]
            (refine tk (i := 21) (oi := ⟨some 37, .move (.tmp 5), 3, "ref.go:184", #[⟨13, .guard⟩], some (13, false)⟩) (v := ?_) hSC0 (fun w' hSw => ?_) ?_; rotate_left; focus (go_simp; try with_reducible rfl))
            simp only [Act.put, sT, sZ, sS]
            (refine tk (i := 22) (oi := ⟨some 38, .indexAddr 94 (.tmp 36) (.tmp 37), 0, "ref.go:184", #[⟨20, .data⟩, ⟨21, .data⟩, ⟨13, .guard⟩], some (13, false)⟩) (v := ?_) hSC0 (fun w' hSw => ?_) ?_; rotate_left; focus (go_simp; try with_reducible rfl))
            simp only [Act.put, sT, sZ, sS]
            (refine tk (i := 23) (oi := ⟨some 39, .fieldAddr 100 (.tmp 38) 1, 0, "ref.go:184", #[⟨22, .data⟩, ⟨13, .guard⟩], some (13, false)⟩) (v := ?_) hSC0 (fun w' hSw => ?_) ?_; rotate_left; focus (go_simp; try with_reducible rfl))
            simp only [Act.put, sT, sZ, sS]
            (refine tk (i := 24) (oi := ⟨some 40, .load 28 (.tmp 39), 28, "ref.go:184", #[⟨23, .data⟩, ⟨13, .guard⟩], some (13, false)⟩) (v := ?_) hSC0 (fun w' hSw => ?_) ?_; rotate_left; focus (have z : w'.cell? ⟨yb, yo + j * 3 + 1, none⟩ = some (.slice y.vA y.vN y.vC) := (by have := (range_under YC.out hSw) 1 (.slice y.vA y.vN y.vC) rfl; simpa using this); go_simp; try with_reducible rfl))
            simp only [Act.put, sT, sZ, sS]
            (refine tk (i := 25) (oi := ⟨some 41, .convert 28 9 (.tmp 40), 9, "ref.go:184", #[⟨24, .data⟩, ⟨13, .guard⟩], some (13, false)⟩) (v := ?_) hSC0 (fun w' hSw => ?_) ?_; rotate_left; focus (have z := run_str w' y.vA y.vN y.vC y.value (YF.out.value.below hSw); rw [← HV2.out] at z; go_simp; try with_reducible rfl))
            simp only [Act.put, sT, sZ, sS]
            (refine tk (i := 26) (oi := ⟨some 42, .binOp .neq 9 (.tmp 35) (.tmp 41) 9, 4, "ref.go:184", #[⟨19, .data⟩, ⟨25, .data⟩, ⟨13, .guard⟩], some (13, false)⟩) (v := ?_) hSC0 (fun w' hSw => ?_) ?_; rotate_left; focus (go_simp; try with_reducible rfl))
            simp only [Act.put, sT, sZ, sS]
            (refine tk (i := 27) (oi := ⟨some 43, .pick (.tmp 29) (.const (.bool Bool.true)) (.tmp 42), 4, "ref.go:184", #[⟨13, .data⟩, ⟨26, .data⟩], none⟩) (v := ?_) hSC0 (fun w' hSw => ?_) ?_; rotate_left; focus (go_simp; try with_reducible rfl))
            simp only [Act.put, sT, sZ, sS]
            (refine tk (i := 28) (oi := ⟨some 44, .move (.tmp 43), 4, "ref.go:184", #[⟨27, .data⟩, ⟨13, .chain⟩], none⟩) (v := ?_) hSC0 (fun w' hSw => ?_) ?_; rotate_left; focus (go_simp; try with_reducible rfl))
            simp only [Act.put, sT, sZ, sS]
            refine tn (i := 29) (oi := ⟨some 45, .move (.tmp 0), 94, "ref.go:184", #[⟨28, .guard⟩], some (28, false)⟩) hSC0 ?_
            simp only [Act.put, sT, sZ, sS]
            refine tn (i := 30) (oi := ⟨some 46, .move (.tmp 5), 3, "ref.go:184", #[⟨28, .guard⟩], some (28, false)⟩) hSC0 ?_
            simp only [Act.put, sT, sZ, sS]
            refine tn (i := 31) (oi := ⟨some 47, .indexAddr 94 (.tmp 45) (.tmp 46), 0, "ref.go:184", #[⟨29, .data⟩, ⟨30, .data⟩, ⟨28, .guard⟩], some (28, false)⟩) hSC0 ?_
            simp only [Act.put, sT, sZ, sS]
            refine tn (i := 32) (oi := ⟨some 48, .fieldAddr 100 (.tmp 47) 2, 0, "ref.go:184", #[⟨31, .data⟩, ⟨28, .guard⟩], some (28, false)⟩) hSC0 ?_
            simp only [Act.put, sT, sZ, sS]
            refine tn (i := 33) (oi := ⟨some 49, .load 4 (.tmp 48), 4, "ref.go:184", #[⟨32, .data⟩, ⟨28, .guard⟩], some (28, false)⟩) hSC0 ?_
            simp only [Act.put, sT, sZ, sS]
            refine tn (i := 34) (oi := ⟨some 50, .move (.tmp 1), 94, "ref.go:184", #[⟨28, .guard⟩], some (28, false)⟩) hSC0 ?_
            simp only [Act.put, sT, sZ, sS]
            refine tn (i := 35) (oi := ⟨some 51, .move (.tmp 5), 3, "ref.go:184", #[⟨28, .guard⟩], some (28, false)⟩) hSC0 ?_
            simp only [Act.put, sT, sZ, sS]
            refine tn (i := 36) (oi := ⟨some 52, .indexAddr 94 (.tmp 50) (.tmp 51), 0, "ref.go:184", #[⟨34, .data⟩, ⟨35, .data⟩, ⟨28, .guard⟩], some (28, false)⟩) hSC0 ?_
            simp only [Act.put, sT, sZ, sS]
            refine tn (i := 37) (oi := ⟨some 53, .fieldAddr 100 (.tmp 52) 2, 0, "ref.go:184", #[⟨36, .data⟩, ⟨28, .guard⟩], some (28, false)⟩) hSC0 ?_
            simp only [Act.put, sT, sZ, sS]
            refine tn (i := 38) (oi := ⟨some 54, .load 4 (.tmp 53), 4, "ref.go:184", #[⟨37, .data⟩, ⟨28, .guard⟩], some (28, false)⟩) hSC0 ?_
            simp only [Act.put, sT, sZ, sS]
            refine tn (i := 39) (oi := ⟨some 55, .binOp .neq 4 (.tmp 49) (.tmp 54) 4, 4, "ref.go:184", #[⟨33, .data⟩, ⟨38, .data⟩, ⟨28, .guard⟩], some (28, false)⟩) hSC0 ?_
            simp only [Act.put, sT, sZ, sS]
            (refine tk (i := 40) (oi := ⟨some 56, .pick (.tmp 44) (.const (.bool Bool.true)) (.tmp 55), 4, "ref.go:184", #[⟨28, .data⟩, ⟨39, .data⟩], none⟩) (v := ?_) hSC0 (fun w' hSw => ?_) ?_; rotate_left; focus (go_simp; try with_reducible rfl))
            simp only [Act.put, sT, sZ, sS]
            refine wpAnyH_done (by kernel_rfl) ?_ _
            go_wp2_with fail
            go_ret
            exact ⟨by rw [HE.out]; rfl, Below.then_ BW.out hSC0⟩
        · obtain ⟨S2, hS2⟩ : ∃ S, S = ba y.key := ⟨_, rfl⟩
          have HS2 := hide hS2
          have hne : S1.toList ≠ S2.toList := by rw [hS1, hS2]; exact ba_ne XF.out.key.2.1 YF.out.key.2.1 hk
          have hbe : (S1.toList == S2.toList) = false := by simpa using hne
          have HE := hide (show sameP a b = false from decide_eq_false fun h => hk (congrArg PairD.key (HS.out.1 h).1))
          clear hk hS1 hS2
          go_wp2_with fail
          refine wp_region_held_drew (S := fun w' => Below wr.heap.size wr w') (by kernel_rfl) ((Below.refl _ wr).drew) (fun hSD0 => ?_)
          obtain ⟨wrd, hwD⟩ : ∃ x, x = wr.drew := ⟨_, rfl⟩
          rw [← hwD] at hSD0 ⊢
          clear hwD
          (refine tk (i := 0) (oi := ⟨some 16, .move (.tmp 0), 94, "ref.go:184", #[], none⟩) (v := ?_) hSD0 (fun w' hSw => ?_) ?_; rotate_left; focus (go_simp; try with_reducible rfl))
          simp only [Act.put, sT, sZ, sS]
          (refine tk (i := 1) (oi := ⟨some 17, .move (.tmp 5), 3, "ref.go:184", #[], none⟩) (v := ?_) hSD0 (fun w' hSw => ?_) ?_; rotate_left; focus (go_simp; try with_reducible rfl))
          simp only [Act.put, sT, sZ, sS]
          (refine tk (i := 2) (oi := ⟨some 18, .indexAddr 94 (.tmp 16) (.tmp 17), 0, "ref.go:184", #[⟨0, .data⟩, ⟨1, .data⟩], none⟩) (v := ?_) hSD0 (fun w' hSw => ?_) ?_; rotate_left; focus (go_simp; try with_reducible rfl))
          simp only [Act.put, sT, sZ, sS]
          (refine tk (i := 3) (oi := ⟨some 19, .fieldAddr 100 (.tmp 18) 0, 0, "ref.go:184", #[⟨2, .data⟩], none⟩) (v := ?_) hSD0 (fun w' hSw => ?_) ?_; rotate_left; focus (go_simp; try with_reducible rfl))
          simp only [Act.put, sT, sZ, sS]
          (refine tk (i := 4) (oi := ⟨some 20, .load 28 (.tmp 19), 28, "ref.go:184", #[⟨3, .data⟩], none⟩) (v := ?_) hSD0 (fun w' hSw => ?_) ?_; rotate_left; focus (have z : w'.cell? ⟨xb, xo + j * 3, none⟩ = some (.slice x.kA x.kN x.kC) := (by have := (range_under XC.out hSw) 0 (.slice x.kA x.kN x.kC) rfl; simpa using this); go_simp; try with_reducible rfl))
          simp only [Act.put, sT, sZ, sS]
          (refine tk (i := 5) (oi := ⟨some 21, .convert 28 9 (.tmp 20), 9, "ref.go:184", #[⟨4, .data⟩], none⟩) (v := ?_) hSD0 (fun w' hSw => ?_) ?_; rotate_left; focus (have z := run_str w' x.kA x.kN x.kC x.key (XF.out.key.below hSw); rw [← HS1.out] at z; go_simp; try with_reducible rfl))
          simp only [Act.put, sT, sZ, sS]
          (refine tk (i := 6) (oi := ⟨some 22, .move (.tmp 1), 94, "ref.go:184", #[], none⟩) (v := ?_) hSD0 (fun w' hSw => ?_) ?_; rotate_left; focus (go_simp; try with_reducible rfl))
          simp only [Act.put, sT, sZ, sS]
          (refine tk (i := 7) (oi := ⟨some 23, .move (.tmp 5), 3, "ref.go:184", #[], none⟩) (v := ?_) hSD0 (fun w' hSw => ?_) ?_; rotate_left; focus (go_simp; try with_reducible rfl))
          simp only [Act.put, sT, sZ, sS]
          (refine tk (i := 8) (oi := ⟨some 24, .indexAddr 94 (.tmp 22) (.tmp 23), 0, "ref.go:184", #[⟨6, .data⟩, ⟨7, .data⟩], none⟩) (v := ?_) hSD0 (fun w' hSw => ?_) ?_; rotate_left; focus (go_simp; try with_reducible rfl))
          simp only [Act.put, sT, sZ, sS]
          (refine tk (i := 9) (oi := ⟨some 25, .fieldAddr 100 (.tmp 24) 0, 0, "ref.go:184", #[⟨8, .data⟩], none⟩) (v := ?_) hSD0 (fun w' hSw => ?_) ?_; rotate_left; focus (go_simp; try with_reducible rfl))
          simp only [Act.put, sT, sZ, sS]
          (refine tk (i := 10) (oi := ⟨some 26, .load 28 (.tmp 25), 28, "ref.go:184", #[⟨9, .data⟩], none⟩) (v := ?_) hSD0 (fun w' hSw => ?_) ?_; rotate_left; focus (have z : w'.cell? ⟨yb, yo + j * 3, none⟩ = some (.slice y.kA y.kN y.kC) := (by have := (range_under YC.out hSw) 0 (.slice y.kA y.kN y.kC) rfl; simpa using this); go_simp; try with_reducible rfl))
          simp only [Act.put, sT, sZ, sS]
          (refine tk (i := 11) (oi := ⟨some 27, .convert 28 9 (.tmp 26), 9, "ref.go:184", #[⟨10, .data⟩], none⟩) (v := ?_) hSD0 (fun w' hSw => ?_) ?_; rotate_left; focus (have z := run_str w' y.kA y.kN y.kC y.key (YF.out.key.below hSw); rw [← HS2.out] at z; go_simp; try with_reducible rfl))
          simp only [Act.put, sT, sZ, sS]
          (refine tk (i := 12) (oi := ⟨some 28, .binOp .neq 9 (.tmp 21) (.tmp 27) 9, 4, "ref.go:184", #[⟨5, .data⟩, ⟨11, .data⟩], none⟩) (v := ?_) hSD0 (fun w' hSw => ?_) ?_; rotate_left; focus (go_simp; try with_reducible rfl))
          simp only [Act.put, sT, sZ, sS]
          (refine tk (i := 13) (oi := ⟨some 29, .move (.tmp 28), 4, "ref.go:184", #[⟨12, .data⟩], none⟩) (v := ?_) hSD0 (fun w' hSw => ?_) ?_; rotate_left; focus (go_simp; try with_reducible rfl))
          simp only [Act.put, sT, sZ, sS]
          refine tn (i := 14) (oi := ⟨some 30, .move (.tmp 0), 94, "ref.go:184", #[⟨13, .guard⟩], some (13, false)⟩) hSD0 ?_
          simp only [Act.put, sT, sZ, sS]
          refine tn (i := 15) (oi := ⟨some 31, .move (.tmp 5), 3, "ref.go:184", #[⟨13, .guard⟩], some (13, false)⟩) hSD0 ?_
          simp only [Act.put, sT, sZ, sS]
          refine tn (i := 16) (oi := ⟨some 32, .indexAddr 94 (.tmp 30) (.tmp 31), 0, "ref.go:184", #[⟨14, .data⟩, ⟨15, .data⟩, ⟨13, .guard⟩], some (13, false)⟩) hSD0 ?_
          simp only [Act.put, sT, sZ, sS]
          refine tn (i := 17) (oi := ⟨some 33, .fieldAddr 100 (.tmp 32) 1, 0, "ref.go:184", #[⟨16, .data⟩, ⟨13, .guard⟩], some (13, false)⟩) hSD0 ?_
          simp only [Act.put, sT, sZ, sS]
          refine tn (i := 18) (oi := ⟨some 34, .load 28 (.tmp 33), 28, "ref.go:184", #[⟨17, .data⟩, ⟨13, .guard⟩], some (13, false)⟩) hSD0 ?_
          simp only [Act.put, sT, sZ, sS]
          refine tn (i := 19) (oi := ⟨some 35, .convert 28 9 (.tmp 34), 9, "ref.go:184", #[⟨18, .data⟩, ⟨13, .guard⟩], some (13, false)⟩) hSD0 ?_
          simp only [Act.put, sT, sZ, sS]
          refine tn (i := 20) (oi := ⟨some 36, .move (.tmp 1), 94, "ref.go:184", #[⟨13, .guard⟩], some (13, false)⟩) hSD0 ?_
          simp only [Act.put, sT, sZ, sS]
          refine tn (i := 21) (oi := ⟨some 37, .move (.tmp 5), 3, "ref.go:184", #[⟨13, .guard⟩], some (13, false)⟩) hSD0 ?_
          simp only [Act.put, sT, sZ, sS]
          refine tn (i := 22) (oi := ⟨some 38, .indexAddr 94 (.tmp 36) (.tmp 37), 0, "ref.go:184", #[⟨20, .data⟩, ⟨21, .data⟩, ⟨13, .guard⟩], some (13, false)⟩) hSD0 ?_
          simp only [Act.put, sT, sZ, sS]
          refine tn (i := 23) (oi := ⟨some 39, .fieldAddr 100 (.tmp 38) 1, 0, "ref.go:184", #[⟨22, .data⟩, ⟨13, .guard⟩], some (13, false)⟩) hSD0 ?_
          simp only [Act.put, sT, sZ, sS]
          refine tn (i := 24) (oi := ⟨some 40, .load 28 (.tmp 39), 28, "ref.go:184", #[⟨23, .data⟩, ⟨13, .guard⟩], some (13, false)⟩) hSD0 ?_
          simp only [Act.put, sT, sZ, sS]
          refine tn (i := 25) (oi := ⟨some 41, .convert 28 9 (.tmp 40), 9, "ref.go:184", #[⟨24, .data⟩, ⟨13, .guard⟩], some (13, false)⟩) hSD0 ?_
          simp only [Act.put, sT, sZ, sS]
          refine tn (i := 26) (oi := ⟨some 42, .binOp .neq 9 (.tmp 35) (.tmp 41) 9, 4, "ref.go:184", #[⟨19, .data⟩, ⟨25, .data⟩, ⟨13, .guard⟩], some (13, false)⟩) hSD0 ?_
          simp only [Act.put, sT, sZ, sS]
          (refine tk (i := 27) (oi := ⟨some 43, .pick (.tmp 29) (.const (.bool Bool.true)) (.tmp 42), 4, "ref.go:184", #[⟨13, .data⟩, ⟨26, .data⟩], none⟩) (v := ?_) hSD0 (fun w' hSw => ?_) ?_; rotate_left; focus (go_simp; try with_reducible rfl))
          simp only [Act.put, sT, sZ, sS]
          (refine tk (i := 28) (oi := ⟨some 44, .move (.tmp 43), 4, "ref.go:184", #[⟨27, .data⟩, ⟨13, .chain⟩], none⟩) (v := ?_) hSD0 (fun w' hSw => ?_) ?_; rotate_left; focus (go_simp; try with_reducible rfl))
          simp only [Act.put, sT, sZ, sS]
          refine tn (i := 29) (oi := ⟨some 45, .move (.tmp 0), 94, "ref.go:184", #[⟨28, .guard⟩], some (28, false)⟩) hSD0 ?_
          simp only [Act.put, sT, sZ, sS]
          refine tn (i := 30) (oi := ⟨some 46, .move (.tmp 5), 3, "ref.go:184", #[⟨28, .guard⟩], some (28, false)⟩) hSD0 ?_
          simp only [Act.put, sT, sZ, sS]
          refine tn (i := 31) (oi := ⟨some 47, .indexAddr 94 (.tmp 45) (.tmp 46), 0, "ref.go:184", #[⟨29, .data⟩, ⟨30, .data⟩, ⟨28, .guard⟩], some (28, false)⟩) hSD0 ?_
          simp only [Act.put, sT, sZ, sS]
          refine tn (i := 32) (oi := ⟨some 48, .fieldAddr 100 (.tmp 47) 2, 0, "ref.go:184", #[⟨31, .data⟩, ⟨28, .guard⟩], some (28, false)⟩) hSD0 ?_
          simp only [Act.put, sT, sZ, sS]
          refine tn (i := 33) (oi := ⟨some 49, .load 4 (.tmp 48), 4, "ref.go:184", #[⟨32, .data⟩, ⟨28, .guard⟩], some (28, false)⟩) hSD0 ?_
          simp only [Act.put, sT, sZ, sS]
          refine tn (i := 34) (oi := ⟨some 50, .move (.tmp 1), 94, "ref.go:184", #[⟨28, .guard⟩], some (28, false)⟩) hSD0 ?_
          simp only [Act.put, sT, sZ, sS]
          refine tn (i := 35) (oi := ⟨some 51, .move (.tmp 5), 3, "ref.go:184", #[⟨28, .guard⟩], some (28, false)⟩) hSD0 ?_
          simp only [Act.put, sT, sZ, sS]
          refine tn (i := 36) (oi := ⟨some 52, .indexAddr 94 (.tmp 50) (.tmp 51), 0, "ref.go:184", #[⟨34, .data⟩, ⟨35, .data⟩, ⟨28, .guard⟩], some (28, false)⟩) hSD0 ?_
          simp only [Act.put, sT, sZ, sS]
          refine tn (i := 37) (oi := ⟨some 53, .fieldAddr 100 (.tmp 52) 2, 0, "ref.go:184", #[⟨36, .data⟩, ⟨28, .guard⟩], some (28, false)⟩) hSD0 ?_
          simp only [Act.put, sT, sZ, sS]
          refine tn (i := 38) (oi := ⟨some 54, .load 4 (.tmp 53), 4, "ref.go:184", #[⟨37, .data⟩, ⟨28, .guard⟩], some (28, false)⟩) hSD0 ?_
          simp only [Act.put, sT, sZ, sS]
          refine tn (i := 39) (oi := ⟨some 55, .binOp .neq 4 (.tmp 49) (.tmp 54) 4, 4, "ref.go:184", #[⟨33, .data⟩, ⟨38, .data⟩, ⟨28, .guard⟩], some (28, false)⟩) hSD0 ?_
          simp only [Act.put, sT, sZ, sS]
          (refine tk (i := 40) (oi := ⟨some 56, .pick (.tmp 44) (.const (.bool Bool.true)) (.tmp 55), 4, "ref.go:184", #[⟨28, .data⟩, ⟨39, .data⟩], none⟩) (v := ?_) hSD0 (fun w' hSw => ?_) ?_; rotate_left; focus (go_simp; try with_reducible rfl))
          simp only [Act.put, sT, sZ, sS]
          refine wpAnyH_done (by kernel_rfl) ?_ _
          go_wp2_with fail
          go_ret
          exact ⟨by rw [HE.out]; rfl, Below.then_ BW.out hSD0⟩
      · have HJ := hide (show j = n by omega)
        have HS := hide hs
        have j1 : ¬ (j : Int) < (n : Int) := by omega
        clear hs hb hlt
        go_wp2_with fail
        go_ret
        refine ⟨?_, BW.out⟩
        have e : a = b := HS.out.2 (by rw [List.drop_of_length_le (by rw [LA.out, HJ.out]; exact Nat.le_refl _), List.drop_of_length_le (by rw [LB.out, HJ.out]; exact Nat.le_refl _)])
        rw [sameP, decide_eq_true e]
        rfl
  · have hbe : ((n : Int) == (m : Int)) = false := by simp; omega
    have hne : ¬ (n : Int) = (m : Int) := by omega
    have HE := hide (show sameP a b = false from decide_eq_false fun h => hnm (by rw [← LA.out, ← LB.out, h]))
    go_enter Try.func69, Try.ntmps69
    go_wp2_with fail
    go_ret
    exact ⟨by rw [HE.out]; rfl, Below.refl _ _⟩
def greatP (l : List PairD) : Bool := decide (40 < l.length) || l.any fun p => decide (250 < p.key.length) || decide (600 < p.value.length)
theorem great_small {l : List PairD} (h : greatP l = false) : l.length ≤ 40 ∧ psize l ≤ 40000 := by
  simp only [greatP, Bool.or_eq_false_iff, decide_eq_false_iff_not, List.any_eq_false] at h
  have key : ∀ m : List PairD, (∀ p ∈ m, ¬ ((decide (250 < p.key.length) || decide (600 < p.value.length)) = true)) → psize m ≤ 850 * m.length := by
    intro m
    induction m with
    | nil => simp [psize]
    | cons p m ih =>
      intro hm
      have h1 := ih fun q hq => hm q (by simp [hq])
      have h2 := hm p (by simp)
      simp at h2
      rw [psize_cons, List.length_cons]
      omega
  have h2 := key l h.2
  omega
attribute [local go_sem ↓] loadPr_fold
set_option maxHeartbeats 4000000 in
set_option maxRecDepth 100000 in
theorem great_any (w : World) (A : Option Addr) (n c : Nat) (xs : List PairV) (hX : PairsIn w A n xs) :
    Calls Try.prog 66 #[.slice A n c] w fun e w' => e = .returned (.bool (greatP (xs.map PairV.d))) ∧ Below w.heap.size w w' := by
  obtain ⟨L, hL⟩ : ∃ L, L = xs.map PairV.d := ⟨_, rfl⟩
  have HL := hide hL
  have HX := hide hX
  have LN := hide (show L.length = n by rw [hL, List.length_map, hX.1])
  rw [← hL]
  clear hL hX
  by_cases hn : 40 < n
  · have HE := hide (show greatP L = true by rw [greatP, LN.out, decide_eq_true hn]; rfl)
    have n1 : (40 : Int) < (n : Int) := by omega
    go_enter Try.func66, Try.ntmps66
    go_wp2_with fail
    go_ret
    exact ⟨by rw [HE.out]; rfl, Below.refl _ _⟩
  · have HE := hide (show greatP L = (L.drop 0).any fun p => decide (250 < p.key.length) || decide (600 < p.value.length) by rw [greatP, LN.out, decide_eq_false hn]; rfl)
    have n1 : (n : Int) ≤ 40 := by omega
    have HN := hide hn
    clear hn
    go_enter Try.func66, Try.ntmps66
    go_wp2_with fail
    go_loopw [10] (fun i wr => ∃ j : Nat, j ≤ n ∧ i = .int .i64 (j : Int) ∧ greatP L = ((L.drop j).any fun p => decide (250 < p.key.length) || decide (600 < p.value.length)) ∧ Below w.heap.size w wr) (fun i _ => n - (intOf i).toNat)
    case atStart => exact ⟨0, by omega, rfl, HE.out, Below.refl _ _⟩
    case round =>
      clear HE
      obtain ⟨j, hj, rfl, hs, hb⟩ := hrel
      have BW := hide hb
      have XR := hide (HX.out.below' hb)
      by_cases hlt : j < n
      · obtain ⟨xb, xo, hxa, hxr⟩ := XR.out.2.2 (by omega)
        subst hxa
        obtain ⟨x, hx⟩ : ∃ x, xs[j]? = some x := ⟨_, List.getElem?_eq_getElem (by rw [XR.out.1]; exact hlt)⟩
        have XF := hide (XR.out.2.1 x (List.mem_of_getElem? hx))
        have hld := loadPr_run wr xb (xo + j * 3) x (hxr j x hx)
        have HLT := hide hlt
        have hLx : L[j]? = some x.d := by rw [HL.out]; exact pmap_get hx
        have hdr : L.drop j = x.d :: L.drop (j + 1) := by
          obtain ⟨h8, h9⟩ := List.getElem?_eq_some_iff.1 hLx
          rw [List.drop_eq_getElem_cons h8, h9]
        have HS := hide (show greatP L = ((decide (250 < x.kN) || decide (600 < x.vN)) || (L.drop (j + 1)).any fun p => decide (250 < p.key.length) || decide (600 < p.value.length)) by
          rw [hs, hdr, List.any_cons]
          simp only [PairV.d, XF.out.key.1, XF.out.value.1])
        have j0 : (0 : Int) ≤ (j : Int) := by omega
        have j1 : (j : Int) < (n : Int) := by omega
        clear hs hb hx hxr hlt hj hLx hdr
        by_cases hk : 250 < x.kN
        · have HE := hide (show greatP L = true by rw [HS.out, decide_eq_true hk]; simp)
          have k1 : (250 : Int) < (x.kN : Int) := by omega
          have tokA : True := trivial
          have tokB : True := trivial
          go_wp2_with (first
            | (have _t := tokA; clear _t tokA; refine wpList_alloc_agg rfl 100 rfl zeroPr zeroPr_info ?_; simp only [Act.put, sT, sZ, sS])
            | (have _t := tokB; clear _t tokB; refine pr_store rfl _ _ rfl wr rfl (by rfl) x (by rfl) ?_; intro w5 b5 s5 k5; have B5 := hide b5; have y0 := k5.c0; have y1 := k5.c1; clear b5 s5 k5 hld; simp only [Act.put]))
          go_ret
          exact ⟨by rw [HE.out]; rfl, Below.then_ BW.out B5.out⟩
        · have k1 : ¬ (250 : Int) < (x.kN : Int) := by omega
          by_cases hv : 600 < x.vN
          · have HE := hide (show greatP L = true by rw [HS.out, decide_eq_true hv]; simp)
            have v1 : (600 : Int) < (x.vN : Int) := by omega
            have tokA : True := trivial
            have tokB : True := trivial
            go_wp2_with (first
              | (have _t := tokA; clear _t tokA; refine wpList_alloc_agg rfl 100 rfl zeroPr zeroPr_info ?_; simp only [Act.put, sT, sZ, sS])
              | (have _t := tokB; clear _t tokB; refine pr_store rfl _ _ rfl wr rfl (by rfl) x (by rfl) ?_; intro w5 b5 s5 k5; have B5 := hide b5; have y0 := k5.c0; have y1 := k5.c1; clear b5 s5 k5 hld; simp only [Act.put]))
            go_ret
            exact ⟨by rw [HE.out]; rfl, Below.then_ BW.out B5.out⟩
          · have HE := hide (show greatP L = ((L.drop (j + 1)).any fun p => decide (250 < p.key.length) || decide (600 < p.value.length)) by rw [HS.out, decide_eq_false hk, decide_eq_false hv]; rfl)
            have v1 : ¬ (600 : Int) < (x.vN : Int) := by omega
            have tokA : True := trivial
            have tokB : True := trivial
            go_wp2_with (first
              | (have _t := tokA; clear _t tokA; refine wpList_alloc_agg rfl 100 rfl zeroPr zeroPr_info ?_; simp only [Act.put, sT, sZ, sS])
              | (have _t := tokB; clear _t tokB; refine pr_store rfl _ _ rfl wr rfl (by rfl) x (by rfl) ?_; intro w5 b5 s5 k5; have B5 := hide b5; have y0 := k5.c0; have y1 := k5.c1; clear b5 s5 k5 hld; simp only [Act.put]))
            exact ⟨⟨j + 1, by have := HLT.out; omega, by go_num, HE.out, Below.then_ BW.out B5.out⟩, by have := HLT.out; simp [intOf]; omega⟩
      · have HJ := hide (show j = n by omega)
        have HS := hide hs
        have j1 : ¬ (j : Int) < (n : Int) := by omega
        clear hs hb hlt
        go_wp2_with fail
        go_ret
        refine ⟨?_, BW.out⟩
        rw [HS.out, List.drop_of_length_le (by rw [LN.out, HJ.out]; exact Nat.le_refl _)]
        rfl
end Go.Proofs.Ytjnpkcabkccaoaa
