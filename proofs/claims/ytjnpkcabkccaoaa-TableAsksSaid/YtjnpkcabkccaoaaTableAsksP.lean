import Derived.Test.YtjnpkcabkccaoaaPk21
/-
  TableAsks: its walk.
-/
namespace Go.Proofs.Ytjnpkcabkccaoaa
open Go.RowKit

theorem loadBatch_cell {w : World} {b o : Nat} {v : BatchV} (h : w.rangeAt b o v.cells) : w.cell? ⟨b, o, none⟩ = some (.slice v.A v.n v.c) := by have := h 0 _ rfl; simpa using this
attribute [local go_sem ↓] loadPr_fold
set_option maxHeartbeats 16000000 in
set_option maxRecDepth 100000 in
theorem tasks_any (w : World) (A : Option Addr) (n c : Nat) (bs : List BatchV) (hX : BatchesIn w A n bs) (B : Option Addr) (m d : Nat) (pre : List Int) (hB : Bys w B m pre) (hmd : m ≤ d) :
    Calls Try.prog 11 #[.slice A n c, .slice B m d] w fun e w' => e = .returned (.bool true) ∧ Below w.heap.size w w' := by
  have HX := hide hX
  have HB := hide hB
  have HMD := hide hmd
  clear hX hB hmd
  go_enter Try.func11, Try.ntmps11
  go_wp2_with fail
  refine (talive_any w).mono ?_
  rintro e w1 ⟨rfl, b1⟩
  have B1 := hide b1
  clear b1
  by_cases hn : 10 < n
  · have n1 : (10 : Int) < (n : Int) := by omega
    go_wp2_with fail
    go_ret
    exact ⟨rfl, B1.out⟩
  have n1 : ¬ (10 : Int) < (n : Int) := by omega
  have HN := hide (show n ≤ 10 by omega)
  by_cases hm : 100 < m
  · have m1 : (100 : Int) < (m : Int) := by omega
    go_wp2_with fail
    go_ret
    exact ⟨rfl, B1.out⟩
  have m1 : ¬ (100 : Int) < (m : Int) := by omega
  have HM := hide (show m ≤ 100 by omega)
  have n9 : (n : Int) ≤ 10 := by omega
  have m9 : (m : Int) ≤ 100 := by omega
  clear hn hm
  go_wp2_with fail
  refine (new_any w1 300).mono ?_
  rintro e w2 ⟨b, F0, rfl, h2, b2, f2⟩
  have D2 := hide h2
  have B12 := hide b2
  have FR := hide (show ∀ i, F0 i → w.heap.size ≤ i from fun i hi => by have := f2 i hi; have := B1.out.size; omega)
  have B2 := hide (Below.then_ B1.out b2)
  clear h2 b2 f2 n1 m1
  obtain ⟨d1, l1, e1⟩ := open_ok 300 fits_300
  have G1 := hide (show Grew (newDev 300) d1 1700 by have h := openT_grew (newDev 300) (by rw [told_new]; intro p hp; cases hp); rwa [e1] at h)
  have OK1 := hide (openT_some (newDev_good 300) (t := ⟨l1, []⟩) (by rw [e1])).1
  have E1 := hide e1
  clear e1
  go_wp2_with fail
  refine (TOpen_any w w2 b F0 _ D2.out (new_bytes 300) (by rw [show (newDev 300).written = [] from rfl]; decide) B2.out FR.out).mono ?_
  rintro e w3 ⟨F1, hD, hF, ho, hc⟩
  rw [E1.out] at hD hc
  rcases hc with ⟨h9, _⟩ | ⟨T, t, g, hT, rfl, ht, hg, hW⟩
  · cases h9
  have hT' : (⟨l1, []⟩ : TableD) = T := by injection hT
  subst hT'
  have W3 := hide hW
  have HW1 := hide (show d1.Bytes ∧ d1.written.length ≤ 2000 from ⟨G1.out.bytes (new_bytes 300), by have h9 := G1.out.many; have h8 : (newDev 300).written.length = 0 := rfl; omega⟩)
  clear hD hF ho hT ht hg hW E1 G1
  go_wp2_with fail
  go_loopw [8, 36] (fun _ i wr => ∃ (j : Nat) (d' : Dev) (T : TableD) (F' : Nat → Prop), j ≤ n ∧ i = .int .i64 (j : Int) ∧ TabW w wr t g b F' d' T ∧ T.Ok ∧ d'.Bytes ∧ d'.written.length ≤ 2000 + 2600 * j ∧ T.pairs.length ≤ 40 * j) (fun _ i _ => n - (intOf i).toNat)
  case atStart => exact ⟨0, d1, ⟨l1, []⟩, F1, Nat.zero_le _, rfl, W3.out, OK1.out, HW1.out.1, HW1.out.2, Nat.le_refl _⟩
  case round =>
    clear W3 OK1 HW1
    obtain ⟨j, d', T, F', hj, rfl, hW, hOk, hby, hwr, hlen⟩ := hrel
    obtain ⟨wo, rfl⟩ : ∃ wo : World, wo = wr := ⟨_, rfl⟩
    have W := hide hW
    have OK := hide hOk
    have BY := hide hby
    have WR := hide hwr
    have LE := hide hlen
    have BW := hide (show Below w.heap.size w wo by obtain ⟨_, _, _, _, hG⟩ := hW; exact hG.log.below)
    have ND := hide (show d'.room ≤ 2048 by obtain ⟨_, _, _, _, hG⟩ := hW; have := hG.log.dev.good.few; unfold Dev.room; omega)
    have XR := hide (HX.out.below' BW.out)
    have BR := hide (HB.out.below BW.out)
    have j0 : (0 : Int) ≤ (j : Int) := by omega
    clear hW hOk hby hwr hlen
    by_cases hlt : j < n
    · obtain ⟨xb, xo, hxa, hxr⟩ := XR.out.2.2 (by omega)
      subst hxa
      obtain ⟨v, hv⟩ : ∃ v, bs[j]? = some v := ⟨_, List.getElem?_eq_getElem (by rw [XR.out.1]; exact hlt)⟩
      have VF := hide (XR.out.2.1 v (List.mem_of_getElem? hv))
      have hcell : wo.cell? ⟨xb, xo + j, none⟩ = some (.slice v.A v.n v.c) := by
        have := loadBatch_cell (hxr j v hv)
        rwa [Nat.mul_one] at this
      have HLT := hide hlt
      have j1 : (j : Int) < (n : Int) := by omega
      clear hv hxr hlt hj
      go_wp2_with fail
      refine (great_any wo v.A v.n v.c v.xs VF.out.in_).mono ?_
      rintro e w4 ⟨rfl, b4⟩
      have B4 := hide b4
      clear b4 hcell
      cases gg_ : greatP (v.xs.map PairV.d) with
      | true =>
        clear gg_
        go_wp2_with fail
        go_ret
        exact ⟨rfl, Below.then_ BW.out B4.out⟩
      | false =>
        have GR := hide (great_small gg_)
        clear gg_
        have V4 := hide (VF.out.in_.below' B4.out)
        have VN := hide (show v.n ≤ 40 by have := GR.out.1; rw [List.length_map, V4.out.1] at this; exact this)
        go_wp2_with fail
        refine (Apply_any w w4 t g b F' d' T v.A v.n v.c v.xs (W.out.under B4.out) OK.out BY.out (by have := WR.out; have := HLT.out; have := HN.out; omega) V4.out VF.out.cap (by have := VN.out; omega) (by have := GR.out.2; omega)).mono ?_
        rintro e w5 ⟨rfl, F5, hW5, _, _⟩
        have W5 := hide hW5
        have VB := hide (pairs_byts V4.out)
        have PB := hide (show Byts T.pairs by obtain ⟨_, _, _, _, hG⟩ := W.out; rw [← hG.data]; exact pairs_byts hG.keep.in_)
        have GW := hide (applyT_grew d' T (v.xs.map PairV.d) PB.out VB.out)
        have OK5 := hide (applyT_ok (d := d') (l := v.xs.map PairV.d) OK.out ND.out VB.out)
        have ML := hide (merge_keep T d' (v.xs.map PairV.d))
        have HL5 := hide (show (v.xs.map PairV.d).length ≤ 40 from GR.out.1)
        clear hW5
        go_wp2_with fail
        exact ⟨⟨j + 1, _, _, F5, by have := HLT.out; omega, by go_num, W5.out, OK5.out, GW.out.bytes BY.out, by have := GW.out.many; have := WR.out; omega, by have := ML.out; have := LE.out; have := HL5.out; omega⟩, by have := HLT.out; simp [intOf]; omega⟩
    · have j1 : ¬ (j : Int) < (n : Int) := by omega
      have PL := hide (show T.pairs.length ≤ 400 by have := LE.out; have := HN.out; omega)
      clear hlt hj LE WR
      go_wp2_with fail
      refine (TAll_any w wo t g b F' d' T W.out OK.out).mono ?_
      rintro e w4 ⟨A4, k, c4, zs, rfl, hz, hr4, b4⟩
      have HZ := hide hz
      have R4 := hide hr4
      have B4 := hide b4
      have W4 := hide (W.out.under b4)
      have ZS := hide (show PKeep w4 (fun i => i < wo.heap.size) A4 k zs from hr4.stay)
      have KN := hide (show k = T.pairs.length by have := congrArg List.length hz; rw [List.length_map, hr4.len] at this; exact this)
      have SO := hide (right_sorted OK.out.right)
      clear hz hr4 b4
      go_wp2_with fail
      refine (range_from w w4 t g b F' d' T W4.out OK.out none 0 0 [] (Bys.nil _ _) (Nat.le_refl _) (by decide) none 0 0 [] (Bys.nil _ _) (Nat.le_refl _) 1000 (by decide)).mono ?_
      rintro e w5 ⟨A5, k5, c5, us, rfl, hu, hr5, b5⟩
      rw [range_whole SO.out (by have := PL.out; omega)] at hu
      have HU := hide hu
      have U5 := hide hr5.in_
      have B5 := hide (Below.then_ B4.out b5)
      have W5 := hide (W4.out.under b5)
      have Z5 := hide (ZS.out.under b5)
      have K5 := hide (show k5 = T.pairs.length by have := congrArg List.length hu; rw [List.length_map, hr5.len] at this; exact this)
      clear hu hr5 b5
      go_wp2_with fail
      have hs := refSameP_any w5 A5 A4 k5 c5 k c4 us zs U5.out Z5.out.in_ (by have := K5.out; have := PL.out; omega) (by have := KN.out; have := PL.out; omega)
      rw [HU.out, HZ.out, show sameP T.pairs T.pairs = true from decide_eq_true rfl] at hs
      refine hs.mono ?_
      rintro e w6 ⟨rfl, b6⟩
      have B6 := hide (Below.then_ B5.out b6)
      have W6 := hide (W5.out.under b6)
      have Z6 := hide (Z5.out.under b6)
      clear hs b6
      go_wp2_with fail
      have hs := refRight_any w6 A4 k c4 zs Z6.out.in_ (by have := KN.out; have := PL.out; omega) (right_small Z6.out.in_ (by rw [HZ.out]; exact OK.out.right))
      rw [HZ.out, OK.out.right] at hs
      refine hs.mono ?_
      rintro e w7 ⟨rfl, b7⟩
      have B7 := hide (Below.then_ B6.out b7)
      have W7 := hide (W6.out.under b7)
      have Z7 := hide (Z6.out.under b7)
      have k9 : (k : Int) ≤ 400 := by have := KN.out; have := PL.out; omega
      clear hs b7 Z5 Z6 W5 W6 B5 B6 ZS
      go_wp2_with fail
      go_loopw [10, 60] (fun v i wq => ∃ q : Nat, q ≤ k ∧ i = .int .i64 (q : Int) ∧ v = .int .i64 (manyP (T.pairs.take q) pre : Int) ∧ Below w7.heap.size w7 wq) (fun _ i _ => k - (intOf i).toNat)
      case atStart => exact ⟨0, Nat.zero_le _, rfl, rfl, Below.refl _ _⟩
      case round =>
        obtain ⟨q, hq, rfl, rfl, hb⟩ := hrel
        have BQ := hide (Below.then_ B7.out hb)
        have BW7 := hide hb
        have WQ := hide (W7.out.under hb)
        have ZQ := hide (Z7.out.under hb)
        have PQ := hide (BR.out.below BQ.out)
        have q0 : (0 : Int) ≤ (q : Int) := by omega
        clear hb
        by_cases hlt2 : q < k
        · obtain ⟨zb, zo, hza, hzr⟩ := ZQ.out.in_.2.2 (by omega)
          subst hza
          obtain ⟨x, hx⟩ : ∃ x, zs[q]? = some x := ⟨_, List.getElem?_eq_getElem (by rw [ZQ.out.in_.1]; exact hlt2)⟩
          have XF := hide (ZQ.out.in_.2.1 x (List.mem_of_getElem? hx))
          have hld := loadPr_run wr zb (zo + q * 3) x (hzr q x hx)
          have HTX := hide (show T.pairs[q]? = some x.d by rw [← HZ.out]; exact pmap_get hx)
          have HOWN := hide (found_own SO.out HTX.out)
          have HG := hide (show x.gone = false by
            have h9 := List.any_eq_false.1 OK.out.here x.d (List.mem_of_getElem? HTX.out)
            simpa [PairV.d] using h9)
          have XO := hide ((okB_iff _).1 (right_ok OK.out.right x.d (List.mem_of_getElem? HTX.out)))
          have HST := hide (many_step pre HTX.out)
          have HLT2 := hide hlt2
          have MB := hide (show manyP (T.pairs.take q) pre ≤ 400 from Nat.le_trans List.countP_le_length (by rw [List.length_take]; have := PL.out; omega))
          have q1 : (q : Int) < (k : Int) := by omega
          clear hx hzr hlt2 hq
          have tokA : True := trivial
          have tokB : True := trivial
          go_wp2_with (first
            | (have _t := tokA; clear _t tokA; refine wpList_alloc_agg rfl 100 rfl zeroPr zeroPr_info ?_; simp only [Act.put, sT, sZ, sS])
            | (have _t := tokB; clear _t tokB; refine pr_store rfl _ _ rfl wr rfl (by rfl) x (by rfl) ?_; intro w8 b8 s8 k8; have B8 := hide b8; have K8 := hide k8; have y0 := k8.c0; clear b8 s8 k8 hld; simp only [Act.put]))
          clear y0
          have W8 := hide (WQ.out.under B8.out)
          have XF8 := hide (XF.out.below B8.out)
          refine (Get_any w w8 t g b F' d' T W8.out OK.out x.kA x.kN x.kC x.key XF8.out.key XF8.out.kcap).mono ?_
          rintro e w9 ⟨b9, hc⟩
          have h9k : x.d.key = x.key := rfl
          rcases hc with ⟨h9, _⟩ | ⟨p, A9, n9', c9, h9, hp, rfl, hB9, hc9⟩
          · rw [← h9k, HOWN.out.2] at h9; cases h9
          have hpx : p = x.d := by
            rw [← h9k, HOWN.out.1, HTX.out] at hp
            injection hp with hp
            exact hp.symm
          subst hpx
          have Y9 := hide (show Bys w9 A9 n9' x.value from hB9)
          have B89 := hide b9
          have B08 := hide (Below.then_ B8.out b9)
          have XF9 := hide (XF8.out.below b9)
          have K9 := hide (K8.out.under b9)
          have PQ9 := hide (PQ.out.below B08.out)
          clear h9 hp hB9 hc9 b9 h9k
          obtain ⟨SV, hSV⟩ : ∃ S, S = ba x.value := ⟨_, rfl⟩
          have z1 := run_str w9 A9 n9' c9 x.value Y9.out
          have z2 := run_str w9 x.vA x.vN x.vC x.value XF9.out.value
          rw [← hSV] at z1 z2
          have y1 := K9.out.c1
          have y2 := K9.out.c2
          rw [HG.out] at y2
          have BT := hide (Below.then_ BW7.out B08.out)
          clear hSV
          obtain ⟨SP, hSP⟩ : ∃ S, S = ba pre := ⟨_, rfl⟩
          have HSP := hide hSP
          have MQ : (manyP (T.pairs.take q) pre : Int) ≤ 400 := by have := MB.out; omega
          have MQ0 : (0 : Int) ≤ (manyP (T.pairs.take q) pre : Int) := by omega
          obtain ⟨MN, hMN⟩ : ∃ z, z = manyP (T.pairs.take q) pre := ⟨_, rfl⟩
          rw [← hMN] at HST MQ MQ0 ⊢
          clear hMN
          have KL := hide (show x.kN ≤ 200 by have := XO.out.2.1; have h8 := XF9.out.key.1; have h7 : x.key.length ≤ 200 := this; omega)
          by_cases hmk : m ≤ x.kN
          · obtain ⟨A2, hs1, hs2, hBB, _⟩ := slice_head x.kA x.kN x.kC m hmk XF9.out.kcap
            have HBB := hide hBB
            have mk1 : (m : Int) ≤ (x.kN : Int) := by omega
            have mk0 : (0 : Int) ≤ (m : Int) := by omega
            have HPB := hide (show preB pre x.key = decide (x.key.take m = pre) by rw [preB, PQ9.out.1, XF9.out.key.1, decide_eq_true hmk]; rfl)
            clear hBB
            by_cases heq : x.key.take m = pre
            · have HE := hide (show manyP (T.pairs.take (q + 1)) pre = MN + 1 by rw [HST.out, show x.d.key = x.key from rfl, HPB.out, decide_eq_true heq]; rfl)
              have HSQ := hide (show SP = ba (x.key.take m) by rw [hSP, heq])
              clear heq hSP
              go_wp2_with fail
              clear z1 z2 y1 y2
              refine wp_region_held_drew (S := fun w' => Below w9.heap.size w9 w') (by kernel_rfl) ((Below.refl _ w9).drew) (fun hSA0 => ?_)
              obtain ⟨w9d, hwA⟩ : ∃ x, x = w9.drew := ⟨_, rfl⟩
              rw [← hwA] at hSA0 ⊢
              clear hwA
              (refine tk (i := 0) (oi := ⟨some 85, .fieldAddr 100 (.tmp 12) 0, 0, "law.go:241", #[], none⟩) (v := ?_) hSA0 (fun w' hSw => ?_) ?_; rotate_left; focus (go_simp; try with_reducible rfl))
              simp only [Act.put, sT, sZ, sS]
              (refine tk (i := 1) (oi := ⟨some 86, .load 28 (.tmp 85), 28, "law.go:241", #[⟨0, .data⟩], none⟩) (v := ?_) hSA0 (fun w' hSw => ?_) ?_; rotate_left; focus (have z := (K9.out.under hSw).c0; go_simp; try with_reducible rfl))
              simp only [Act.put, sT, sZ, sS]
              (refine tk (i := 2) (oi := ⟨some 87, .call { callee := .builtin .len, args := #[.tmp 86], argTypes := #[28] }, 3, "law.go:241", #[⟨1, .data⟩], none⟩) (v := ?_) hSA0 (fun w' hSw => ?_) ?_; rotate_left; focus (go_simp; try with_reducible rfl))
              simp only [Act.put, sT, sZ, sS]
              (refine tk (i := 3) (oi := ⟨some 88, .move (.tmp 1), 28, "law.go:241", #[], none⟩) (v := ?_) hSA0 (fun w' hSw => ?_) ?_; rotate_left; focus (go_simp; try with_reducible rfl))
              simp only [Act.put, sT, sZ, sS]
              (refine tk (i := 4) (oi := ⟨some 89, .call { callee := .builtin .len, args := #[.tmp 88], argTypes := #[28] }, 3, "law.go:241", #[⟨3, .data⟩], none⟩) (v := ?_) hSA0 (fun w' hSw => ?_) ?_; rotate_left; focus (go_simp; try with_reducible rfl))
              simp only [Act.put, sT, sZ, sS]
              (refine tk (i := 5) (oi := ⟨some 90, .binOp .geq 3 (.tmp 87) (.tmp 89) 3, 4, "law.go:241", #[⟨2, .data⟩, ⟨4, .data⟩], none⟩) (v := ?_) hSA0 (fun w' hSw => ?_) ?_; rotate_left; focus (go_simp; try with_reducible rfl))
              simp only [Act.put, sT, sZ, sS]
              (refine tk (i := 6) (oi := ⟨some 91, .move (.tmp 90), 4, "law.go:241", #[⟨5, .data⟩], none⟩) (v := ?_) hSA0 (fun w' hSw => ?_) ?_; rotate_left; focus (go_simp; try with_reducible rfl))
              simp only [Act.put, sT, sZ, sS]
              (refine tk (i := 7) (oi := ⟨some 92, .fieldAddr 100 (.tmp 12) 0, 0, "law.go:241", #[⟨6, .guard⟩], some (6, true)⟩) (v := ?_) hSA0 (fun w' hSw => ?_) ?_; rotate_left; focus (go_simp; try with_reducible rfl))
              simp only [Act.put, sT, sZ, sS]
              (refine tk (i := 8) (oi := ⟨some 93, .load 28 (.tmp 92), 28, "law.go:241", #[⟨7, .data⟩, ⟨6, .guard⟩], some (6, true)⟩) (v := ?_) hSA0 (fun w' hSw => ?_) ?_; rotate_left; focus (have z := (K9.out.under hSw).c0; go_simp; try with_reducible rfl))
              simp only [Act.put, sT, sZ, sS]
              (refine tk (i := 9) (oi := ⟨some 94, .move (.tmp 1), 28, "law.go:241", #[⟨6, .guard⟩], some (6, true)⟩) (v := ?_) hSA0 (fun w' hSw => ?_) ?_; rotate_left; focus (go_simp; try with_reducible rfl))
              simp only [Act.put, sT, sZ, sS]
              (refine tk (i := 10) (oi := ⟨some 95, .call { callee := .builtin .len, args := #[.tmp 94], argTypes := #[28] }, 3, "law.go:241", #[⟨9, .data⟩, ⟨6, .guard⟩], some (6, true)⟩) (v := ?_) hSA0 (fun w' hSw => ?_) ?_; rotate_left; focus (go_simp; try with_reducible rfl))
              simp only [Act.put, sT, sZ, sS]
              (refine tk (i := 11) (oi := ⟨some 96, .slice 28 (.tmp 93) Option.none (Option.some (.tmp 95)) Option.none, 28, "law.go:241", #[⟨8, .data⟩, ⟨10, .data⟩, ⟨6, .guard⟩], some (6, true)⟩) (v := ?_) hSA0 (fun w' hSw => ?_) ?_; rotate_left; focus (go_simp; try with_reducible rfl))
              simp only [Act.put, sT, sZ, sS]
              (refine tk (i := 12) (oi := ⟨some 97, .convert 28 9 (.tmp 96), 9, "law.go:241", #[⟨11, .data⟩, ⟨6, .guard⟩], some (6, true)⟩) (v := ?_) hSA0 (fun w' hSw => ?_) ?_; rotate_left; focus (have z := run_str w' A2 m x.kC (x.key.take m) (HBB.out w' x.key (XF9.out.key.below hSw)); rw [← HSQ.out] at z; go_simp; try with_reducible rfl))
              simp only [Act.put, sT, sZ, sS]
              (refine tk (i := 13) (oi := ⟨some 98, .move (.tmp 1), 28, "law.go:241", #[⟨6, .guard⟩], some (6, true)⟩) (v := ?_) hSA0 (fun w' hSw => ?_) ?_; rotate_left; focus (go_simp; try with_reducible rfl))
              simp only [Act.put, sT, sZ, sS]
              (refine tk (i := 14) (oi := ⟨some 99, .convert 28 9 (.tmp 98), 9, "law.go:241", #[⟨13, .data⟩, ⟨6, .guard⟩], some (6, true)⟩) (v := ?_) hSA0 (fun w' hSw => ?_) ?_; rotate_left; focus (have z := run_str w' B m d pre (PQ9.out.below hSw); rw [← HSP.out] at z; go_simp; try with_reducible rfl))
              simp only [Act.put, sT, sZ, sS]
              (refine tk (i := 15) (oi := ⟨some 100, .binOp .eql 9 (.tmp 97) (.tmp 99) 9, 4, "law.go:241", #[⟨12, .data⟩, ⟨14, .data⟩, ⟨6, .guard⟩], some (6, true)⟩) (v := ?_) hSA0 (fun w' hSw => ?_) ?_; rotate_left; focus (go_simp; try with_reducible rfl))
              simp only [Act.put, sT, sZ, sS]
              (refine tk (i := 16) (oi := ⟨some 101, .pick (.tmp 91) (.tmp 100) (.const (.bool Bool.false)), 4, "law.go:241", #[⟨6, .data⟩, ⟨15, .data⟩], none⟩) (v := ?_) hSA0 (fun w' hSw => ?_) ?_; rotate_left; focus (go_simp; try with_reducible rfl))
              simp only [Act.put, sT, sZ, sS]
              refine wpAnyH_done (by kernel_rfl) ?_ _
              go_wp2_with fail
              exact ⟨⟨q + 1, by have := HLT2.out; omega, by go_num, by rw [HE.out]; try (first | rfl | go_num), Below.then_ BT.out hSA0⟩, by have := HLT2.out; simp [intOf]; omega⟩
            · have HE := hide (show manyP (T.pairs.take (q + 1)) pre = MN by rw [HST.out, show x.d.key = x.key from rfl, HPB.out, decide_eq_false heq]; rfl)
              obtain ⟨SQ, hSQ⟩ : ∃ S, S = ba (x.key.take m) := ⟨_, rfl⟩
              have HSQ := hide hSQ
              have hne : SQ.toList ≠ SP.toList := by rw [hSQ, hSP]; exact ba_ne (HBB.out w9 x.key XF9.out.key).2.1 PQ9.out.2.1 heq
              have hbe : (SQ.toList == SP.toList) = false := by simpa using hne
              clear heq hSP hSQ
              go_wp2_with fail
              clear z1 z2 y1 y2
              refine wp_region_held_drew (S := fun w' => Below w9.heap.size w9 w') (by kernel_rfl) ((Below.refl _ w9).drew) (fun hSB0 => ?_)
              obtain ⟨w9d, hwB⟩ : ∃ x, x = w9.drew := ⟨_, rfl⟩
              rw [← hwB] at hSB0 ⊢
              clear hwB
              (refine tk (i := 0) (oi := ⟨some 85, .fieldAddr 100 (.tmp 12) 0, 0, "law.go:241", #[], none⟩) (v := ?_) hSB0 (fun w' hSw => ?_) ?_; rotate_left; focus (go_simp; try with_reducible rfl))
              simp only [Act.put, sT, sZ, sS]
              (refine tk (i := 1) (oi := ⟨some 86, .load 28 (.tmp 85), 28, "law.go:241", #[⟨0, .data⟩], none⟩) (v := ?_) hSB0 (fun w' hSw => ?_) ?_; rotate_left; focus (have z := (K9.out.under hSw).c0; go_simp; try with_reducible rfl))
              simp only [Act.put, sT, sZ, sS]
              (refine tk (i := 2) (oi := ⟨some 87, .call { callee := .builtin .len, args := #[.tmp 86], argTypes := #[28] }, 3, "law.go:241", #[⟨1, .data⟩], none⟩) (v := ?_) hSB0 (fun w' hSw => ?_) ?_; rotate_left; focus (go_simp; try with_reducible rfl))
              simp only [Act.put, sT, sZ, sS]
              (refine tk (i := 3) (oi := ⟨some 88, .move (.tmp 1), 28, "law.go:241", #[], none⟩) (v := ?_) hSB0 (fun w' hSw => ?_) ?_; rotate_left; focus (go_simp; try with_reducible rfl))
              simp only [Act.put, sT, sZ, sS]
              (refine tk (i := 4) (oi := ⟨some 89, .call { callee := .builtin .len, args := #[.tmp 88], argTypes := #[28] }, 3, "law.go:241", #[⟨3, .data⟩], none⟩) (v := ?_) hSB0 (fun w' hSw => ?_) ?_; rotate_left; focus (go_simp; try with_reducible rfl))
              simp only [Act.put, sT, sZ, sS]
              (refine tk (i := 5) (oi := ⟨some 90, .binOp .geq 3 (.tmp 87) (.tmp 89) 3, 4, "law.go:241", #[⟨2, .data⟩, ⟨4, .data⟩], none⟩) (v := ?_) hSB0 (fun w' hSw => ?_) ?_; rotate_left; focus (go_simp; try with_reducible rfl))
              simp only [Act.put, sT, sZ, sS]
              (refine tk (i := 6) (oi := ⟨some 91, .move (.tmp 90), 4, "law.go:241", #[⟨5, .data⟩], none⟩) (v := ?_) hSB0 (fun w' hSw => ?_) ?_; rotate_left; focus (go_simp; try with_reducible rfl))
              simp only [Act.put, sT, sZ, sS]
              (refine tk (i := 7) (oi := ⟨some 92, .fieldAddr 100 (.tmp 12) 0, 0, "law.go:241", #[⟨6, .guard⟩], some (6, true)⟩) (v := ?_) hSB0 (fun w' hSw => ?_) ?_; rotate_left; focus (go_simp; try with_reducible rfl))
              simp only [Act.put, sT, sZ, sS]
              (refine tk (i := 8) (oi := ⟨some 93, .load 28 (.tmp 92), 28, "law.go:241", #[⟨7, .data⟩, ⟨6, .guard⟩], some (6, true)⟩) (v := ?_) hSB0 (fun w' hSw => ?_) ?_; rotate_left; focus (have z := (K9.out.under hSw).c0; go_simp; try with_reducible rfl))
              simp only [Act.put, sT, sZ, sS]
              (refine tk (i := 9) (oi := ⟨some 94, .move (.tmp 1), 28, "law.go:241", #[⟨6, .guard⟩], some (6, true)⟩) (v := ?_) hSB0 (fun w' hSw => ?_) ?_; rotate_left; focus (go_simp; try with_reducible rfl))
              simp only [Act.put, sT, sZ, sS]
              (refine tk (i := 10) (oi := ⟨some 95, .call { callee := .builtin .len, args := #[.tmp 94], argTypes := #[28] }, 3, "law.go:241", #[⟨9, .data⟩, ⟨6, .guard⟩], some (6, true)⟩) (v := ?_) hSB0 (fun w' hSw => ?_) ?_; rotate_left; focus (go_simp; try with_reducible rfl))
              simp only [Act.put, sT, sZ, sS]
              (refine tk (i := 11) (oi := ⟨some 96, .slice 28 (.tmp 93) Option.none (Option.some (.tmp 95)) Option.none, 28, "law.go:241", #[⟨8, .data⟩, ⟨10, .data⟩, ⟨6, .guard⟩], some (6, true)⟩) (v := ?_) hSB0 (fun w' hSw => ?_) ?_; rotate_left; focus (go_simp; try with_reducible rfl))
              simp only [Act.put, sT, sZ, sS]
              (refine tk (i := 12) (oi := ⟨some 97, .convert 28 9 (.tmp 96), 9, "law.go:241", #[⟨11, .data⟩, ⟨6, .guard⟩], some (6, true)⟩) (v := ?_) hSB0 (fun w' hSw => ?_) ?_; rotate_left; focus (have z := run_str w' A2 m x.kC (x.key.take m) (HBB.out w' x.key (XF9.out.key.below hSw)); rw [← HSQ.out] at z; go_simp; try with_reducible rfl))
              simp only [Act.put, sT, sZ, sS]
              (refine tk (i := 13) (oi := ⟨some 98, .move (.tmp 1), 28, "law.go:241", #[⟨6, .guard⟩], some (6, true)⟩) (v := ?_) hSB0 (fun w' hSw => ?_) ?_; rotate_left; focus (go_simp; try with_reducible rfl))
              simp only [Act.put, sT, sZ, sS]
              (refine tk (i := 14) (oi := ⟨some 99, .convert 28 9 (.tmp 98), 9, "law.go:241", #[⟨13, .data⟩, ⟨6, .guard⟩], some (6, true)⟩) (v := ?_) hSB0 (fun w' hSw => ?_) ?_; rotate_left; focus (have z := run_str w' B m d pre (PQ9.out.below hSw); rw [← HSP.out] at z; go_simp; try with_reducible rfl))
              simp only [Act.put, sT, sZ, sS]
              (refine tk (i := 15) (oi := ⟨some 100, .binOp .eql 9 (.tmp 97) (.tmp 99) 9, 4, "law.go:241", #[⟨12, .data⟩, ⟨14, .data⟩, ⟨6, .guard⟩], some (6, true)⟩) (v := ?_) hSB0 (fun w' hSw => ?_) ?_; rotate_left; focus (go_simp; try with_reducible rfl))
              simp only [Act.put, sT, sZ, sS]
              (refine tk (i := 16) (oi := ⟨some 101, .pick (.tmp 91) (.tmp 100) (.const (.bool Bool.false)), 4, "law.go:241", #[⟨6, .data⟩, ⟨15, .data⟩], none⟩) (v := ?_) hSB0 (fun w' hSw => ?_) ?_; rotate_left; focus (go_simp; try with_reducible rfl))
              simp only [Act.put, sT, sZ, sS]
              refine wpAnyH_done (by kernel_rfl) ?_ _
              go_wp2_with fail
              exact ⟨⟨q + 1, by have := HLT2.out; omega, by go_num, by rw [HE.out]; try (first | rfl | go_num), Below.then_ BT.out hSB0⟩, by have := HLT2.out; simp [intOf]; omega⟩
          · have HE := hide (show manyP (T.pairs.take (q + 1)) pre = MN by rw [HST.out, show x.d.key = x.key from rfl, preB, PQ9.out.1, XF9.out.key.1, decide_eq_false hmk]; rfl)
            have mk1 : ¬ (m : Int) ≤ (x.kN : Int) := by omega
            clear hSP
            go_wp2_with fail
            clear z1 z2 y1 y2
            refine wp_region_held_drew (S := fun w' => Below w9.heap.size w9 w') (by kernel_rfl) ((Below.refl _ w9).drew) (fun hSC0 => ?_)
            obtain ⟨w9d, hwC⟩ : ∃ x, x = w9.drew := ⟨_, rfl⟩
            rw [← hwC] at hSC0 ⊢
            clear hwC
            (refine tk (i := 0) (oi := ⟨some 85, .fieldAddr 100 (.tmp 12) 0, 0, "law.go:241", #[], none⟩) (v := ?_) hSC0 (fun w' hSw => ?_) ?_; rotate_left; focus (go_simp; try with_reducible rfl))
            simp only [Act.put, sT, sZ, sS]
            (refine tk (i := 1) (oi := ⟨some 86, .load 28 (.tmp 85), 28, "law.go:241", #[⟨0, .data⟩], none⟩) (v := ?_) hSC0 (fun w' hSw => ?_) ?_; rotate_left; focus (have z := (K9.out.under hSw).c0; go_simp; try with_reducible rfl))
            simp only [Act.put, sT, sZ, sS]
            (refine tk (i := 2) (oi := ⟨some 87, .call { callee := .builtin .len, args := #[.tmp 86], argTypes := #[28] }, 3, "law.go:241", #[⟨1, .data⟩], none⟩) (v := ?_) hSC0 (fun w' hSw => ?_) ?_; rotate_left; focus (go_simp; try with_reducible rfl))
            simp only [Act.put, sT, sZ, sS]
            (refine tk (i := 3) (oi := ⟨some 88, .move (.tmp 1), 28, "law.go:241", #[], none⟩) (v := ?_) hSC0 (fun w' hSw => ?_) ?_; rotate_left; focus (go_simp; try with_reducible rfl))
            simp only [Act.put, sT, sZ, sS]
            (refine tk (i := 4) (oi := ⟨some 89, .call { callee := .builtin .len, args := #[.tmp 88], argTypes := #[28] }, 3, "law.go:241", #[⟨3, .data⟩], none⟩) (v := ?_) hSC0 (fun w' hSw => ?_) ?_; rotate_left; focus (go_simp; try with_reducible rfl))
            simp only [Act.put, sT, sZ, sS]
            (refine tk (i := 5) (oi := ⟨some 90, .binOp .geq 3 (.tmp 87) (.tmp 89) 3, 4, "law.go:241", #[⟨2, .data⟩, ⟨4, .data⟩], none⟩) (v := ?_) hSC0 (fun w' hSw => ?_) ?_; rotate_left; focus (go_simp; try with_reducible rfl))
            simp only [Act.put, sT, sZ, sS]
            (refine tk (i := 6) (oi := ⟨some 91, .move (.tmp 90), 4, "law.go:241", #[⟨5, .data⟩], none⟩) (v := ?_) hSC0 (fun w' hSw => ?_) ?_; rotate_left; focus (go_simp; try with_reducible rfl))
            simp only [Act.put, sT, sZ, sS]
            refine tn (i := 7) (oi := ⟨some 92, .fieldAddr 100 (.tmp 12) 0, 0, "law.go:241", #[⟨6, .guard⟩], some (6, true)⟩) hSC0 ?_
            simp only [Act.put, sT, sZ, sS]
            refine tn (i := 8) (oi := ⟨some 93, .load 28 (.tmp 92), 28, "law.go:241", #[⟨7, .data⟩, ⟨6, .guard⟩], some (6, true)⟩) hSC0 ?_
            simp only [Act.put, sT, sZ, sS]
            refine tn (i := 9) (oi := ⟨some 94, .move (.tmp 1), 28, "law.go:241", #[⟨6, .guard⟩], some (6, true)⟩) hSC0 ?_
            simp only [Act.put, sT, sZ, sS]
            refine tn (i := 10) (oi := ⟨some 95, .call { callee := .builtin .len, args := #[.tmp 94], argTypes := #[28] }, 3, "law.go:241", #[⟨9, .data⟩, ⟨6, .guard⟩], some (6, true)⟩) hSC0 ?_
            simp only [Act.put, sT, sZ, sS]
            refine tn (i := 11) (oi := ⟨some 96, .slice 28 (.tmp 93) Option.none (Option.some (.tmp 95)) Option.none, 28, "law.go:241", #[⟨8, .data⟩, ⟨10, .data⟩, ⟨6, .guard⟩], some (6, true)⟩) hSC0 ?_
            simp only [Act.put, sT, sZ, sS]
            refine tn (i := 12) (oi := ⟨some 97, .convert 28 9 (.tmp 96), 9, "law.go:241", #[⟨11, .data⟩, ⟨6, .guard⟩], some (6, true)⟩) hSC0 ?_
            simp only [Act.put, sT, sZ, sS]
            refine tn (i := 13) (oi := ⟨some 98, .move (.tmp 1), 28, "law.go:241", #[⟨6, .guard⟩], some (6, true)⟩) hSC0 ?_
            simp only [Act.put, sT, sZ, sS]
            refine tn (i := 14) (oi := ⟨some 99, .convert 28 9 (.tmp 98), 9, "law.go:241", #[⟨13, .data⟩, ⟨6, .guard⟩], some (6, true)⟩) hSC0 ?_
            simp only [Act.put, sT, sZ, sS]
            refine tn (i := 15) (oi := ⟨some 100, .binOp .eql 9 (.tmp 97) (.tmp 99) 9, 4, "law.go:241", #[⟨12, .data⟩, ⟨14, .data⟩, ⟨6, .guard⟩], some (6, true)⟩) hSC0 ?_
            simp only [Act.put, sT, sZ, sS]
            (refine tk (i := 16) (oi := ⟨some 101, .pick (.tmp 91) (.tmp 100) (.const (.bool Bool.false)), 4, "law.go:241", #[⟨6, .data⟩, ⟨15, .data⟩], none⟩) (v := ?_) hSC0 (fun w' hSw => ?_) ?_; rotate_left; focus (go_simp; try with_reducible rfl))
            simp only [Act.put, sT, sZ, sS]
            refine wpAnyH_done (by kernel_rfl) ?_ _
            go_wp2_with fail
            exact ⟨⟨q + 1, by have := HLT2.out; omega, by go_num, by rw [HE.out]; try (first | rfl | go_num), Below.then_ BT.out hSC0⟩, by have := HLT2.out; simp [intOf]; omega⟩
        · have HQ := hide (show T.pairs.take q = T.pairs from List.take_of_length_le (by have := KN.out; omega))
          have q1 : ¬ (q : Int) < (k : Int) := by omega
          rw [HQ.out]
          have HR := hide (range_many SO.out pre (by have := PL.out; omega))
          have MB := hide (show manyP T.pairs pre ≤ 400 from Nat.le_trans List.countP_le_length PL.out)
          obtain ⟨MN, hMN⟩ : ∃ z, z = manyP T.pairs pre := ⟨_, rfl⟩
          rw [← hMN] at HR MB ⊢
          clear hlt2 hq hMN
          go_wp2_with fail
          refine (range_from w wr t g b F' d' T WQ.out OK.out B m d pre PQ.out HMD.out (by have := HM.out; omega) none 0 0 [] (Bys.nil _ _) (Nat.le_refl _) 1000 (by decide)).mono ?_
          rintro e w8 ⟨A8, k8, c8, vs, rfl, hv, hr8, b8⟩
          have K8 := hide (show k8 = MN by have := congrArg List.length hv; rw [List.length_map, hr8.len, HR.out.1] at this; exact this)
          have W8 := hide (WQ.out.under b8)
          have P8 := hide (PQ.out.below b8)
          have B8 := hide (Below.then_ BQ.out b8)
          clear hv hr8 b8
          go_wp2_with fail
          refine (range_from w w8 t g b F' d' T W8.out OK.out B m d pre P8.out HMD.out (by have := HM.out; omega) none 0 0 [] (Bys.nil _ _) (Nat.le_refl _) 1 (by decide)).mono ?_
          rintro e w9 ⟨A9, k9', c9, us', rfl, hv, hr9, b9⟩
          have K9 := hide (show k9' = min MN 1 by have := congrArg List.length hv; rw [List.length_map, hr9.len, HR.out.2] at this; exact this)
          have B9 := hide (Below.then_ B8.out b9)
          clear hv hr9 b9
          have e8 := K8.out
          have e9 := K9.out
          subst e8
          clear K8 K9
          rcases Nat.eq_zero_or_pos k8 with h0 | h0
          · subst h0
            obtain rfl : k9' = 0 := by omega
            clear e9 MB HR
            go_wp2_with fail
            go_ret
            exact ⟨rfl, Below.then_ BW.out B9.out⟩
          · obtain rfl : k9' = 1 := by omega
            clear e9 MB HR
            by_cases h1 : k8 = 1
            · subst h1
              go_wp2_with fail
              go_ret
              exact ⟨rfl, Below.then_ BW.out B9.out⟩
            · have h2 : ¬ (k8 : Int) ≤ 1 := by omega
              go_wp2_with fail
              go_ret
              exact ⟨rfl, Below.then_ BW.out B9.out⟩
end Go.Proofs.Ytjnpkcabkccaoaa
