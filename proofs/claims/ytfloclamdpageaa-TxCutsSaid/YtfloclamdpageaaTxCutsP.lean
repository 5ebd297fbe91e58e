import Derived.Test.YtfloclamdpageaaPk10
import Derived.Test.YtfloclamdpageaaPk12
/-
  TxCuts: the law's walk.
-/
namespace Go.Proofs.Ytfloclamdpageaa
open Go.RowKit

theorem TxV.bytes_fit {w : World} {t : TxV} (hf : t.Fine w) (h : t.Fit) : t.d.bytes.length ≤ 700000 := by
  have h1 := (cnt_length t.ins.length).2
  have h2 := (cnt_length t.outs.length).2
  have h3 := flatMap_len (fun a : InV => a.d.bytes) t.ins 10100 (fun a ha => InV.bytes_len a (hf.ins.2.1 a ha).ref (by have h3 := (hf.ins.2.1 a ha).bys.1; have h4 := h.unlock a ha; omega))
  have h4 := flatMap_len (fun a : OutV => a.d.bytes) t.outs 10100 (fun a ha => OutV.bytes_len a (by have h3 := (hf.outs.2.1 a ha).bys.1; have h4 := h.lock a ha; omega))
  have h5 := hf.ins.1
  have h6 := hf.outs.1
  have h7 := h.ins
  have h8 := h.outs
  have h9 : 10100 * t.ins.length ≤ 10100 * 30 := Nat.mul_le_mul_left _ (by omega)
  have h10 : 10100 * t.outs.length ≤ 10100 * 30 := Nat.mul_le_mul_left _ (by omega)
  rw [TxD.bytes_eq]
  simp only [List.length_append, dig_length]
  omega
theorem TxV.Fit.ok {w : World} {t : TxV} (h : t.Fit) (hf : t.Fine w) : t.d.Ok := TxV.ok hf (by have := h.ins; omega) (by have := h.outs; omega) h.unlock h.lock
attribute [local go_sem ↓] mkTx_fold loadTx_fold
attribute [local go_sem] mkTx_zero
set_option maxHeartbeats 8000000 in
set_option maxRecDepth 100000 in
theorem txcuts_any (w : World) (a b : TxV) (k : Int) (ha : a.Fine w) (hb : b.Fine w) :
    Calls Try.prog 11 #[.agg a.cells.toArray, .agg b.cells.toArray, .int .i64 k] w fun e w' => e = .returned (.bool true) ∧ Below w.heap.size w w' := by
  have T0 := (Blk.new w 65 a.cells).alloc (.cells b.cells.toArray 65)
  have U0 := Blk.new1 w (.cells a.cells.toArray 65) 65 b.cells
  have hw : Below w.heap.size w ((w.alloc (.cells a.cells.toArray 65)).alloc (.cells b.cells.toArray 65)) := below_alloc (below_alloc (Below.refl _ _) _) _
  have HA := hide (ha.below hw)
  have HB := hide (hb.below hw)
  have HW := hide hw
  have HT := hide T0
  have HU := hide U0
  have hI := isTx
  clear ha hb hw T0 U0
  go_enter Try.func11, Try.ntmps11
  go_wp2_with fail
  obtain ⟨p0, hp0⟩ : ∃ p, p = w.heap.size := ⟨_, rfl⟩
  obtain ⟨p1, hp1⟩ : ∃ p, p = w.heap.size + 1 := ⟨_, rfl⟩
  obtain ⟨w1, hw1⟩ : ∃ x, x = (w.alloc (.cells a.cells.toArray 65)).alloc (.cells b.cells.toArray 65) := ⟨_, rfl⟩
  rw [← hw1] at HA HB HW HT HU ⊢
  rw [← hp1] at HU ⊢
  rw [← hp0] at HT ⊢
  clear hw1
  have HP01 := hide (show p0 = w.heap.size ∧ p1 = w.heap.size + 1 from ⟨hp0, hp1⟩)
  clear hp0 hp1
  refine (txAlive_any _).mono ?_
  rintro e w2 ⟨rfl, b2⟩
  have HB2 := hide b2
  have l0 := loadTx_run w2 p0 0 a (range_under HT.out.whole b2)
  clear b2
  go_wp2_with fail
  refine (great_any w2 a (HA.out.below HB2.out)).mono ?_
  rintro e w3 ⟨g1, rfl, hg1, b3⟩
  have HB3 := hide (Below.then_ HB2.out b3)
  have l1 := loadTx_run w3 p1 0 b (range_under HU.out.whole HB3.out)
  clear b3 l0
  cases g1 with
  | true =>
    go_wp2_with fail
    go_ret
    exact ⟨rfl, Below.then_ HW.out HB3.out⟩
  | false =>
    have FA := hide (hg1 rfl)
    clear hg1
    go_wp2_with fail
    refine (great_any w3 b (HB.out.below HB3.out)).mono ?_
    rintro e w4 ⟨g2, rfl, hg2, b4⟩
    have HB4 := hide (Below.then_ HB3.out b4)
    have l0 := loadTx_run w4 p0 0 a (range_under HT.out.whole HB4.out)
    clear b4 l1
    cases g2 with
    | true =>
      go_wp2_with fail
      go_ret
      exact ⟨rfl, Below.then_ HW.out HB4.out⟩
    | false =>
      have FB := hide (hg2 rfl)
      clear hg2
      go_wp2_with fail
      refine (TBytes_any w4 a (HA.out.below HB4.out) FA.out.small).mono ?_
      rintro e w5 ⟨A5, n5, c5, rfl, t5, f5⟩
      have M5 := hide t5
      have HB15 := hide (Below.then_ HB4.out t5.below)
      have HB5 := hide (Below.then_ HW.out HB15.out)
      have HL := hide (show n5 ≤ 700000 by rw [← t5.len]; exact TxV.bytes_fit HA.out FA.out)
      have HLB := hide (show b.d.bytes.length ≤ 700000 from TxV.bytes_fit HB.out FB.out)
      have OKA := hide (fun rest => tx_back a.d (FA.out.ok HA.out) rest)
      have OKB := hide (show Rd.tx ⟨b.d.bytes, 0⟩ = (b.d, ⟨[], 0⟩) by have := tx_back b.d (FB.out.ok HB.out) []; rwa [List.append_nil] at this)
      have OKC := hide (fun k (hk : k < a.d.bytes.length) => parseT_cut a.d (FA.out.ok HA.out) k hk)
      have TA := hide (range_under HT.out.whole HB15.out)
      have TB := hide (range_under HU.out.whole HB15.out)
      have HA := hide (HA.out.below HB15.out)
      have HB := hide (HB.out.below HB15.out)
      clear t5 f5 l0
      by_cases hk : k < 0 ∨ (n5 : Int) ≤ k
      · rcases hk with hk | hk
        · have hk1 : ¬ (0 ≤ k) := by omega
          have HJ5 := hide (Below.refl w5.heap.size w5)
          go_wp2_with fail
          refine wp_region_held_drew (S := fun w' => Below w5.heap.size w5 w') (by kernel_rfl) (by exact (Below.refl _ _).drew) (fun hSR0 => ?_)
          obtain ⟨w5d, hwR⟩ : ∃ x, x = w5.drew := ⟨_, rfl⟩
          rw [← hwR] at hSR0 ⊢
          have hDR : Below w5.heap.size w5 w5d := by rw [hwR]; exact (Below.refl _ _).drew
          clear hwR
          (refine wpAnyH_take (i := 1) (oi := { dst := Option.some 47, op := Go.Op.move (Go.Operand.tmp 7), type := 22, pos := "law.go:141", after := #[], guard := Option.none }) (v := ?_) rfl (by kernel_rfl) (by kernel_rfl) (by kernel_rfl) (fun _ _ _ h => h) (Or.inl ⟨by rfl, fun w' hSw => ?_⟩) hSR0 ?_; rotate_left; focus (go_simp; try with_reducible rfl))
          simp only [Act.put, List.setIfInBounds_toArray, List.set_cons_zero, List.set_cons_succ]
          (refine wpAnyH_take (i := 3) (oi := { dst := Option.some 49, op := Go.Op.load 65 (Go.Operand.tmp 4), type := 65, pos := "law.go:141", after := #[], guard := Option.none }) (v := ?_) rfl (by kernel_rfl) (by kernel_rfl) (by kernel_rfl) (fun _ _ _ h => h) (Or.inl ⟨by rfl, fun w' hSw => ?_⟩) hSR0 ?_; rotate_left; focus (have hl := loadTx_run w' p1 0 b (range_under (range_under TB.out HJ5.out) hSw); go_simp; try with_reducible rfl))
          simp only [Act.put, List.setIfInBounds_toArray, List.set_cons_zero, List.set_cons_succ]
          refine wpAnyH_ready (rs := [0]) (by kernel_rfl) (by simp) ?_
          refine AllReadyH.cons rfl (fun K hK => ?_) AllReadyH.nil
          go_simp
          refine hK.out _ _ (below_alloc hSR0 _) (fun hSR1 => ?_)
          clear hK K
          refine wpAnyH_ready (rs := [2]) (by kernel_rfl) (by simp) ?_
          refine AllReadyH.cons rfl (fun K hK => ?_) AllReadyH.nil
          refine step_app (by rfl) _ (by rfl) _ _ (by rfl) w5 _ 0 0 [] (by rfl) (Mine.nil hSR1 _) A5 n5 c5 a.d.bytes (by rfl) (M5.out.bys.below (Below.then_ HJ5.out hSR1)) (by have := HL.out; omega) ?_; intro A6 n6 c6 w6 t6 f6
          refine hK.out _ _ (t6.below) (fun hSR2 => ?_)
          clear hK K
          refine wpAnyH_ready (rs := [4]) (by kernel_rfl) (by simp) ?_
          refine AllReadyH.cons rfl (fun K hK => ?_) AllReadyH.nil
          go_simp
          go_wp2_with (go_at_call 41; refine (TBytes_any w6 b (HB.out.below (Below.then_ HJ5.out hSR2)) FB.out.small).mono ?_; rintro e w7 ⟨A7, n7, c7, rfl, t7, f7⟩)
          refine hK.out _ _ (Below.then_ hSR2 t7.below) (fun hSR3 => ?_)
          clear hK K
          refine wpAnyH_ready (rs := [5]) (by kernel_rfl) (by simp) ?_
          refine AllReadyH.cons rfl (fun K hK => ?_) AllReadyH.nil
          refine step_app (by rfl) _ (by rfl) _ _ (by rfl) w5 A6 n6 c6 _ (by rfl) (t6.keep t7.below) A7 n7 c7 _ (by rfl) t7.bys (by have := HL.out; have := HLB.out; have e6 := t6.len; have e7 := t7.len; rw [List.nil_append, M5.out.len] at e6; omega) ?_; intro A8 n8 c8 w8 t8 f8
          refine hK.out _ _ (t8.below) (fun hSR4 => ?_)
          clear hK K
          refine wpAnyH_ready (rs := [6]) (by kernel_rfl) (by simp) ?_
          refine AllReadyH.cons rfl (fun K hK => ?_) AllReadyH.nil
          go_simp
          go_wp2_with (go_at_call 31; refine (New_any w8 A8 n8 c8 _ t8.bys (by have := HL.out; have := HLB.out; have e8 := t8.len; have e5 := M5.out.len; simp only [List.nil_append, List.length_append] at e8; omega)).mono ?_; rintro e w9 ⟨g9, h9, rfl, RD9, hg9, hh9, b9⟩)
          refine hK.out _ _ (Below.then_ hSR4 b9) (fun hSR5 => ?_)
          clear hK K
          (refine wpAnyH_take (i := 7) (oi := { dst := Option.some 10, op := Go.Op.assign (Go.Operand.tmp 52), type := 51, pos := "law.go:141", after := #[{ on := 6, ground := Go.Ground.data }, { on := 6, ground := Go.Ground.chain }, { on := 0, ground := Go.Ground.phase }, { on := 1, ground := Go.Ground.phase }, { on := 2, ground := Go.Ground.phase }, { on := 3, ground := Go.Ground.phase }, { on := 4, ground := Go.Ground.phase }, { on := 5, ground := Go.Ground.phase }, { on := 6, ground := Go.Ground.phase }], guard := Option.none }) (v := ?_) rfl (by kernel_rfl) (by kernel_rfl) (by kernel_rfl) (fun _ _ _ h => h) (Or.inl ⟨by rfl, fun w' hSw => ?_⟩) hSR5 ?_; rotate_left; focus (go_simp; try with_reducible rfl))
          simp only [Act.put, List.setIfInBounds_toArray, List.set_cons_zero, List.set_cons_succ]
          refine wpAnyH_done (by kernel_rfl) ?_ _

          have BW9 := hide (Below.then_ HJ5.out hSR5)
          have hg := hide (show w5.heap.size ≤ g9 ∧ w5.heap.size ≤ h9 by have h1 := t8.below.size; have h2 := HJ5.out.size; omega)
          rw [List.nil_append] at RD9
          have RDlt := hide RD9.lt
          have HR9 := hide RD9
          clear hg9 hh9 RD9 b9 t8 f8 t7 f7 t6 f6 hSR5 hSR0 hSR1 hSR2 hSR3 hSR4 hDR
          go_wp2_with fail
          refine (TRead_any w9 g9 h9 _ HR9.out).mono ?_
          rintro e w10 ⟨V3, rfl, hd3, hf3, hs3, hR10, o10⟩
          rw [OKA.out b.d.bytes] at hd3 hR10
          simp only at hd3 hR10
          have BW10 := hide (show Below w5.heap.size w5 w10 from BW9.out.trans (o10.below BW9.out.size (fun i hi e => by have h8 : i = g9 := e; have := hg.out; omega)))
          have hs910 := hide o10.size
          have HF3 := hide hf3
          have HR10 := hide hR10
          clear hf3 hR10 o10
          go_wp2_with fail
          refine (TRead_any w10 g9 h9 _ HR10.out).mono ?_
          rintro e w11 ⟨V4, rfl, hd4, hf4, hs4, hR11, o11⟩
          rw [OKB.out] at hd4 hR11
          simp only at hd4 hR11
          have BW11 := hide (show Below w5.heap.size w5 w11 from BW10.out.trans (o11.below BW10.out.size (fun i hi e => by have h8 : i = g9 := e; have := hg.out; omega)))
          have O11 := hide o11
          have HF4 := hide hf4
          have HR11 := hide hR11
          have hSA : V3.d.same a.d = true := by rw [hd3]; exact TxD.same_refl _
          have hSB : V4.d.same b.d = true := by rw [hd4]; exact TxD.same_refl _
          clear hf4 hR11 o11 hd3 hd4
          obtain ⟨q9, hq9⟩ : ∃ p, p = w11.heap.size := ⟨_, rfl⟩
          obtain ⟨q10, hq10⟩ : ∃ p, p = w11.heap.size + 1 := ⟨_, rfl⟩
          obtain ⟨wa, hwa⟩ : ∃ x, x = (w11.alloc (.cells zeroV.cells.toArray 65)).alloc (.cells zeroV.cells.toArray 65) := ⟨_, rfl⟩
          have UA := hide (show Blk wa q9 65 zeroV.cells by rw [hwa, hq9]; exact (Blk.new w11 65 zeroV.cells).alloc _)
          have UB := hide (show Blk wa q10 65 zeroV.cells by rw [hwa, hq10]; exact Blk.new1 w11 _ 65 zeroV.cells)
          have BA := hide (show Below w11.heap.size w11 wa by rw [hwa]; exact below_alloc (below_alloc (Below.refl _ _) _) _)
          have HP := hide (show q9 = w11.heap.size ∧ q10 = w11.heap.size + 1 from ⟨hq9, hq10⟩)
          go_wp2_with (first
            | (refine wpList_alloc_agg rfl 65 rfl zeroV.cells zeroTx_info ?_; simp only [Act.put, List.setIfInBounds_toArray, List.set_cons_zero, List.set_cons_succ, World.size_alloc])
            | (rw [← hwa, ← hq10, ← hq9]; refine wpList_store_blk rfl 65 _ _ rfl q9 0 65 zeroV.cells V3.cells (by rfl) (by rfl) UA.out (Nat.le_refl _) (by exact hI) (TxV.one V3) ?_; intro wb ob zb bb; rw [lay_all zeroV.cells V3.cells (by rfl)] at bb; have UBb := hide (ob.blk UB.out (by have := HP.out; omega)); have P11 := hide bb; have BWb := hide (show Below w11.heap.size w11 wb from BA.out.trans (ob.below BA.out.size (fun i hi e => by have h9 : i = q9 := e; have := HP.out; omega))); clear hwa ob zb bb UA UB BA; simp only [Act.put])
            | (refine wpList_store_blk rfl 65 _ _ rfl q10 0 65 zeroV.cells V4.cells (by rfl) (by rfl) UBb.out (Nat.le_refl _) (by exact hI) (TxV.one V4) ?_; intro w12 o12 z12 b12; rw [lay_all zeroV.cells V4.cells (by rfl)] at b12; have P10 := hide b12; have P9 := hide (o12.blk P11.out (by have := HP.out; omega)); have BX := hide (show Below w11.heap.size w11 w12 from BWb.out.trans (o12.below BWb.out.size (fun i hi e => by have h9 : i = q10 := e; have := HP.out; omega))); have l9 := loadTx_run w12 q9 0 V3 P9.out.whole; have l0 := loadTx_run w12 p0 0 a (range_under TA.out (BW11.out.trans (BX.out.mono BW11.out.size))); clear o12 z12 b12 UBb P11 BWb hq9 hq10; simp only [Act.put]))
          have BW12 := hide (show Below w5.heap.size w5 w12 from BW11.out.trans (BX.out.mono BW11.out.size))
          have F3 := HF3.out w12 ((O11.out.mono (fun i _ h => by have h8 : i = g9 := h; have := RDlt.out; omega)).trans (Only.of_below BX.out (fun i => i < w9.heap.size)) (fun _ _ h => h))
          have F4 := hide (HF4.out w12 (Only.of_below BX.out _))
          have HR12 := hide (HR11.out.below BX.out)
          refine (TSame_any w12 V3 a F3 (HA.out.below BW12.out) hs3 FA.out.small).mono ?_
          rintro e w13 ⟨rfl, b13⟩
          rw [hSA]
          have l10 := loadTx_run w13 q10 0 V4 (range_under P10.out.whole b13)
          have l1 := loadTx_run w13 p1 0 b (range_under TB.out (BW12.out.trans (b13.mono BW12.out.size)))
          have BW13 := hide (show Below w5.heap.size w5 w13 from BW12.out.trans (b13.mono BW12.out.size))
          have HR13 := hide (HR12.out.below b13)
          have F4 := hide (F4.out.below b13)
          clear b13 l9 l0 F3
          go_wp2_with fail
          refine (TSame_any w13 V4 b F4.out (HB.out.below BW13.out) hs4 FB.out.small).mono ?_
          rintro e w14 ⟨rfl, b14⟩
          rw [hSB]
          have hfin := hide (show Below w.heap.size w w14 from Below.then_ HB5.out (BW13.out.trans (b14.mono BW13.out.size)))
          have HR14 := hide (HR13.out.below b14)
          clear b14 l10 l1
          go_wp2_with fail
          refine (Left_any w14 g9 h9 _ HR14.out).mono ?_
          rintro e w15 ⟨rfl, rfl⟩
          go_wp2_with fail
          refine (Err_any w14 g9 h9 _ HR14.out).mono ?_
          rintro e w15 ⟨rfl, rfl⟩
          go_wp2_with fail
          go_ret
          exact ⟨rfl, hfin.out⟩
        · have hk0 : 0 ≤ k := by omega
          have hk1 : ¬ (k < (n5 : Int)) := by omega
          have HJ5 := hide (Below.refl w5.heap.size w5)
          go_wp2_with fail
          refine wp_region_held_drew (S := fun w' => Below w5.heap.size w5 w') (by kernel_rfl) (by exact (Below.refl _ _).drew) (fun hSR0 => ?_)
          obtain ⟨w5d, hwR⟩ : ∃ x, x = w5.drew := ⟨_, rfl⟩
          rw [← hwR] at hSR0 ⊢
          have hDR : Below w5.heap.size w5 w5d := by rw [hwR]; exact (Below.refl _ _).drew
          clear hwR
          (refine wpAnyH_take (i := 1) (oi := { dst := Option.some 47, op := Go.Op.move (Go.Operand.tmp 7), type := 22, pos := "law.go:141", after := #[], guard := Option.none }) (v := ?_) rfl (by kernel_rfl) (by kernel_rfl) (by kernel_rfl) (fun _ _ _ h => h) (Or.inl ⟨by rfl, fun w' hSw => ?_⟩) hSR0 ?_; rotate_left; focus (go_simp; try with_reducible rfl))
          simp only [Act.put, List.setIfInBounds_toArray, List.set_cons_zero, List.set_cons_succ]
          (refine wpAnyH_take (i := 3) (oi := { dst := Option.some 49, op := Go.Op.load 65 (Go.Operand.tmp 4), type := 65, pos := "law.go:141", after := #[], guard := Option.none }) (v := ?_) rfl (by kernel_rfl) (by kernel_rfl) (by kernel_rfl) (fun _ _ _ h => h) (Or.inl ⟨by rfl, fun w' hSw => ?_⟩) hSR0 ?_; rotate_left; focus (have hl := loadTx_run w' p1 0 b (range_under (range_under TB.out HJ5.out) hSw); go_simp; try with_reducible rfl))
          simp only [Act.put, List.setIfInBounds_toArray, List.set_cons_zero, List.set_cons_succ]
          refine wpAnyH_ready (rs := [0]) (by kernel_rfl) (by simp) ?_
          refine AllReadyH.cons rfl (fun K hK => ?_) AllReadyH.nil
          go_simp
          refine hK.out _ _ (below_alloc hSR0 _) (fun hSR1 => ?_)
          clear hK K
          refine wpAnyH_ready (rs := [2]) (by kernel_rfl) (by simp) ?_
          refine AllReadyH.cons rfl (fun K hK => ?_) AllReadyH.nil
          refine step_app (by rfl) _ (by rfl) _ _ (by rfl) w5 _ 0 0 [] (by rfl) (Mine.nil hSR1 _) A5 n5 c5 a.d.bytes (by rfl) (M5.out.bys.below (Below.then_ HJ5.out hSR1)) (by have := HL.out; omega) ?_; intro A6 n6 c6 w6 t6 f6
          refine hK.out _ _ (t6.below) (fun hSR2 => ?_)
          clear hK K
          refine wpAnyH_ready (rs := [4]) (by kernel_rfl) (by simp) ?_
          refine AllReadyH.cons rfl (fun K hK => ?_) AllReadyH.nil
          go_simp
          go_wp2_with (go_at_call 41; refine (TBytes_any w6 b (HB.out.below (Below.then_ HJ5.out hSR2)) FB.out.small).mono ?_; rintro e w7 ⟨A7, n7, c7, rfl, t7, f7⟩)
          refine hK.out _ _ (Below.then_ hSR2 t7.below) (fun hSR3 => ?_)
          clear hK K
          refine wpAnyH_ready (rs := [5]) (by kernel_rfl) (by simp) ?_
          refine AllReadyH.cons rfl (fun K hK => ?_) AllReadyH.nil
          refine step_app (by rfl) _ (by rfl) _ _ (by rfl) w5 A6 n6 c6 _ (by rfl) (t6.keep t7.below) A7 n7 c7 _ (by rfl) t7.bys (by have := HL.out; have := HLB.out; have e6 := t6.len; have e7 := t7.len; rw [List.nil_append, M5.out.len] at e6; omega) ?_; intro A8 n8 c8 w8 t8 f8
          refine hK.out _ _ (t8.below) (fun hSR4 => ?_)
          clear hK K
          refine wpAnyH_ready (rs := [6]) (by kernel_rfl) (by simp) ?_
          refine AllReadyH.cons rfl (fun K hK => ?_) AllReadyH.nil
          go_simp
          go_wp2_with (go_at_call 31; refine (New_any w8 A8 n8 c8 _ t8.bys (by have := HL.out; have := HLB.out; have e8 := t8.len; have e5 := M5.out.len; simp only [List.nil_append, List.length_append] at e8; omega)).mono ?_; rintro e w9 ⟨g9, h9, rfl, RD9, hg9, hh9, b9⟩)
          refine hK.out _ _ (Below.then_ hSR4 b9) (fun hSR5 => ?_)
          clear hK K
          (refine wpAnyH_take (i := 7) (oi := { dst := Option.some 10, op := Go.Op.assign (Go.Operand.tmp 52), type := 51, pos := "law.go:141", after := #[{ on := 6, ground := Go.Ground.data }, { on := 6, ground := Go.Ground.chain }, { on := 0, ground := Go.Ground.phase }, { on := 1, ground := Go.Ground.phase }, { on := 2, ground := Go.Ground.phase }, { on := 3, ground := Go.Ground.phase }, { on := 4, ground := Go.Ground.phase }, { on := 5, ground := Go.Ground.phase }, { on := 6, ground := Go.Ground.phase }], guard := Option.none }) (v := ?_) rfl (by kernel_rfl) (by kernel_rfl) (by kernel_rfl) (fun _ _ _ h => h) (Or.inl ⟨by rfl, fun w' hSw => ?_⟩) hSR5 ?_; rotate_left; focus (go_simp; try with_reducible rfl))
          simp only [Act.put, List.setIfInBounds_toArray, List.set_cons_zero, List.set_cons_succ]
          refine wpAnyH_done (by kernel_rfl) ?_ _

          have BW9 := hide (Below.then_ HJ5.out hSR5)
          have hg := hide (show w5.heap.size ≤ g9 ∧ w5.heap.size ≤ h9 by have h1 := t8.below.size; have h2 := HJ5.out.size; omega)
          rw [List.nil_append] at RD9
          have RDlt := hide RD9.lt
          have HR9 := hide RD9
          clear hg9 hh9 RD9 b9 t8 f8 t7 f7 t6 f6 hSR5 hSR0 hSR1 hSR2 hSR3 hSR4 hDR
          go_wp2_with fail
          refine (TRead_any w9 g9 h9 _ HR9.out).mono ?_
          rintro e w10 ⟨V3, rfl, hd3, hf3, hs3, hR10, o10⟩
          rw [OKA.out b.d.bytes] at hd3 hR10
          simp only at hd3 hR10
          have BW10 := hide (show Below w5.heap.size w5 w10 from BW9.out.trans (o10.below BW9.out.size (fun i hi e => by have h8 : i = g9 := e; have := hg.out; omega)))
          have hs910 := hide o10.size
          have HF3 := hide hf3
          have HR10 := hide hR10
          clear hf3 hR10 o10
          go_wp2_with fail
          refine (TRead_any w10 g9 h9 _ HR10.out).mono ?_
          rintro e w11 ⟨V4, rfl, hd4, hf4, hs4, hR11, o11⟩
          rw [OKB.out] at hd4 hR11
          simp only at hd4 hR11
          have BW11 := hide (show Below w5.heap.size w5 w11 from BW10.out.trans (o11.below BW10.out.size (fun i hi e => by have h8 : i = g9 := e; have := hg.out; omega)))
          have O11 := hide o11
          have HF4 := hide hf4
          have HR11 := hide hR11
          have hSA : V3.d.same a.d = true := by rw [hd3]; exact TxD.same_refl _
          have hSB : V4.d.same b.d = true := by rw [hd4]; exact TxD.same_refl _
          clear hf4 hR11 o11 hd3 hd4
          obtain ⟨q9, hq9⟩ : ∃ p, p = w11.heap.size := ⟨_, rfl⟩
          obtain ⟨q10, hq10⟩ : ∃ p, p = w11.heap.size + 1 := ⟨_, rfl⟩
          obtain ⟨wa, hwa⟩ : ∃ x, x = (w11.alloc (.cells zeroV.cells.toArray 65)).alloc (.cells zeroV.cells.toArray 65) := ⟨_, rfl⟩
          have UA := hide (show Blk wa q9 65 zeroV.cells by rw [hwa, hq9]; exact (Blk.new w11 65 zeroV.cells).alloc _)
          have UB := hide (show Blk wa q10 65 zeroV.cells by rw [hwa, hq10]; exact Blk.new1 w11 _ 65 zeroV.cells)
          have BA := hide (show Below w11.heap.size w11 wa by rw [hwa]; exact below_alloc (below_alloc (Below.refl _ _) _) _)
          have HP := hide (show q9 = w11.heap.size ∧ q10 = w11.heap.size + 1 from ⟨hq9, hq10⟩)
          go_wp2_with (first
            | (refine wpList_alloc_agg rfl 65 rfl zeroV.cells zeroTx_info ?_; simp only [Act.put, List.setIfInBounds_toArray, List.set_cons_zero, List.set_cons_succ, World.size_alloc])
            | (rw [← hwa, ← hq10, ← hq9]; refine wpList_store_blk rfl 65 _ _ rfl q9 0 65 zeroV.cells V3.cells (by rfl) (by rfl) UA.out (Nat.le_refl _) (by exact hI) (TxV.one V3) ?_; intro wb ob zb bb; rw [lay_all zeroV.cells V3.cells (by rfl)] at bb; have UBb := hide (ob.blk UB.out (by have := HP.out; omega)); have P11 := hide bb; have BWb := hide (show Below w11.heap.size w11 wb from BA.out.trans (ob.below BA.out.size (fun i hi e => by have h9 : i = q9 := e; have := HP.out; omega))); clear hwa ob zb bb UA UB BA; simp only [Act.put])
            | (refine wpList_store_blk rfl 65 _ _ rfl q10 0 65 zeroV.cells V4.cells (by rfl) (by rfl) UBb.out (Nat.le_refl _) (by exact hI) (TxV.one V4) ?_; intro w12 o12 z12 b12; rw [lay_all zeroV.cells V4.cells (by rfl)] at b12; have P10 := hide b12; have P9 := hide (o12.blk P11.out (by have := HP.out; omega)); have BX := hide (show Below w11.heap.size w11 w12 from BWb.out.trans (o12.below BWb.out.size (fun i hi e => by have h9 : i = q10 := e; have := HP.out; omega))); have l9 := loadTx_run w12 q9 0 V3 P9.out.whole; have l0 := loadTx_run w12 p0 0 a (range_under TA.out (BW11.out.trans (BX.out.mono BW11.out.size))); clear o12 z12 b12 UBb P11 BWb hq9 hq10; simp only [Act.put]))
          have BW12 := hide (show Below w5.heap.size w5 w12 from BW11.out.trans (BX.out.mono BW11.out.size))
          have F3 := HF3.out w12 ((O11.out.mono (fun i _ h => by have h8 : i = g9 := h; have := RDlt.out; omega)).trans (Only.of_below BX.out (fun i => i < w9.heap.size)) (fun _ _ h => h))
          have F4 := hide (HF4.out w12 (Only.of_below BX.out _))
          have HR12 := hide (HR11.out.below BX.out)
          refine (TSame_any w12 V3 a F3 (HA.out.below BW12.out) hs3 FA.out.small).mono ?_
          rintro e w13 ⟨rfl, b13⟩
          rw [hSA]
          have l10 := loadTx_run w13 q10 0 V4 (range_under P10.out.whole b13)
          have l1 := loadTx_run w13 p1 0 b (range_under TB.out (BW12.out.trans (b13.mono BW12.out.size)))
          have BW13 := hide (show Below w5.heap.size w5 w13 from BW12.out.trans (b13.mono BW12.out.size))
          have HR13 := hide (HR12.out.below b13)
          have F4 := hide (F4.out.below b13)
          clear b13 l9 l0 F3
          go_wp2_with fail
          refine (TSame_any w13 V4 b F4.out (HB.out.below BW13.out) hs4 FB.out.small).mono ?_
          rintro e w14 ⟨rfl, b14⟩
          rw [hSB]
          have hfin := hide (show Below w.heap.size w w14 from Below.then_ HB5.out (BW13.out.trans (b14.mono BW13.out.size)))
          have HR14 := hide (HR13.out.below b14)
          clear b14 l10 l1
          go_wp2_with fail
          refine (Left_any w14 g9 h9 _ HR14.out).mono ?_
          rintro e w15 ⟨rfl, rfl⟩
          go_wp2_with fail
          refine (Err_any w14 g9 h9 _ HR14.out).mono ?_
          rintro e w15 ⟨rfl, rfl⟩
          go_wp2_with fail
          go_ret
          exact ⟨rfl, hfin.out⟩
      · have hk0 : 0 ≤ k := by omega
        have hk1 : k < (n5 : Int) := by omega
        obtain ⟨K8, hK8⟩ : ∃ K8 : Nat, (K8 : Int) = k := ⟨k.toNat, by omega⟩
        subst hK8
        obtain ⟨A14, hs3, hs4, hBA, _⟩ := slice_head A5 n5 c5 K8 (by omega) M5.out.cap
        have Y14 := hide (hBA _ _ M5.out.bys)
        have HPK := hide (OKC.out K8 (by rw [M5.out.len]; omega))
        have hk9 := hide hk1
        clear hBA hk
        go_wp2_with fail
        refine (TParse_any _ A14 K8 c5 _ Y14.out (by have := HL.out; have := hk9.out; omega)).mono ?_
        rintro e w6 ⟨V1, rfl, hd1, hf1, hs1, b6⟩
        rw [HPK.out] at hd1 ⊢
        simp only at hd1 ⊢
        obtain ⟨p3, hp3⟩ : ∃ p, p = w6.heap.size := ⟨_, rfl⟩
        obtain ⟨wa, hwa⟩ : ∃ x, x = w6.alloc (.cells zeroV.cells.toArray 65) := ⟨_, rfl⟩
        have ZA := hide (show Blk wa p3 65 zeroV.cells by rw [hwa, hp3]; exact Blk.new w6 65 zeroV.cells)
        have BA := hide (show Below w6.heap.size w6 wa by rw [hwa]; exact below_alloc (Below.refl _ _) _)
        have HP3 := hide hp3
        have HB6 := hide b6
        have hSZ : V1.d.same zeroV.d = true := by rw [hd1]; exact TxD.same_refl _
        clear hd1 b6
        go_wp2_with (first
          | (refine wpList_alloc_agg rfl 65 rfl zeroV.cells zeroTx_info ?_; simp only [Act.put, List.setIfInBounds_toArray, List.set_cons_zero, List.set_cons_succ])
          | (rw [← hwa, ← hp3]; refine wpList_store_blk rfl 65 _ _ rfl p3 0 65 zeroV.cells V1.cells (by rfl) (by rfl) ZA.out (Nat.le_refl _) (by exact hI) (TxV.one V1) ?_; intro w7 o7 z7 b7; rw [lay_all zeroV.cells V1.cells (by rfl)] at b7; have HB7 := hide (show Below w6.heap.size w6 w7 from BA.out.trans (o7.below BA.out.size (fun i hi e => by have h9 : i = p3 := e; have := HP3.out; omega))); have l7 := loadTx_run w7 p3 0 V1 b7.whole; clear hwa hp3 o7 z7 b7 ZA BA; simp only [Act.put]))
        refine (TSame_any w7 V1 zeroV (hf1.below HB7.out) (zeroV_fine _) hs1 zeroV_small).mono ?_
        rintro e w8 ⟨rfl, b8⟩
        rw [hSZ]
        have HJ5 := hide (show Below w5.heap.size w5 w8 from Below.then_ HB6.out (Below.then_ HB7.out b8))
        clear b8 l7 HB6 HB7 hf1 HP3 hSZ hs1
        go_wp2_with fail
        refine wp_region_held_drew (S := fun w' => Below w8.heap.size w8 w') (by kernel_rfl) (by exact (Below.refl _ _).drew) (fun hSR0 => ?_)
        obtain ⟨w8d, hwR⟩ : ∃ x, x = w8.drew := ⟨_, rfl⟩
        rw [← hwR] at hSR0 ⊢
        have hDR : Below w8.heap.size w8 w8d := by rw [hwR]; exact (Below.refl _ _).drew
        clear hwR
        (refine wpAnyH_take (i := 1) (oi := { dst := Option.some 47, op := Go.Op.move (Go.Operand.tmp 7), type := 22, pos := "law.go:141", after := #[], guard := Option.none }) (v := ?_) rfl (by kernel_rfl) (by kernel_rfl) (by kernel_rfl) (fun _ _ _ h => h) (Or.inl ⟨by rfl, fun w' hSw => ?_⟩) hSR0 ?_; rotate_left; focus (go_simp; try with_reducible rfl))
        simp only [Act.put, List.setIfInBounds_toArray, List.set_cons_zero, List.set_cons_succ]
        (refine wpAnyH_take (i := 3) (oi := { dst := Option.some 49, op := Go.Op.load 65 (Go.Operand.tmp 4), type := 65, pos := "law.go:141", after := #[], guard := Option.none }) (v := ?_) rfl (by kernel_rfl) (by kernel_rfl) (by kernel_rfl) (fun _ _ _ h => h) (Or.inl ⟨by rfl, fun w' hSw => ?_⟩) hSR0 ?_; rotate_left; focus (have hl := loadTx_run w' p1 0 b (range_under (range_under TB.out HJ5.out) hSw); go_simp; try with_reducible rfl))
        simp only [Act.put, List.setIfInBounds_toArray, List.set_cons_zero, List.set_cons_succ]
        refine wpAnyH_ready (rs := [0]) (by kernel_rfl) (by simp) ?_
        refine AllReadyH.cons rfl (fun K hK => ?_) AllReadyH.nil
        go_simp
        refine hK.out _ _ (below_alloc hSR0 _) (fun hSR1 => ?_)
        clear hK K
        refine wpAnyH_ready (rs := [2]) (by kernel_rfl) (by simp) ?_
        refine AllReadyH.cons rfl (fun K hK => ?_) AllReadyH.nil
        refine step_app (by rfl) _ (by rfl) _ _ (by rfl) w8 _ 0 0 [] (by rfl) (Mine.nil hSR1 _) A5 n5 c5 a.d.bytes (by rfl) (M5.out.bys.below (Below.then_ HJ5.out hSR1)) (by have := HL.out; omega) ?_; intro A6 n6 c6 w6 t6 f6
        refine hK.out _ _ (t6.below) (fun hSR2 => ?_)
        clear hK K
        refine wpAnyH_ready (rs := [4]) (by kernel_rfl) (by simp) ?_
        refine AllReadyH.cons rfl (fun K hK => ?_) AllReadyH.nil
        go_simp
        go_wp2_with (go_at_call 41; refine (TBytes_any w6 b (HB.out.below (Below.then_ HJ5.out hSR2)) FB.out.small).mono ?_; rintro e w7 ⟨A7, n7, c7, rfl, t7, f7⟩)
        refine hK.out _ _ (Below.then_ hSR2 t7.below) (fun hSR3 => ?_)
        clear hK K
        refine wpAnyH_ready (rs := [5]) (by kernel_rfl) (by simp) ?_
        refine AllReadyH.cons rfl (fun K hK => ?_) AllReadyH.nil
        refine step_app (by rfl) _ (by rfl) _ _ (by rfl) w8 A6 n6 c6 _ (by rfl) (t6.keep t7.below) A7 n7 c7 _ (by rfl) t7.bys (by have := HL.out; have := HLB.out; have e6 := t6.len; have e7 := t7.len; rw [List.nil_append, M5.out.len] at e6; omega) ?_; intro A8 n8 c8 w8 t8 f8
        refine hK.out _ _ (t8.below) (fun hSR4 => ?_)
        clear hK K
        refine wpAnyH_ready (rs := [6]) (by kernel_rfl) (by simp) ?_
        refine AllReadyH.cons rfl (fun K hK => ?_) AllReadyH.nil
        go_simp
        go_wp2_with (go_at_call 31; refine (New_any w8 A8 n8 c8 _ t8.bys (by have := HL.out; have := HLB.out; have e8 := t8.len; have e5 := M5.out.len; simp only [List.nil_append, List.length_append] at e8; omega)).mono ?_; rintro e w9 ⟨g9, h9, rfl, RD9, hg9, hh9, b9⟩)
        refine hK.out _ _ (Below.then_ hSR4 b9) (fun hSR5 => ?_)
        clear hK K
        (refine wpAnyH_take (i := 7) (oi := { dst := Option.some 10, op := Go.Op.assign (Go.Operand.tmp 52), type := 51, pos := "law.go:141", after := #[{ on := 6, ground := Go.Ground.data }, { on := 6, ground := Go.Ground.chain }, { on := 0, ground := Go.Ground.phase }, { on := 1, ground := Go.Ground.phase }, { on := 2, ground := Go.Ground.phase }, { on := 3, ground := Go.Ground.phase }, { on := 4, ground := Go.Ground.phase }, { on := 5, ground := Go.Ground.phase }, { on := 6, ground := Go.Ground.phase }], guard := Option.none }) (v := ?_) rfl (by kernel_rfl) (by kernel_rfl) (by kernel_rfl) (fun _ _ _ h => h) (Or.inl ⟨by rfl, fun w' hSw => ?_⟩) hSR5 ?_; rotate_left; focus (go_simp; try with_reducible rfl))
        simp only [Act.put, List.setIfInBounds_toArray, List.set_cons_zero, List.set_cons_succ]
        refine wpAnyH_done (by kernel_rfl) ?_ _

        have BW9 := hide (Below.then_ HJ5.out hSR5)
        have hg := hide (show w5.heap.size ≤ g9 ∧ w5.heap.size ≤ h9 by have h1 := t8.below.size; have h2 := HJ5.out.size; omega)
        rw [List.nil_append] at RD9
        have RDlt := hide RD9.lt
        have HR9 := hide RD9
        clear hg9 hh9 RD9 b9 t8 f8 t7 f7 t6 f6 hSR5 hSR0 hSR1 hSR2 hSR3 hSR4 hDR
        go_wp2_with fail
        refine (TRead_any w9 g9 h9 _ HR9.out).mono ?_
        rintro e w10 ⟨V3, rfl, hd3, hf3, hs3, hR10, o10⟩
        rw [OKA.out b.d.bytes] at hd3 hR10
        simp only at hd3 hR10
        have BW10 := hide (show Below w5.heap.size w5 w10 from BW9.out.trans (o10.below BW9.out.size (fun i hi e => by have h8 : i = g9 := e; have := hg.out; omega)))
        have hs910 := hide o10.size
        have HF3 := hide hf3
        have HR10 := hide hR10
        clear hf3 hR10 o10
        go_wp2_with fail
        refine (TRead_any w10 g9 h9 _ HR10.out).mono ?_
        rintro e w11 ⟨V4, rfl, hd4, hf4, hs4, hR11, o11⟩
        rw [OKB.out] at hd4 hR11
        simp only at hd4 hR11
        have BW11 := hide (show Below w5.heap.size w5 w11 from BW10.out.trans (o11.below BW10.out.size (fun i hi e => by have h8 : i = g9 := e; have := hg.out; omega)))
        have O11 := hide o11
        have HF4 := hide hf4
        have HR11 := hide hR11
        have hSA : V3.d.same a.d = true := by rw [hd3]; exact TxD.same_refl _
        have hSB : V4.d.same b.d = true := by rw [hd4]; exact TxD.same_refl _
        clear hf4 hR11 o11 hd3 hd4
        obtain ⟨q9, hq9⟩ : ∃ p, p = w11.heap.size := ⟨_, rfl⟩
        obtain ⟨q10, hq10⟩ : ∃ p, p = w11.heap.size + 1 := ⟨_, rfl⟩
        obtain ⟨wa, hwa⟩ : ∃ x, x = (w11.alloc (.cells zeroV.cells.toArray 65)).alloc (.cells zeroV.cells.toArray 65) := ⟨_, rfl⟩
        have UA := hide (show Blk wa q9 65 zeroV.cells by rw [hwa, hq9]; exact (Blk.new w11 65 zeroV.cells).alloc _)
        have UB := hide (show Blk wa q10 65 zeroV.cells by rw [hwa, hq10]; exact Blk.new1 w11 _ 65 zeroV.cells)
        have BA := hide (show Below w11.heap.size w11 wa by rw [hwa]; exact below_alloc (below_alloc (Below.refl _ _) _) _)
        have HP := hide (show q9 = w11.heap.size ∧ q10 = w11.heap.size + 1 from ⟨hq9, hq10⟩)
        go_wp2_with (first
          | (refine wpList_alloc_agg rfl 65 rfl zeroV.cells zeroTx_info ?_; simp only [Act.put, List.setIfInBounds_toArray, List.set_cons_zero, List.set_cons_succ, World.size_alloc])
          | (rw [← hwa, ← hq10, ← hq9]; refine wpList_store_blk rfl 65 _ _ rfl q9 0 65 zeroV.cells V3.cells (by rfl) (by rfl) UA.out (Nat.le_refl _) (by exact hI) (TxV.one V3) ?_; intro wb ob zb bb; rw [lay_all zeroV.cells V3.cells (by rfl)] at bb; have UBb := hide (ob.blk UB.out (by have := HP.out; omega)); have P11 := hide bb; have BWb := hide (show Below w11.heap.size w11 wb from BA.out.trans (ob.below BA.out.size (fun i hi e => by have h9 : i = q9 := e; have := HP.out; omega))); clear hwa ob zb bb UA UB BA; simp only [Act.put])
          | (refine wpList_store_blk rfl 65 _ _ rfl q10 0 65 zeroV.cells V4.cells (by rfl) (by rfl) UBb.out (Nat.le_refl _) (by exact hI) (TxV.one V4) ?_; intro w12 o12 z12 b12; rw [lay_all zeroV.cells V4.cells (by rfl)] at b12; have P10 := hide b12; have P9 := hide (o12.blk P11.out (by have := HP.out; omega)); have BX := hide (show Below w11.heap.size w11 w12 from BWb.out.trans (o12.below BWb.out.size (fun i hi e => by have h9 : i = q10 := e; have := HP.out; omega))); have l9 := loadTx_run w12 q9 0 V3 P9.out.whole; have l0 := loadTx_run w12 p0 0 a (range_under TA.out (BW11.out.trans (BX.out.mono BW11.out.size))); clear o12 z12 b12 UBb P11 BWb hq9 hq10; simp only [Act.put]))
        have BW12 := hide (show Below w5.heap.size w5 w12 from BW11.out.trans (BX.out.mono BW11.out.size))
        have F3 := HF3.out w12 ((O11.out.mono (fun i _ h => by have h8 : i = g9 := h; have := RDlt.out; omega)).trans (Only.of_below BX.out (fun i => i < w9.heap.size)) (fun _ _ h => h))
        have F4 := hide (HF4.out w12 (Only.of_below BX.out _))
        have HR12 := hide (HR11.out.below BX.out)
        refine (TSame_any w12 V3 a F3 (HA.out.below BW12.out) hs3 FA.out.small).mono ?_
        rintro e w13 ⟨rfl, b13⟩
        rw [hSA]
        have l10 := loadTx_run w13 q10 0 V4 (range_under P10.out.whole b13)
        have l1 := loadTx_run w13 p1 0 b (range_under TB.out (BW12.out.trans (b13.mono BW12.out.size)))
        have BW13 := hide (show Below w5.heap.size w5 w13 from BW12.out.trans (b13.mono BW12.out.size))
        have HR13 := hide (HR12.out.below b13)
        have F4 := hide (F4.out.below b13)
        clear b13 l9 l0 F3
        go_wp2_with fail
        refine (TSame_any w13 V4 b F4.out (HB.out.below BW13.out) hs4 FB.out.small).mono ?_
        rintro e w14 ⟨rfl, b14⟩
        rw [hSB]
        have hfin := hide (show Below w.heap.size w w14 from Below.then_ HB5.out (BW13.out.trans (b14.mono BW13.out.size)))
        have HR14 := hide (HR13.out.below b14)
        clear b14 l10 l1
        go_wp2_with fail
        refine (Left_any w14 g9 h9 _ HR14.out).mono ?_
        rintro e w15 ⟨rfl, rfl⟩
        go_wp2_with fail
        refine (Err_any w14 g9 h9 _ HR14.out).mono ?_
        rintro e w15 ⟨rfl, rfl⟩
        go_wp2_with fail
        go_ret
        exact ⟨rfl, hfin.out⟩
end Go.Proofs.Ytfloclamdpageaa
