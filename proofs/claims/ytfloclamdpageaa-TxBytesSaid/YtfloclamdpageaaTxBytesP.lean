import Derived.Test.YtfloclamdpageaaPk10
import Derived.Test.YtfloclamdpageaaPk11
import Derived.Test.YtfloclamdpageaaPk15
import Derived.Test.YtfloclamdpageaaPk12
/-
  TxBytes: the law's walk.
-/
namespace Go.Proofs.Ytfloclamdpageaa
open Go.RowKit

attribute [local go_sem ↓] mkTx_fold loadTx_fold eqlHash_fold neqHash_fold
attribute [local go_sem] mkTx_zero guardHash
set_option maxHeartbeats 16000000 in
set_option maxRecDepth 100000 in
theorem txbytes_any (w : World) (t : TxV) (i : Int) (B : Option Addr) (m d : Nat) (bs : List Int) (hf : t.Fine w) (hB : Bys w B m bs) (hc : m ≤ d) (hi0 : -9223372036854775808 ≤ i) (hi1 : i ≤ 9223372036854775807) :
    Calls Try.prog 12 #[.agg t.cells.toArray, .int .i64 i, .slice B m d] w fun e w' => e = .returned (.bool true) ∧ Below w.heap.size w w' := by
  have T0 := Blk.new w 65 t.cells
  have hw : Below w.heap.size w (w.alloc (.cells t.cells.toArray 65)) := below_alloc (Below.refl _ _) _
  have HF := hide (hf.below hw)
  have HB := hide (hB.below hw)
  have HC := hide hc
  have HW := hide hw
  have HT := hide T0
  have hI := isTx
  clear hf hB hc hw T0
  go_enter Try.func12, Try.ntmps12
  go_wp2_with fail
  obtain ⟨p0, hp0⟩ : ∃ p, p = w.heap.size := ⟨_, rfl⟩
  obtain ⟨w1, hw1⟩ : ∃ x, x = w.alloc (.cells t.cells.toArray 65) := ⟨_, rfl⟩
  rw [← hw1] at HF HB HW HT ⊢
  rw [← hp0] at HT ⊢
  clear hw1 hp0
  refine (txAlive_any _).mono ?_
  rintro e w2 ⟨rfl, b2⟩
  have HB2 := hide b2
  have l0 := loadTx_run w2 p0 0 t (range_under HT.out.whole b2)
  clear b2
  go_wp2_with fail
  refine (great_any w2 t (HF.out.below HB2.out)).mono ?_
  rintro e w3 ⟨g1, rfl, hg1, b3⟩
  have HB3 := hide (Below.then_ HB2.out b3)
  clear b3 l0
  have l0 := loadTx_run w3 p0 0 t (range_under HT.out.whole HB3.out)
  cases g1 with
  | true =>
    go_wp2_with fail
    go_ret
    exact ⟨rfl, Below.then_ HW.out HB3.out⟩
  | false =>
    have FA := hide (hg1 rfl)
    clear hg1
    by_cases hm : 500 < m
    · have hm1 : (500 : Int) < (m : Int) := by omega
      go_wp2_with fail
      go_ret
      exact ⟨rfl, Below.then_ HW.out HB3.out⟩
    · have hm1 : ¬ (500 : Int) < (m : Int) := by omega
      have HM := hide (show m ≤ 500 by omega)
      clear hm
      go_wp2_with fail
      refine (TBytes_any w3 t (HF.out.below HB3.out) FA.out.small).mono ?_
      rintro e w4 ⟨A5, n5, c5, rfl, t4, f4⟩
      have HB4 := hide (Below.then_ HB3.out t4.below)
      have HY4 := hide t4.bys
      have hn4 := hide (show n5 ≤ 1000000000 by have h1 := t4.len; have h2 := TxV.bytes_len (HF.out.below HB3.out) FA.out.small; omega)
      clear t4 f4 l0
      go_wp2_with fail
      refine (TParse_any w4 A5 n5 c5 t.d.bytes HY4.out hn4.out).mono ?_
      rintro e w5 ⟨V, rfl, hVd, hVF, hVS, b5⟩
      rw [parseT_back t.d (FA.out.ok2 HF.out)] at hVd ⊢
      simp only at hVd ⊢
      obtain ⟨p8, hp8⟩ : ∃ p, p = w5.heap.size := ⟨_, rfl⟩
      obtain ⟨wa, hwa⟩ : ∃ x, x = w5.alloc (.cells zeroV.cells.toArray 65) := ⟨_, rfl⟩
      have TA := hide (show Blk wa p8 65 zeroV.cells by rw [hwa, hp8]; exact Blk.new w5 65 zeroV.cells)
      have BA := hide (show Below w5.heap.size w5 wa by rw [hwa]; exact below_alloc (Below.refl _ _) _)
      have HP8 := hide hp8
      have HB5 := hide (Below.then_ HB4.out b5)
      have HY5 := hide (HY4.out.below b5)
      have HVd := hide hVd
      have HVS := hide hVS
      have HVF := hide hVF
      clear b5 hVd hVS hVF
      go_wp2_with (first
        | (refine wpList_alloc_agg rfl 65 rfl zeroV.cells zeroTx_info ?_; simp only [Act.put, List.setIfInBounds_toArray, List.set_cons_zero, List.set_cons_succ])
        | (rw [← hwa, ← hp8]; refine wpList_store_blk rfl 65 _ _ rfl p8 0 65 zeroV.cells V.cells (by rfl) (by rfl) TA.out (Nat.le_refl _) (by exact hI) (TxV.one V) ?_; intro w7 o7 z7 b7; have X7 := hide (show w7.rangeAt p8 0 V.cells by rw [lay_all zeroV.cells V.cells (by rfl)] at b7; exact b7.whole); have B57 := hide (show Below w5.heap.size w5 w7 from BA.out.trans (o7.below BA.out.size (fun i hi e => by have h9 : i = p8 := e; have := HP8.out; omega))); clear o7 z7 b7 hwa hp8; simp only [Act.put]))
      have HB7b := hide (Below.then_ HB5.out B57.out)
      have HF7 := hide (HF.out.below HB7b.out)
      have HB7 := hide (HB.out.below HB7b.out)
      have T7 := hide (range_under HT.out.whole HB7b.out)
      have HV7 := hide (HVF.out.below B57.out)
      have HY7 := hide (HY5.out.below B57.out)
      have HB7w := hide (Below.then_ HW.out HB7b.out)
      have HSS := hide (show V.d.same t.d = true by rw [HVd.out]; exact TxD.same_refl _)
      have HSR := hide (show decide (V.d.bytes = t.d.bytes) = true by rw [HVd.out]; simp)
      obtain ⟨S, hS, hsa⟩ := hstr_of t.d.bytes
      obtain ⟨HL, hHL⟩ : ∃ x, x = hashT t.d i bs := ⟨_, rfl⟩
      obtain ⟨HI, hHI⟩ : ∃ x, x = sha2 t.d.bytes := ⟨_, rfl⟩
      have lHL := hide (show HL.length = 32 by rw [hHL]; exact hashT_len _ _ _)
      have lHI := hide (show HI.length = 32 by rw [hHI]; exact sha2_len _)
      have EH := hide (⟨hHL.symm, hHI.symm⟩ : hashT t.d i bs = HL ∧ sha2 t.d.bytes = HI)
      have HH := hide (⟨fun w => eqlHash_self HL lHL.out w, fun w => neqHash_self HI lHI.out w⟩ : (∀ w, (eqlHash (.agg (bcs HL).toArray) (.agg (bcs HL).toArray)).run Try.prog w = .ok (.bool true) w) ∧ (∀ w, (neqHash (.agg (bcs HI).toArray) (.agg (bcs HI).toArray)).run Try.prog w = .ok (.bool false) w))
      clear hHL hHI
      clear hS HB2 HB3 HB4 HY4 HB5 HY5 HVd HVF HP8 BA TA B57 HB7b hn4 hm1
      refine wp_region_held_drew (S := fun w' => Below w7.heap.size w7 w') (by kernel_rfl) (by exact (Below.refl _ _).drew) (fun hSQ0 => ?_)
      obtain ⟨w7d, hwQ⟩ : ∃ x, x = w7.drew := ⟨_, rfl⟩
      rw [← hwQ] at hSQ0 ⊢
      clear hwQ
      (refine wpAnyH_take (i := 0) (oi := { dst := Option.some 26, op := Go.Op.move (Go.Operand.tmp 7), type := 22, pos := "law.go:64", after := #[], guard := Option.none }) (v := ?_) rfl (by kernel_rfl) (by kernel_rfl) (by kernel_rfl) (fun _ _ _ h => h) (Or.inl ⟨by rfl, fun w' hSw => ?_⟩) hSQ0 ?_; rotate_left; focus (go_simp; try with_reducible rfl))
      simp only [Act.put, List.setIfInBounds_toArray, List.set_cons_zero, List.set_cons_succ]
      (refine wpAnyH_take (i := 2) (oi := { dst := Option.some 28, op := Go.Op.load 65 (Go.Operand.tmp 3), type := 65, pos := "law.go:64", after := #[], guard := Option.none }) (v := ?_) rfl (by kernel_rfl) (by kernel_rfl) (by kernel_rfl) (fun _ _ _ h => h) (Or.inl ⟨by rfl, fun w' hSw => ?_⟩) hSQ0 ?_; rotate_left; focus (have hl := loadTx_run w' p0 0 t (range_under T7.out hSw); go_simp; try with_reducible rfl))
      simp only [Act.put, List.setIfInBounds_toArray, List.set_cons_zero, List.set_cons_succ]
      refine wpAnyH_ready (rs := [1, 3]) (by kernel_rfl) (by simp) ?_
      refine AllReadyH.cons rfl (fun K hK => ?_) (AllReadyH.cons rfl (fun K hK => ?_) AllReadyH.nil)
      · have s7 := hsa.out w7d A5 n5 c5 _ (HY7.out.below hSQ0) rfl
        go_simp
        refine hK.out _ _ (hSQ0) (fun hSQ1 => ?_)
        clear hK K
        refine wpAnyH_ready (rs := [3]) (by kernel_rfl) (by simp) ?_
        refine AllReadyH.cons rfl (fun K hK => ?_) AllReadyH.nil
        go_simp
        refine (refTBytes_any w7d t (HF7.out.below hSQ1) FA.out.small).mono ?_
        rintro e wx1 ⟨Awx1, nwx1, cwx1, rfl, twx1, fwx1⟩
        go_simp
        have Ywx1 := hide twx1.bys
        have gwx1 := twx1.below
        clear twx1 fwx1
        refine hK.out _ _ (Below.then_ hSQ1 gwx1) (fun hSQ2 => ?_)
        clear hK K
        refine wpAnyH_ready (rs := [4]) (by kernel_rfl) (by simp) ?_
        refine AllReadyH.cons rfl (fun K hK => ?_) AllReadyH.nil
        have s8 := hsa.out wx1 Awx1 nwx1 cwx1 _ (by first | exact Ywx1.out | exact Ywx1.out.below (by assumption)) rfl
        go_simp
        refine hK.out _ _ (hSQ2) (fun hSQ3 => ?_)
        clear hK K
        (refine wpAnyH_take (i := 5) (oi := { dst := Option.some 31, op := Go.Op.binOp Go.BinOp.neq 9 (Go.Operand.tmp 27) (Go.Operand.tmp 30) 9, type := 4, pos := "law.go:64", after := #[{ on := 1, ground := Go.Ground.data }, { on := 4, ground := Go.Ground.data }], guard := Option.none }) (v := ?_) rfl (by kernel_rfl) (by kernel_rfl) (by kernel_rfl) (fun _ _ _ h => h) (Or.inl ⟨by rfl, fun w' hSw => ?_⟩) hSQ3 ?_; rotate_left; focus (go_simp; try with_reducible rfl))
        simp only [Act.put, List.setIfInBounds_toArray, List.set_cons_zero, List.set_cons_succ]
        (refine wpAnyH_take (i := 6) (oi := { dst := Option.some 32, op := Go.Op.move (Go.Operand.tmp 31), type := 4, pos := "law.go:64", after := #[{ on := 5, ground := Go.Ground.data }, { on := 3, ground := Go.Ground.chain }], guard := Option.none }) (v := ?_) rfl (by kernel_rfl) (by kernel_rfl) (by kernel_rfl) (fun _ _ _ h => h) (Or.inl ⟨by rfl, fun w' hSw => ?_⟩) hSQ3 ?_; rotate_left; focus (go_simp; try with_reducible rfl))
        simp only [Act.put, List.setIfInBounds_toArray, List.set_cons_zero, List.set_cons_succ]
        as_aux_lemma =>
          (refine wpAnyH_take (i := 7) (oi := { dst := Option.some 33, op := Go.Op.move (Go.Operand.tmp 9), type := 28, pos := "law.go:64", after := #[{ on := 6, ground := Go.Ground.guard }], guard := Option.some (6, Bool.false) }) (v := ?_) rfl (by kernel_rfl) (by kernel_rfl) (by kernel_rfl) (fun _ _ _ h => h) (Or.inl ⟨by rfl, fun w' hSw => ?_⟩) hSQ3 ?_; rotate_left; focus (go_simp; try with_reducible rfl))
          simp only [Act.put, List.setIfInBounds_toArray, List.set_cons_zero, List.set_cons_succ]
          (refine wpAnyH_take (i := 8) (oi := { dst := Option.some 34, op := Go.Op.binOp Go.BinOp.neq 28 (Go.Operand.tmp 33) (Go.Operand.const (Go.Value.int Go.IntKind.i64 0)) 28, type := 4, pos := "law.go:64", after := #[{ on := 7, ground := Go.Ground.data }, { on := 6, ground := Go.Ground.guard }], guard := Option.some (6, Bool.false) }) (v := ?_) rfl (by kernel_rfl) (by kernel_rfl) (by kernel_rfl) (fun _ _ _ h => h) (Or.inl ⟨by rfl, fun w' hSw => ?_⟩) hSQ3 ?_; rotate_left; focus (go_simp; try with_reducible rfl))
          simp only [Act.put, List.setIfInBounds_toArray, List.set_cons_zero, List.set_cons_succ]
          (refine wpAnyH_take (i := 9) (oi := { dst := Option.some 35, op := Go.Op.pick (Go.Operand.tmp 32) (Go.Operand.const (Go.Value.bool Bool.true)) (Go.Operand.tmp 34), type := 4, pos := "law.go:64", after := #[{ on := 6, ground := Go.Ground.data }, { on := 8, ground := Go.Ground.data }], guard := Option.none }) (v := ?_) rfl (by kernel_rfl) (by kernel_rfl) (by kernel_rfl) (fun _ _ _ h => h) (Or.inl ⟨by rfl, fun w' hSw => ?_⟩) hSQ3 ?_; rotate_left; focus (go_simp; try with_reducible rfl))
          simp only [Act.put, List.setIfInBounds_toArray, List.set_cons_zero, List.set_cons_succ]
          (refine wpAnyH_take (i := 10) (oi := { dst := Option.some 36, op := Go.Op.move (Go.Operand.tmp 35), type := 4, pos := "law.go:64", after := #[{ on := 9, ground := Go.Ground.data }, { on := 6, ground := Go.Ground.chain }], guard := Option.none }) (v := ?_) rfl (by kernel_rfl) (by kernel_rfl) (by kernel_rfl) (fun _ _ _ h => h) (Or.inl ⟨by rfl, fun w' hSw => ?_⟩) hSQ3 ?_; rotate_left; focus (go_simp; try with_reducible rfl))
          simp only [Act.put, List.setIfInBounds_toArray, List.set_cons_zero, List.set_cons_succ]
          (refine wpAnyH_take (i := 11) (oi := { dst := Option.some 37, op := Go.Op.load 65 (Go.Operand.tmp 8), type := 65, pos := "law.go:64", after := #[{ on := 10, ground := Go.Ground.guard }], guard := Option.some (10, Bool.false) }) (v := ?_) rfl (by kernel_rfl) (by kernel_rfl) (by kernel_rfl) (fun _ _ _ h => h) (Or.inl ⟨by rfl, fun w' hSw => ?_⟩) hSQ3 ?_; rotate_left; focus (have hl := loadTx_run w' p8 0 V (range_under X7.out hSw); go_simp; try with_reducible rfl))
          simp only [Act.put, List.setIfInBounds_toArray, List.set_cons_zero, List.set_cons_succ]
          (refine wpAnyH_take (i := 12) (oi := { dst := Option.some 38, op := Go.Op.load 65 (Go.Operand.tmp 3), type := 65, pos := "law.go:64", after := #[{ on := 10, ground := Go.Ground.guard }], guard := Option.some (10, Bool.false) }) (v := ?_) rfl (by kernel_rfl) (by kernel_rfl) (by kernel_rfl) (fun _ _ _ h => h) (Or.inl ⟨by rfl, fun w' hSw => ?_⟩) hSQ3 ?_; rotate_left; focus (have hl := loadTx_run w' p0 0 t (range_under T7.out hSw); go_simp; try with_reducible rfl))
          simp only [Act.put, List.setIfInBounds_toArray, List.set_cons_zero, List.set_cons_succ]
          refine wpAnyH_ready (rs := [13]) (by kernel_rfl) (by simp) ?_
          refine AllReadyH.cons rfl (fun K hK => ?_) AllReadyH.nil
          go_simp
          go_wp2_with (go_at_call 51; refine (TSame_any wx1 V t (HV7.out.below hSQ3) (HF7.out.below hSQ3) HVS.out FA.out.small).mono ?_; rintro e wx2 ⟨rfl, bwx2⟩; rw [HSS.out])
          refine hK.out _ _ (Below.then_ hSQ3 bwx2) (fun hSQ4 => ?_)
          clear hK K
          as_aux_lemma =>
            (refine wpAnyH_take (i := 14) (oi := { dst := Option.some 40, op := Go.Op.unOp Go.UnOp.not 4 (Go.Operand.tmp 39), type := 4, pos := "law.go:64", after := #[{ on := 13, ground := Go.Ground.data }, { on := 10, ground := Go.Ground.guard }], guard := Option.some (10, Bool.false) }) (v := ?_) rfl (by kernel_rfl) (by kernel_rfl) (by kernel_rfl) (fun _ _ _ h => h) (Or.inl ⟨by rfl, fun w' hSw => ?_⟩) hSQ4 ?_; rotate_left; focus (go_simp; try with_reducible rfl))
            simp only [Act.put, List.setIfInBounds_toArray, List.set_cons_zero, List.set_cons_succ]
            (refine wpAnyH_take (i := 15) (oi := { dst := Option.some 41, op := Go.Op.pick (Go.Operand.tmp 36) (Go.Operand.const (Go.Value.bool Bool.true)) (Go.Operand.tmp 40), type := 4, pos := "law.go:64", after := #[{ on := 10, ground := Go.Ground.data }, { on := 14, ground := Go.Ground.data }], guard := Option.none }) (v := ?_) rfl (by kernel_rfl) (by kernel_rfl) (by kernel_rfl) (fun _ _ _ h => h) (Or.inl ⟨by rfl, fun w' hSw => ?_⟩) hSQ4 ?_; rotate_left; focus (go_simp; try with_reducible rfl))
            simp only [Act.put, List.setIfInBounds_toArray, List.set_cons_zero, List.set_cons_succ]
            (refine wpAnyH_take (i := 16) (oi := { dst := Option.some 42, op := Go.Op.move (Go.Operand.tmp 41), type := 4, pos := "law.go:64", after := #[{ on := 15, ground := Go.Ground.data }, { on := 13, ground := Go.Ground.chain }], guard := Option.none }) (v := ?_) rfl (by kernel_rfl) (by kernel_rfl) (by kernel_rfl) (fun _ _ _ h => h) (Or.inl ⟨by rfl, fun w' hSw => ?_⟩) hSQ4 ?_; rotate_left; focus (go_simp; try with_reducible rfl))
            simp only [Act.put, List.setIfInBounds_toArray, List.set_cons_zero, List.set_cons_succ]
            (refine wpAnyH_take (i := 17) (oi := { dst := Option.some 43, op := Go.Op.load 65 (Go.Operand.tmp 8), type := 65, pos := "law.go:64", after := #[{ on := 16, ground := Go.Ground.guard }], guard := Option.some (16, Bool.false) }) (v := ?_) rfl (by kernel_rfl) (by kernel_rfl) (by kernel_rfl) (fun _ _ _ h => h) (Or.inl ⟨by rfl, fun w' hSw => ?_⟩) hSQ4 ?_; rotate_left; focus (have hl := loadTx_run w' p8 0 V (range_under X7.out hSw); go_simp; try with_reducible rfl))
            simp only [Act.put, List.setIfInBounds_toArray, List.set_cons_zero, List.set_cons_succ]
            (refine wpAnyH_take (i := 18) (oi := { dst := Option.some 44, op := Go.Op.load 65 (Go.Operand.tmp 3), type := 65, pos := "law.go:64", after := #[{ on := 16, ground := Go.Ground.guard }], guard := Option.some (16, Bool.false) }) (v := ?_) rfl (by kernel_rfl) (by kernel_rfl) (by kernel_rfl) (fun _ _ _ h => h) (Or.inl ⟨by rfl, fun w' hSw => ?_⟩) hSQ4 ?_; rotate_left; focus (have hl := loadTx_run w' p0 0 t (range_under T7.out hSw); go_simp; try with_reducible rfl))
            simp only [Act.put, List.setIfInBounds_toArray, List.set_cons_zero, List.set_cons_succ]
            refine wpAnyH_ready (rs := [19]) (by kernel_rfl) (by simp) ?_
            refine AllReadyH.cons rfl (fun K hK => ?_) AllReadyH.nil
            go_simp
            go_wp2_with (go_at_call 46; refine (refTSame_any wx2 V t (HV7.out.below hSQ4) (HF7.out.below hSQ4) HVS.out FA.out.small).mono ?_; rintro e wx3 ⟨rfl, bwx3⟩; rw [HSR.out])
            refine hK.out _ _ (Below.then_ hSQ4 bwx3) (fun hSQ5 => ?_)
            clear hK K
            (refine wpAnyH_take (i := 20) (oi := { dst := Option.some 46, op := Go.Op.unOp Go.UnOp.not 4 (Go.Operand.tmp 45), type := 4, pos := "law.go:64", after := #[{ on := 19, ground := Go.Ground.data }, { on := 16, ground := Go.Ground.guard }], guard := Option.some (16, Bool.false) }) (v := ?_) rfl (by kernel_rfl) (by kernel_rfl) (by kernel_rfl) (fun _ _ _ h => h) (Or.inl ⟨by rfl, fun w' hSw => ?_⟩) hSQ5 ?_; rotate_left; focus (go_simp; try with_reducible rfl))
            simp only [Act.put, List.setIfInBounds_toArray, List.set_cons_zero, List.set_cons_succ]
            as_aux_lemma =>
              (refine wpAnyH_take (i := 21) (oi := { dst := Option.some 47, op := Go.Op.pick (Go.Operand.tmp 42) (Go.Operand.const (Go.Value.bool Bool.true)) (Go.Operand.tmp 46), type := 4, pos := "law.go:64", after := #[{ on := 16, ground := Go.Ground.data }, { on := 20, ground := Go.Ground.data }], guard := Option.none }) (v := ?_) rfl (by kernel_rfl) (by kernel_rfl) (by kernel_rfl) (fun _ _ _ h => h) (Or.inl ⟨by rfl, fun w' hSw => ?_⟩) hSQ5 ?_; rotate_left; focus (go_simp; try with_reducible rfl))
              simp only [Act.put, List.setIfInBounds_toArray, List.set_cons_zero, List.set_cons_succ]
              (refine wpAnyH_take (i := 22) (oi := { dst := Option.some 48, op := Go.Op.move (Go.Operand.tmp 47), type := 4, pos := "law.go:64", after := #[{ on := 21, ground := Go.Ground.data }, { on := 19, ground := Go.Ground.chain }], guard := Option.none }) (v := ?_) rfl (by kernel_rfl) (by kernel_rfl) (by kernel_rfl) (fun _ _ _ h => h) (Or.inl ⟨by rfl, fun w' hSw => ?_⟩) hSQ5 ?_; rotate_left; focus (go_simp; try with_reducible rfl))
              simp only [Act.put, List.setIfInBounds_toArray, List.set_cons_zero, List.set_cons_succ]
              (refine wpAnyH_take (i := 23) (oi := { dst := Option.some 49, op := Go.Op.load 65 (Go.Operand.tmp 3), type := 65, pos := "law.go:64", after := #[{ on := 22, ground := Go.Ground.guard }], guard := Option.some (22, Bool.false) }) (v := ?_) rfl (by kernel_rfl) (by kernel_rfl) (by kernel_rfl) (fun _ _ _ h => h) (Or.inl ⟨by rfl, fun w' hSw => ?_⟩) hSQ5 ?_; rotate_left; focus (have hl := loadTx_run w' p0 0 t (range_under T7.out hSw); go_simp; try with_reducible rfl))
              simp only [Act.put, List.setIfInBounds_toArray, List.set_cons_zero, List.set_cons_succ]
              (refine wpAnyH_take (i := 25) (oi := { dst := Option.some 51, op := Go.Op.load 65 (Go.Operand.tmp 3), type := 65, pos := "law.go:64", after := #[{ on := 22, ground := Go.Ground.guard }], guard := Option.some (22, Bool.false) }) (v := ?_) rfl (by kernel_rfl) (by kernel_rfl) (by kernel_rfl) (fun _ _ _ h => h) (Or.inl ⟨by rfl, fun w' hSw => ?_⟩) hSQ5 ?_; rotate_left; focus (have hl := loadTx_run w' p0 0 t (range_under T7.out hSw); go_simp; try with_reducible rfl))
              simp only [Act.put, List.setIfInBounds_toArray, List.set_cons_zero, List.set_cons_succ]
              refine wpAnyH_ready (rs := [24]) (by kernel_rfl) (by simp) ?_
              refine AllReadyH.cons rfl (fun K hK => ?_) AllReadyH.nil
              go_simp
              go_wp2_with (go_at_call 52; refine (TId_any wx3 t (HF7.out.below hSQ5) FA.out.small).mono ?_; rintro e wx4 ⟨rfl, bwx4⟩; rw [EH.out.2])
              refine hK.out _ _ (Below.then_ hSQ5 bwx4) (fun hSQ6 => ?_)
              clear hK K
              refine wpAnyH_ready (rs := [26]) (by kernel_rfl) (by simp) ?_
              refine AllReadyH.cons rfl (fun K hK => ?_) AllReadyH.nil
              go_simp
              go_wp2_with (go_at_call 53; refine (refTId_any wx4 t (HF7.out.below hSQ6) FA.out.small).mono ?_; rintro e wx5 ⟨rfl, bwx5⟩; rw [EH.out.2])
              refine hK.out _ _ (Below.then_ hSQ6 bwx5) (fun hSQ7 => ?_)
              clear hK K
              (refine wpAnyH_take (i := 27) (oi := { dst := Option.some 53, op := Go.Op.binOp Go.BinOp.neq 44 (Go.Operand.tmp 50) (Go.Operand.tmp 52) 44, type := 4, pos := "law.go:64", after := #[{ on := 24, ground := Go.Ground.data }, { on := 26, ground := Go.Ground.data }, { on := 22, ground := Go.Ground.guard }], guard := Option.some (22, Bool.false) }) (v := ?_) rfl (by kernel_rfl) (by kernel_rfl) (by kernel_rfl) (fun _ _ _ h => h) (Or.inl ⟨by rfl, fun w' hSw => ?_⟩) hSQ7 ?_; rotate_left; focus (have hh := HH.out; go_simp; try with_reducible rfl))
              simp only [Act.put, List.setIfInBounds_toArray, List.set_cons_zero, List.set_cons_succ]
              as_aux_lemma =>
                (refine wpAnyH_take (i := 28) (oi := { dst := Option.some 54, op := Go.Op.pick (Go.Operand.tmp 48) (Go.Operand.const (Go.Value.bool Bool.true)) (Go.Operand.tmp 53), type := 4, pos := "law.go:64", after := #[{ on := 22, ground := Go.Ground.data }, { on := 27, ground := Go.Ground.data }], guard := Option.none }) (v := ?_) rfl (by kernel_rfl) (by kernel_rfl) (by kernel_rfl) (fun _ _ _ h => h) (Or.inl ⟨by rfl, fun w' hSw => ?_⟩) hSQ7 ?_; rotate_left; focus (go_simp; try with_reducible rfl))
                simp only [Act.put, List.setIfInBounds_toArray, List.set_cons_zero, List.set_cons_succ]
                refine wpAnyH_done (by kernel_rfl) ?_ _
                have HF9 := hide (HF7.out.below hSQ7)
                have HB9 := hide (HB7.out.below hSQ7)
                have T9 := hide (range_under T7.out hSQ7)
                have HY9 := hide (HY7.out.below hSQ7)
                have HB9w := hide (Below.then_ HB7w.out hSQ7)
                as_aux_lemma =>
                  go_wp2_with fail
                  refine wp_region_held_drew (S := fun w' => Below wx5.heap.size wx5 w') (by kernel_rfl) (by exact (Below.refl _ _).drew) (fun hSZ0 => ?_)
                  obtain ⟨wx5d, hwZ⟩ : ∃ x, x = wx5.drew := ⟨_, rfl⟩
                  rw [← hwZ] at hSZ0 ⊢
                  clear hwZ
                  (refine wpAnyH_take (i := 0) (oi := { dst := Option.some 55, op := Go.Op.load 65 (Go.Operand.tmp 3), type := 65, pos := "law.go:67", after := #[], guard := Option.none }) (v := ?_) rfl (by kernel_rfl) (by kernel_rfl) (by kernel_rfl) (fun _ _ _ h => h) (Or.inl ⟨by rfl, fun w' hSw => ?_⟩) hSZ0 ?_; rotate_left; focus (have hl := loadTx_run w' p0 0 t (range_under T9.out hSw); go_simp; try with_reducible rfl))
                  simp only [Act.put, List.setIfInBounds_toArray, List.set_cons_zero, List.set_cons_succ]
                  (refine wpAnyH_take (i := 2) (oi := { dst := Option.some 57, op := Go.Op.load 65 (Go.Operand.tmp 3), type := 65, pos := "law.go:67", after := #[], guard := Option.none }) (v := ?_) rfl (by kernel_rfl) (by kernel_rfl) (by kernel_rfl) (fun _ _ _ h => h) (Or.inl ⟨by rfl, fun w' hSw => ?_⟩) hSZ0 ?_; rotate_left; focus (have hl := loadTx_run w' p0 0 t (range_under T9.out hSw); go_simp; try with_reducible rfl))
                  simp only [Act.put, List.setIfInBounds_toArray, List.set_cons_zero, List.set_cons_succ]
                  refine wpAnyH_ready (rs := [1]) (by kernel_rfl) (by simp) ?_
                  refine AllReadyH.cons rfl (fun K hK => ?_) AllReadyH.nil
                  go_simp
                  go_wp2_with (go_at_call 43; refine (TCheck_any wx5d t (HF9.out.below hSZ0) FA.out.small).mono ?_; rintro e wx6 ⟨rfl, bwx6⟩)
                  refine hK.out _ _ (Below.then_ hSZ0 bwx6) (fun hSZ1 => ?_)
                  clear hK K
                  refine wpAnyH_ready (rs := [3]) (by kernel_rfl) (by simp) ?_
                  refine AllReadyH.cons rfl (fun K hK => ?_) AllReadyH.nil
                  go_simp
                  go_wp2_with (go_at_call 54; refine (refTCheck_any wx6 t (HF9.out.below hSZ1) FA.out.small).mono ?_; rintro e wx7 ⟨rfl, bwx7⟩)
                  refine hK.out _ _ (Below.then_ hSZ1 bwx7) (fun hSZ2 => ?_)
                  clear hK K
                  (refine wpAnyH_take (i := 4) (oi := { dst := Option.some 59, op := Go.Op.binOp Go.BinOp.eql 3 (Go.Operand.tmp 56) (Go.Operand.tmp 58) 3, type := 4, pos := "law.go:67", after := #[{ on := 1, ground := Go.Ground.data }, { on := 3, ground := Go.Ground.data }], guard := Option.none }) (v := ?_) rfl (by kernel_rfl) (by kernel_rfl) (by kernel_rfl) (fun _ _ _ h => h) (Or.inl ⟨by rfl, fun w' hSw => ?_⟩) hSZ2 ?_; rotate_left; focus (go_simp; try with_reducible rfl))
                  simp only [Act.put, List.setIfInBounds_toArray, List.set_cons_zero, List.set_cons_succ]
                  (refine wpAnyH_take (i := 5) (oi := { dst := Option.some 60, op := Go.Op.move (Go.Operand.tmp 59), type := 4, pos := "law.go:67", after := #[{ on := 4, ground := Go.Ground.data }, { on := 3, ground := Go.Ground.chain }], guard := Option.none }) (v := ?_) rfl (by kernel_rfl) (by kernel_rfl) (by kernel_rfl) (fun _ _ _ h => h) (Or.inl ⟨by rfl, fun w' hSw => ?_⟩) hSZ2 ?_; rotate_left; focus (go_simp; try with_reducible rfl))
                  simp only [Act.put, List.setIfInBounds_toArray, List.set_cons_zero, List.set_cons_succ]
                  (refine wpAnyH_take (i := 6) (oi := { dst := Option.some 61, op := Go.Op.load 65 (Go.Operand.tmp 3), type := 65, pos := "law.go:67", after := #[{ on := 5, ground := Go.Ground.guard }], guard := Option.some (5, Bool.true) }) (v := ?_) rfl (by kernel_rfl) (by kernel_rfl) (by kernel_rfl) (fun _ _ _ h => h) (Or.inl ⟨by rfl, fun w' hSw => ?_⟩) hSZ2 ?_; rotate_left; focus (have hl := loadTx_run w' p0 0 t (range_under T9.out hSw); go_simp; try with_reducible rfl))
                  simp only [Act.put, List.setIfInBounds_toArray, List.set_cons_zero, List.set_cons_succ]
                  as_aux_lemma =>
                    (refine wpAnyH_take (i := 8) (oi := { dst := Option.some 63, op := Go.Op.load 65 (Go.Operand.tmp 3), type := 65, pos := "law.go:67", after := #[{ on := 5, ground := Go.Ground.guard }], guard := Option.some (5, Bool.true) }) (v := ?_) rfl (by kernel_rfl) (by kernel_rfl) (by kernel_rfl) (fun _ _ _ h => h) (Or.inl ⟨by rfl, fun w' hSw => ?_⟩) hSZ2 ?_; rotate_left; focus (have hl := loadTx_run w' p0 0 t (range_under T9.out hSw); go_simp; try with_reducible rfl))
                    simp only [Act.put, List.setIfInBounds_toArray, List.set_cons_zero, List.set_cons_succ]
                    refine wpAnyH_ready (rs := [7]) (by kernel_rfl) (by simp) ?_
                    refine AllReadyH.cons rfl (fun K hK => ?_) AllReadyH.nil
                    go_simp
                    go_wp2_with (go_at_call 44; refine (TBase_any wx7 t (HF9.out.below hSZ2) FA.out.small).mono ?_; rintro e wx8 ⟨rfl, bwx8⟩)
                    refine hK.out _ _ (Below.then_ hSZ2 bwx8) (fun hSZ3 => ?_)
                    clear hK K
                    refine wpAnyH_ready (rs := [9]) (by kernel_rfl) (by simp) ?_
                    refine AllReadyH.cons rfl (fun K hK => ?_) AllReadyH.nil
                    go_simp
                    go_wp2_with (go_at_call 55; refine (refTBase_any wx8 t (HF9.out.below hSZ3) FA.out.small).mono ?_; rintro e wx9 ⟨rfl, bwx9⟩)
                    refine hK.out _ _ (Below.then_ hSZ3 bwx9) (fun hSZ4 => ?_)
                    clear hK K
                    (refine wpAnyH_take (i := 10) (oi := { dst := Option.some 65, op := Go.Op.binOp Go.BinOp.eql 4 (Go.Operand.tmp 62) (Go.Operand.tmp 64) 4, type := 4, pos := "law.go:67", after := #[{ on := 7, ground := Go.Ground.data }, { on := 9, ground := Go.Ground.data }, { on := 5, ground := Go.Ground.guard }], guard := Option.some (5, Bool.true) }) (v := ?_) rfl (by kernel_rfl) (by kernel_rfl) (by kernel_rfl) (fun _ _ _ h => h) (Or.inl ⟨by rfl, fun w' hSw => ?_⟩) hSZ4 ?_; rotate_left; focus (go_simp; try with_reducible rfl))
                    simp only [Act.put, List.setIfInBounds_toArray, List.set_cons_zero, List.set_cons_succ]
                    (refine wpAnyH_take (i := 11) (oi := { dst := Option.some 66, op := Go.Op.pick (Go.Operand.tmp 60) (Go.Operand.tmp 65) (Go.Operand.const (Go.Value.bool Bool.false)), type := 4, pos := "law.go:67", after := #[{ on := 5, ground := Go.Ground.data }, { on := 10, ground := Go.Ground.data }], guard := Option.none }) (v := ?_) rfl (by kernel_rfl) (by kernel_rfl) (by kernel_rfl) (fun _ _ _ h => h) (Or.inl ⟨by rfl, fun w' hSw => ?_⟩) hSZ4 ?_; rotate_left; focus (go_simp; try with_reducible rfl))
                    simp only [Act.put, List.setIfInBounds_toArray, List.set_cons_zero, List.set_cons_succ]
                    (refine wpAnyH_take (i := 12) (oi := { dst := Option.some 67, op := Go.Op.move (Go.Operand.tmp 66), type := 4, pos := "law.go:67", after := #[{ on := 11, ground := Go.Ground.data }, { on := 9, ground := Go.Ground.chain }], guard := Option.none }) (v := ?_) rfl (by kernel_rfl) (by kernel_rfl) (by kernel_rfl) (fun _ _ _ h => h) (Or.inl ⟨by rfl, fun w' hSw => ?_⟩) hSZ4 ?_; rotate_left; focus (go_simp; try with_reducible rfl))
                    simp only [Act.put, List.setIfInBounds_toArray, List.set_cons_zero, List.set_cons_succ]
                    (refine wpAnyH_take (i := 13) (oi := { dst := Option.some 68, op := Go.Op.load 65 (Go.Operand.tmp 3), type := 65, pos := "law.go:67", after := #[{ on := 12, ground := Go.Ground.guard }], guard := Option.some (12, Bool.true) }) (v := ?_) rfl (by kernel_rfl) (by kernel_rfl) (by kernel_rfl) (fun _ _ _ h => h) (Or.inl ⟨by rfl, fun w' hSw => ?_⟩) hSZ4 ?_; rotate_left; focus (have hl := loadTx_run w' p0 0 t (range_under T9.out hSw); go_simp; try with_reducible rfl))
                    simp only [Act.put, List.setIfInBounds_toArray, List.set_cons_zero, List.set_cons_succ]
                    as_aux_lemma =>
                      (refine wpAnyH_take (i := 14) (oi := { dst := Option.some 69, op := Go.Op.move (Go.Operand.tmp 1), type := 3, pos := "law.go:67", after := #[{ on := 12, ground := Go.Ground.guard }], guard := Option.some (12, Bool.true) }) (v := ?_) rfl (by kernel_rfl) (by kernel_rfl) (by kernel_rfl) (fun _ _ _ h => h) (Or.inl ⟨by rfl, fun w' hSw => ?_⟩) hSZ4 ?_; rotate_left; focus (go_simp; try with_reducible rfl))
                      simp only [Act.put, List.setIfInBounds_toArray, List.set_cons_zero, List.set_cons_succ]
                      (refine wpAnyH_take (i := 15) (oi := { dst := Option.some 70, op := Go.Op.move (Go.Operand.tmp 2), type := 22, pos := "law.go:67", after := #[{ on := 12, ground := Go.Ground.guard }], guard := Option.some (12, Bool.true) }) (v := ?_) rfl (by kernel_rfl) (by kernel_rfl) (by kernel_rfl) (fun _ _ _ h => h) (Or.inl ⟨by rfl, fun w' hSw => ?_⟩) hSZ4 ?_; rotate_left; focus (go_simp; try with_reducible rfl))
                      simp only [Act.put, List.setIfInBounds_toArray, List.set_cons_zero, List.set_cons_succ]
                      (refine wpAnyH_take (i := 17) (oi := { dst := Option.some 72, op := Go.Op.load 65 (Go.Operand.tmp 3), type := 65, pos := "law.go:67", after := #[{ on := 12, ground := Go.Ground.guard }], guard := Option.some (12, Bool.true) }) (v := ?_) rfl (by kernel_rfl) (by kernel_rfl) (by kernel_rfl) (fun _ _ _ h => h) (Or.inl ⟨by rfl, fun w' hSw => ?_⟩) hSZ4 ?_; rotate_left; focus (have hl := loadTx_run w' p0 0 t (range_under T9.out hSw); go_simp; try with_reducible rfl))
                      simp only [Act.put, List.setIfInBounds_toArray, List.set_cons_zero, List.set_cons_succ]
                      (refine wpAnyH_take (i := 18) (oi := { dst := Option.some 73, op := Go.Op.move (Go.Operand.tmp 1), type := 3, pos := "law.go:67", after := #[{ on := 12, ground := Go.Ground.guard }], guard := Option.some (12, Bool.true) }) (v := ?_) rfl (by kernel_rfl) (by kernel_rfl) (by kernel_rfl) (fun _ _ _ h => h) (Or.inl ⟨by rfl, fun w' hSw => ?_⟩) hSZ4 ?_; rotate_left; focus (go_simp; try with_reducible rfl))
                      simp only [Act.put, List.setIfInBounds_toArray, List.set_cons_zero, List.set_cons_succ]
                      (refine wpAnyH_take (i := 19) (oi := { dst := Option.some 74, op := Go.Op.move (Go.Operand.tmp 2), type := 22, pos := "law.go:67", after := #[{ on := 12, ground := Go.Ground.guard }], guard := Option.some (12, Bool.true) }) (v := ?_) rfl (by kernel_rfl) (by kernel_rfl) (by kernel_rfl) (fun _ _ _ h => h) (Or.inl ⟨by rfl, fun w' hSw => ?_⟩) hSZ4 ?_; rotate_left; focus (go_simp; try with_reducible rfl))
                      simp only [Act.put, List.setIfInBounds_toArray, List.set_cons_zero, List.set_cons_succ]
                      refine wpAnyH_ready (rs := [16]) (by kernel_rfl) (by simp) ?_
                      refine AllReadyH.cons rfl (fun K hK => ?_) AllReadyH.nil
                      go_simp
                      go_wp2_with (go_at_call 56; refine (THash_any wx9 t i B m d bs (HF9.out.below hSZ4) FA.out.small (HB9.out.below hSZ4) HC.out (by have := HM.out; omega) hi0 hi1).mono ?_; rintro e wx10 ⟨rfl, bwx10⟩; rw [EH.out.1])
                      refine hK.out _ _ (Below.then_ hSZ4 bwx10) (fun hSZ5 => ?_)
                      clear hK K
                      refine wpAnyH_ready (rs := [20]) (by kernel_rfl) (by simp) ?_
                      refine AllReadyH.cons rfl (fun K hK => ?_) AllReadyH.nil
                      go_simp
                      go_wp2_with (go_at_call 57; refine (refTHash_any wx10 t i B m d bs (HF9.out.below hSZ5) FA.out.small (HB9.out.below hSZ5) HC.out (by have := HM.out; omega) hi0 hi1).mono ?_; rintro e wx11 ⟨rfl, bwx11⟩; rw [EH.out.1])
                      refine hK.out _ _ (Below.then_ hSZ5 bwx11) (fun hSZ6 => ?_)
                      clear hK K
                      as_aux_lemma =>
                        (refine wpAnyH_take (i := 21) (oi := { dst := Option.some 76, op := Go.Op.binOp Go.BinOp.eql 44 (Go.Operand.tmp 71) (Go.Operand.tmp 75) 44, type := 4, pos := "law.go:67", after := #[{ on := 16, ground := Go.Ground.data }, { on := 20, ground := Go.Ground.data }, { on := 12, ground := Go.Ground.guard }], guard := Option.some (12, Bool.true) }) (v := ?_) rfl (by kernel_rfl) (by kernel_rfl) (by kernel_rfl) (fun _ _ _ h => h) (Or.inl ⟨by rfl, fun w' hSw => ?_⟩) hSZ6 ?_; rotate_left; focus (have hh := HH.out; go_simp; try with_reducible rfl))
                        simp only [Act.put, List.setIfInBounds_toArray, List.set_cons_zero, List.set_cons_succ]
                        (refine wpAnyH_take (i := 22) (oi := { dst := Option.some 77, op := Go.Op.pick (Go.Operand.tmp 67) (Go.Operand.tmp 76) (Go.Operand.const (Go.Value.bool Bool.false)), type := 4, pos := "law.go:67", after := #[{ on := 12, ground := Go.Ground.data }, { on := 21, ground := Go.Ground.data }], guard := Option.none }) (v := ?_) rfl (by kernel_rfl) (by kernel_rfl) (by kernel_rfl) (fun _ _ _ h => h) (Or.inl ⟨by rfl, fun w' hSw => ?_⟩) hSZ6 ?_; rotate_left; focus (go_simp; try with_reducible rfl))
                        simp only [Act.put, List.setIfInBounds_toArray, List.set_cons_zero, List.set_cons_succ]
                        (refine wpAnyH_take (i := 23) (oi := { dst := Option.some 78, op := Go.Op.move (Go.Operand.tmp 77), type := 4, pos := "law.go:67", after := #[{ on := 22, ground := Go.Ground.data }, { on := 20, ground := Go.Ground.chain }], guard := Option.none }) (v := ?_) rfl (by kernel_rfl) (by kernel_rfl) (by kernel_rfl) (fun _ _ _ h => h) (Or.inl ⟨by rfl, fun w' hSw => ?_⟩) hSZ6 ?_; rotate_left; focus (go_simp; try with_reducible rfl))
                        simp only [Act.put, List.setIfInBounds_toArray, List.set_cons_zero, List.set_cons_succ]
                        (refine wpAnyH_take (i := 24) (oi := { dst := Option.some 79, op := Go.Op.load 65 (Go.Operand.tmp 3), type := 65, pos := "law.go:67", after := #[{ on := 23, ground := Go.Ground.guard }], guard := Option.some (23, Bool.true) }) (v := ?_) rfl (by kernel_rfl) (by kernel_rfl) (by kernel_rfl) (fun _ _ _ h => h) (Or.inl ⟨by rfl, fun w' hSw => ?_⟩) hSZ6 ?_; rotate_left; focus (have hl := loadTx_run w' p0 0 t (range_under T9.out hSw); go_simp; try with_reducible rfl))
                        simp only [Act.put, List.setIfInBounds_toArray, List.set_cons_zero, List.set_cons_succ]
                        (refine wpAnyH_take (i := 27) (oi := { dst := Option.some 82, op := Go.Op.move (Go.Operand.tmp 7), type := 22, pos := "law.go:67", after := #[{ on := 23, ground := Go.Ground.guard }], guard := Option.some (23, Bool.true) }) (v := ?_) rfl (by kernel_rfl) (by kernel_rfl) (by kernel_rfl) (fun _ _ _ h => h) (Or.inl ⟨by rfl, fun w' hSw => ?_⟩) hSZ6 ?_; rotate_left; focus (go_simp; try with_reducible rfl))
                        simp only [Act.put, List.setIfInBounds_toArray, List.set_cons_zero, List.set_cons_succ]
                        refine wpAnyH_ready (rs := [25, 28]) (by kernel_rfl) (by simp) ?_
                        refine AllReadyH.cons rfl (fun K hK => ?_) (AllReadyH.cons rfl (fun K hK => ?_) AllReadyH.nil)
                        · go_simp
                          refine (TBytes_any wx11 t (HF9.out.below hSZ6) FA.out.small).mono ?_
                          rintro e wx12 ⟨Awx12, nwx12, cwx12, rfl, twx12, fwx12⟩
                          go_simp
                          have Ywx12 := hide twx12.bys
                          have gwx12 := twx12.below
                          clear twx12 fwx12
                          refine hK.out _ _ (Below.then_ hSZ6 gwx12) (fun hSZ7 => ?_)
                          clear hK K
                          refine wpAnyH_ready (rs := [26, 28]) (by kernel_rfl) (by simp) ?_
                          refine AllReadyH.cons rfl (fun K hK => ?_) (AllReadyH.cons rfl (fun K hK => ?_) AllReadyH.nil)
                          · have s8 := hsa.out wx12 Awx12 nwx12 cwx12 _ (by first | exact Ywx12.out | exact Ywx12.out.below (by assumption)) rfl
                            go_simp
                            refine hK.out _ _ (hSZ7) (fun hSZ8 => ?_)
                            clear hK K
                            as_aux_lemma =>
                              refine wpAnyH_ready (rs := [28]) (by kernel_rfl) (by simp) ?_
                              refine AllReadyH.cons rfl (fun K hK => ?_) AllReadyH.nil
                              have s7 := hsa.out wx12 A5 n5 c5 _ (HY9.out.below hSZ8) rfl
                              go_simp
                              refine hK.out _ _ (hSZ8) (fun hSZ9 => ?_)
                              clear hK K
                              (refine wpAnyH_take (i := 29) (oi := { dst := Option.some 84, op := Go.Op.binOp Go.BinOp.eql 9 (Go.Operand.tmp 81) (Go.Operand.tmp 83) 9, type := 4, pos := "law.go:67", after := #[{ on := 26, ground := Go.Ground.data }, { on := 28, ground := Go.Ground.data }, { on := 23, ground := Go.Ground.guard }], guard := Option.some (23, Bool.true) }) (v := ?_) rfl (by kernel_rfl) (by kernel_rfl) (by kernel_rfl) (fun _ _ _ h => h) (Or.inl ⟨by rfl, fun w' hSw => ?_⟩) hSZ9 ?_; rotate_left; focus (go_simp; try with_reducible rfl))
                              simp only [Act.put, List.setIfInBounds_toArray, List.set_cons_zero, List.set_cons_succ]
                              (refine wpAnyH_take (i := 30) (oi := { dst := Option.some 85, op := Go.Op.pick (Go.Operand.tmp 78) (Go.Operand.tmp 84) (Go.Operand.const (Go.Value.bool Bool.false)), type := 4, pos := "law.go:67", after := #[{ on := 23, ground := Go.Ground.data }, { on := 29, ground := Go.Ground.data }], guard := Option.none }) (v := ?_) rfl (by kernel_rfl) (by kernel_rfl) (by kernel_rfl) (fun _ _ _ h => h) (Or.inl ⟨by rfl, fun w' hSw => ?_⟩) hSZ9 ?_; rotate_left; focus (go_simp; try with_reducible rfl))
                              simp only [Act.put, List.setIfInBounds_toArray, List.set_cons_zero, List.set_cons_succ]
                              (refine wpAnyH_take (i := 31) (oi := { dst := Option.some 6, op := Go.Op.assign (Go.Operand.tmp 85), type := 4, pos := "law.go:67", after := #[{ on := 30, ground := Go.Ground.data }, { on := 25, ground := Go.Ground.chain }, { on := 0, ground := Go.Ground.phase }, { on := 1, ground := Go.Ground.phase }, { on := 2, ground := Go.Ground.phase }, { on := 3, ground := Go.Ground.phase }, { on := 4, ground := Go.Ground.phase }, { on := 5, ground := Go.Ground.phase }, { on := 6, ground := Go.Ground.phase }, { on := 7, ground := Go.Ground.phase }, { on := 8, ground := Go.Ground.phase }, { on := 9, ground := Go.Ground.phase }, { on := 10, ground := Go.Ground.phase }, { on := 11, ground := Go.Ground.phase }, { on := 12, ground := Go.Ground.phase }, { on := 13, ground := Go.Ground.phase }, { on := 14, ground := Go.Ground.phase }, { on := 15, ground := Go.Ground.phase }, { on := 16, ground := Go.Ground.phase }, { on := 17, ground := Go.Ground.phase }, { on := 18, ground := Go.Ground.phase }, { on := 19, ground := Go.Ground.phase }, { on := 20, ground := Go.Ground.phase }, { on := 21, ground := Go.Ground.phase }, { on := 22, ground := Go.Ground.phase }, { on := 23, ground := Go.Ground.phase }, { on := 24, ground := Go.Ground.phase }, { on := 25, ground := Go.Ground.phase }, { on := 26, ground := Go.Ground.phase }, { on := 27, ground := Go.Ground.phase }, { on := 28, ground := Go.Ground.phase }, { on := 29, ground := Go.Ground.phase }, { on := 30, ground := Go.Ground.phase }], guard := Option.none }) (v := ?_) rfl (by kernel_rfl) (by kernel_rfl) (by kernel_rfl) (fun _ _ _ h => h) (Or.inl ⟨by rfl, fun w' hSw => ?_⟩) hSZ9 ?_; rotate_left; focus (go_simp; try with_reducible rfl))
                              simp only [Act.put, List.setIfInBounds_toArray, List.set_cons_zero, List.set_cons_succ]
                              refine wpAnyH_done (by kernel_rfl) ?_ _
                              go_wp2_with fail
                              go_ret
                              exact ⟨by simp, Below.then_ HB9w.out hSZ9⟩
                          · have s7 := hsa.out wx12 A5 n5 c5 _ (HY9.out.below hSZ7) rfl
                            go_simp
                            refine hK.out _ _ (hSZ7) (fun hSZ8 => ?_)
                            clear hK K
                            as_aux_lemma =>
                              refine wpAnyH_ready (rs := [26]) (by kernel_rfl) (by simp) ?_
                              refine AllReadyH.cons rfl (fun K hK => ?_) AllReadyH.nil
                              have s8 := hsa.out wx12 Awx12 nwx12 cwx12 _ (by first | exact Ywx12.out | exact Ywx12.out.below (by assumption)) rfl
                              go_simp
                              refine hK.out _ _ (hSZ8) (fun hSZ9 => ?_)
                              clear hK K
                              (refine wpAnyH_take (i := 29) (oi := { dst := Option.some 84, op := Go.Op.binOp Go.BinOp.eql 9 (Go.Operand.tmp 81) (Go.Operand.tmp 83) 9, type := 4, pos := "law.go:67", after := #[{ on := 26, ground := Go.Ground.data }, { on := 28, ground := Go.Ground.data }, { on := 23, ground := Go.Ground.guard }], guard := Option.some (23, Bool.true) }) (v := ?_) rfl (by kernel_rfl) (by kernel_rfl) (by kernel_rfl) (fun _ _ _ h => h) (Or.inl ⟨by rfl, fun w' hSw => ?_⟩) hSZ9 ?_; rotate_left; focus (go_simp; try with_reducible rfl))
                              simp only [Act.put, List.setIfInBounds_toArray, List.set_cons_zero, List.set_cons_succ]
                              (refine wpAnyH_take (i := 30) (oi := { dst := Option.some 85, op := Go.Op.pick (Go.Operand.tmp 78) (Go.Operand.tmp 84) (Go.Operand.const (Go.Value.bool Bool.false)), type := 4, pos := "law.go:67", after := #[{ on := 23, ground := Go.Ground.data }, { on := 29, ground := Go.Ground.data }], guard := Option.none }) (v := ?_) rfl (by kernel_rfl) (by kernel_rfl) (by kernel_rfl) (fun _ _ _ h => h) (Or.inl ⟨by rfl, fun w' hSw => ?_⟩) hSZ9 ?_; rotate_left; focus (go_simp; try with_reducible rfl))
                              simp only [Act.put, List.setIfInBounds_toArray, List.set_cons_zero, List.set_cons_succ]
                              (refine wpAnyH_take (i := 31) (oi := { dst := Option.some 6, op := Go.Op.assign (Go.Operand.tmp 85), type := 4, pos := "law.go:67", after := #[{ on := 30, ground := Go.Ground.data }, { on := 25, ground := Go.Ground.chain }, { on := 0, ground := Go.Ground.phase }, { on := 1, ground := Go.Ground.phase }, { on := 2, ground := Go.Ground.phase }, { on := 3, ground := Go.Ground.phase }, { on := 4, ground := Go.Ground.phase }, { on := 5, ground := Go.Ground.phase }, { on := 6, ground := Go.Ground.phase }, { on := 7, ground := Go.Ground.phase }, { on := 8, ground := Go.Ground.phase }, { on := 9, ground := Go.Ground.phase }, { on := 10, ground := Go.Ground.phase }, { on := 11, ground := Go.Ground.phase }, { on := 12, ground := Go.Ground.phase }, { on := 13, ground := Go.Ground.phase }, { on := 14, ground := Go.Ground.phase }, { on := 15, ground := Go.Ground.phase }, { on := 16, ground := Go.Ground.phase }, { on := 17, ground := Go.Ground.phase }, { on := 18, ground := Go.Ground.phase }, { on := 19, ground := Go.Ground.phase }, { on := 20, ground := Go.Ground.phase }, { on := 21, ground := Go.Ground.phase }, { on := 22, ground := Go.Ground.phase }, { on := 23, ground := Go.Ground.phase }, { on := 24, ground := Go.Ground.phase }, { on := 25, ground := Go.Ground.phase }, { on := 26, ground := Go.Ground.phase }, { on := 27, ground := Go.Ground.phase }, { on := 28, ground := Go.Ground.phase }, { on := 29, ground := Go.Ground.phase }, { on := 30, ground := Go.Ground.phase }], guard := Option.none }) (v := ?_) rfl (by kernel_rfl) (by kernel_rfl) (by kernel_rfl) (fun _ _ _ h => h) (Or.inl ⟨by rfl, fun w' hSw => ?_⟩) hSZ9 ?_; rotate_left; focus (go_simp; try with_reducible rfl))
                              simp only [Act.put, List.setIfInBounds_toArray, List.set_cons_zero, List.set_cons_succ]
                              refine wpAnyH_done (by kernel_rfl) ?_ _
                              go_wp2_with fail
                              go_ret
                              exact ⟨by simp, Below.then_ HB9w.out hSZ9⟩
                        · have s7 := hsa.out wx11 A5 n5 c5 _ (HY9.out.below hSZ6) rfl
                          go_simp
                          refine hK.out _ _ (hSZ6) (fun hSZ7 => ?_)
                          clear hK K
                          refine wpAnyH_ready (rs := [25]) (by kernel_rfl) (by simp) ?_
                          refine AllReadyH.cons rfl (fun K hK => ?_) AllReadyH.nil
                          go_simp
                          refine (TBytes_any wx11 t (HF9.out.below hSZ7) FA.out.small).mono ?_
                          rintro e wx13 ⟨Awx13, nwx13, cwx13, rfl, twx13, fwx13⟩
                          go_simp
                          have Ywx13 := hide twx13.bys
                          have gwx13 := twx13.below
                          clear twx13 fwx13
                          refine hK.out _ _ (Below.then_ hSZ7 gwx13) (fun hSZ8 => ?_)
                          clear hK K
                          as_aux_lemma =>
                            refine wpAnyH_ready (rs := [26]) (by kernel_rfl) (by simp) ?_
                            refine AllReadyH.cons rfl (fun K hK => ?_) AllReadyH.nil
                            have s8 := hsa.out wx13 Awx13 nwx13 cwx13 _ (by first | exact Ywx13.out | exact Ywx13.out.below (by assumption)) rfl
                            go_simp
                            refine hK.out _ _ (hSZ8) (fun hSZ9 => ?_)
                            clear hK K
                            (refine wpAnyH_take (i := 29) (oi := { dst := Option.some 84, op := Go.Op.binOp Go.BinOp.eql 9 (Go.Operand.tmp 81) (Go.Operand.tmp 83) 9, type := 4, pos := "law.go:67", after := #[{ on := 26, ground := Go.Ground.data }, { on := 28, ground := Go.Ground.data }, { on := 23, ground := Go.Ground.guard }], guard := Option.some (23, Bool.true) }) (v := ?_) rfl (by kernel_rfl) (by kernel_rfl) (by kernel_rfl) (fun _ _ _ h => h) (Or.inl ⟨by rfl, fun w' hSw => ?_⟩) hSZ9 ?_; rotate_left; focus (go_simp; try with_reducible rfl))
                            simp only [Act.put, List.setIfInBounds_toArray, List.set_cons_zero, List.set_cons_succ]
                            (refine wpAnyH_take (i := 30) (oi := { dst := Option.some 85, op := Go.Op.pick (Go.Operand.tmp 78) (Go.Operand.tmp 84) (Go.Operand.const (Go.Value.bool Bool.false)), type := 4, pos := "law.go:67", after := #[{ on := 23, ground := Go.Ground.data }, { on := 29, ground := Go.Ground.data }], guard := Option.none }) (v := ?_) rfl (by kernel_rfl) (by kernel_rfl) (by kernel_rfl) (fun _ _ _ h => h) (Or.inl ⟨by rfl, fun w' hSw => ?_⟩) hSZ9 ?_; rotate_left; focus (go_simp; try with_reducible rfl))
                            simp only [Act.put, List.setIfInBounds_toArray, List.set_cons_zero, List.set_cons_succ]
                            (refine wpAnyH_take (i := 31) (oi := { dst := Option.some 6, op := Go.Op.assign (Go.Operand.tmp 85), type := 4, pos := "law.go:67", after := #[{ on := 30, ground := Go.Ground.data }, { on := 25, ground := Go.Ground.chain }, { on := 0, ground := Go.Ground.phase }, { on := 1, ground := Go.Ground.phase }, { on := 2, ground := Go.Ground.phase }, { on := 3, ground := Go.Ground.phase }, { on := 4, ground := Go.Ground.phase }, { on := 5, ground := Go.Ground.phase }, { on := 6, ground := Go.Ground.phase }, { on := 7, ground := Go.Ground.phase }, { on := 8, ground := Go.Ground.phase }, { on := 9, ground := Go.Ground.phase }, { on := 10, ground := Go.Ground.phase }, { on := 11, ground := Go.Ground.phase }, { on := 12, ground := Go.Ground.phase }, { on := 13, ground := Go.Ground.phase }, { on := 14, ground := Go.Ground.phase }, { on := 15, ground := Go.Ground.phase }, { on := 16, ground := Go.Ground.phase }, { on := 17, ground := Go.Ground.phase }, { on := 18, ground := Go.Ground.phase }, { on := 19, ground := Go.Ground.phase }, { on := 20, ground := Go.Ground.phase }, { on := 21, ground := Go.Ground.phase }, { on := 22, ground := Go.Ground.phase }, { on := 23, ground := Go.Ground.phase }, { on := 24, ground := Go.Ground.phase }, { on := 25, ground := Go.Ground.phase }, { on := 26, ground := Go.Ground.phase }, { on := 27, ground := Go.Ground.phase }, { on := 28, ground := Go.Ground.phase }, { on := 29, ground := Go.Ground.phase }, { on := 30, ground := Go.Ground.phase }], guard := Option.none }) (v := ?_) rfl (by kernel_rfl) (by kernel_rfl) (by kernel_rfl) (fun _ _ _ h => h) (Or.inl ⟨by rfl, fun w' hSw => ?_⟩) hSZ9 ?_; rotate_left; focus (go_simp; try with_reducible rfl))
                            simp only [Act.put, List.setIfInBounds_toArray, List.set_cons_zero, List.set_cons_succ]
                            refine wpAnyH_done (by kernel_rfl) ?_ _
                            go_wp2_with fail
                            go_ret
                            exact ⟨by simp, Below.then_ HB9w.out hSZ9⟩
      · go_simp
        refine (refTBytes_any w7d t (HF7.out.below hSQ0) FA.out.small).mono ?_
        rintro e wx14 ⟨Awx14, nwx14, cwx14, rfl, twx14, fwx14⟩
        go_simp
        have Ywx14 := hide twx14.bys
        have gwx14 := twx14.below
        clear twx14 fwx14
        refine hK.out _ _ (Below.then_ hSQ0 gwx14) (fun hSQ1 => ?_)
        clear hK K
        refine wpAnyH_ready (rs := [1, 4]) (by kernel_rfl) (by simp) ?_
        refine AllReadyH.cons rfl (fun K hK => ?_) (AllReadyH.cons rfl (fun K hK => ?_) AllReadyH.nil)
        · have s7 := hsa.out wx14 A5 n5 c5 _ (HY7.out.below hSQ1) rfl
          go_simp
          refine hK.out _ _ (hSQ1) (fun hSQ2 => ?_)
          clear hK K
          refine wpAnyH_ready (rs := [4]) (by kernel_rfl) (by simp) ?_
          refine AllReadyH.cons rfl (fun K hK => ?_) AllReadyH.nil
          have s8 := hsa.out wx14 Awx14 nwx14 cwx14 _ (by first | exact Ywx14.out | exact Ywx14.out.below (by assumption)) rfl
          go_simp
          refine hK.out _ _ (hSQ2) (fun hSQ3 => ?_)
          clear hK K
          (refine wpAnyH_take (i := 5) (oi := { dst := Option.some 31, op := Go.Op.binOp Go.BinOp.neq 9 (Go.Operand.tmp 27) (Go.Operand.tmp 30) 9, type := 4, pos := "law.go:64", after := #[{ on := 1, ground := Go.Ground.data }, { on := 4, ground := Go.Ground.data }], guard := Option.none }) (v := ?_) rfl (by kernel_rfl) (by kernel_rfl) (by kernel_rfl) (fun _ _ _ h => h) (Or.inl ⟨by rfl, fun w' hSw => ?_⟩) hSQ3 ?_; rotate_left; focus (go_simp; try with_reducible rfl))
          simp only [Act.put, List.setIfInBounds_toArray, List.set_cons_zero, List.set_cons_succ]
          (refine wpAnyH_take (i := 6) (oi := { dst := Option.some 32, op := Go.Op.move (Go.Operand.tmp 31), type := 4, pos := "law.go:64", after := #[{ on := 5, ground := Go.Ground.data }, { on := 3, ground := Go.Ground.chain }], guard := Option.none }) (v := ?_) rfl (by kernel_rfl) (by kernel_rfl) (by kernel_rfl) (fun _ _ _ h => h) (Or.inl ⟨by rfl, fun w' hSw => ?_⟩) hSQ3 ?_; rotate_left; focus (go_simp; try with_reducible rfl))
          simp only [Act.put, List.setIfInBounds_toArray, List.set_cons_zero, List.set_cons_succ]
          as_aux_lemma =>
            (refine wpAnyH_take (i := 7) (oi := { dst := Option.some 33, op := Go.Op.move (Go.Operand.tmp 9), type := 28, pos := "law.go:64", after := #[{ on := 6, ground := Go.Ground.guard }], guard := Option.some (6, Bool.false) }) (v := ?_) rfl (by kernel_rfl) (by kernel_rfl) (by kernel_rfl) (fun _ _ _ h => h) (Or.inl ⟨by rfl, fun w' hSw => ?_⟩) hSQ3 ?_; rotate_left; focus (go_simp; try with_reducible rfl))
            simp only [Act.put, List.setIfInBounds_toArray, List.set_cons_zero, List.set_cons_succ]
            (refine wpAnyH_take (i := 8) (oi := { dst := Option.some 34, op := Go.Op.binOp Go.BinOp.neq 28 (Go.Operand.tmp 33) (Go.Operand.const (Go.Value.int Go.IntKind.i64 0)) 28, type := 4, pos := "law.go:64", after := #[{ on := 7, ground := Go.Ground.data }, { on := 6, ground := Go.Ground.guard }], guard := Option.some (6, Bool.false) }) (v := ?_) rfl (by kernel_rfl) (by kernel_rfl) (by kernel_rfl) (fun _ _ _ h => h) (Or.inl ⟨by rfl, fun w' hSw => ?_⟩) hSQ3 ?_; rotate_left; focus (go_simp; try with_reducible rfl))
            simp only [Act.put, List.setIfInBounds_toArray, List.set_cons_zero, List.set_cons_succ]
            (refine wpAnyH_take (i := 9) (oi := { dst := Option.some 35, op := Go.Op.pick (Go.Operand.tmp 32) (Go.Operand.const (Go.Value.bool Bool.true)) (Go.Operand.tmp 34), type := 4, pos := "law.go:64", after := #[{ on := 6, ground := Go.Ground.data }, { on := 8, ground := Go.Ground.data }], guard := Option.none }) (v := ?_) rfl (by kernel_rfl) (by kernel_rfl) (by kernel_rfl) (fun _ _ _ h => h) (Or.inl ⟨by rfl, fun w' hSw => ?_⟩) hSQ3 ?_; rotate_left; focus (go_simp; try with_reducible rfl))
            simp only [Act.put, List.setIfInBounds_toArray, List.set_cons_zero, List.set_cons_succ]
            (refine wpAnyH_take (i := 10) (oi := { dst := Option.some 36, op := Go.Op.move (Go.Operand.tmp 35), type := 4, pos := "law.go:64", after := #[{ on := 9, ground := Go.Ground.data }, { on := 6, ground := Go.Ground.chain }], guard := Option.none }) (v := ?_) rfl (by kernel_rfl) (by kernel_rfl) (by kernel_rfl) (fun _ _ _ h => h) (Or.inl ⟨by rfl, fun w' hSw => ?_⟩) hSQ3 ?_; rotate_left; focus (go_simp; try with_reducible rfl))
            simp only [Act.put, List.setIfInBounds_toArray, List.set_cons_zero, List.set_cons_succ]
            (refine wpAnyH_take (i := 11) (oi := { dst := Option.some 37, op := Go.Op.load 65 (Go.Operand.tmp 8), type := 65, pos := "law.go:64", after := #[{ on := 10, ground := Go.Ground.guard }], guard := Option.some (10, Bool.false) }) (v := ?_) rfl (by kernel_rfl) (by kernel_rfl) (by kernel_rfl) (fun _ _ _ h => h) (Or.inl ⟨by rfl, fun w' hSw => ?_⟩) hSQ3 ?_; rotate_left; focus (have hl := loadTx_run w' p8 0 V (range_under X7.out hSw); go_simp; try with_reducible rfl))
            simp only [Act.put, List.setIfInBounds_toArray, List.set_cons_zero, List.set_cons_succ]
            (refine wpAnyH_take (i := 12) (oi := { dst := Option.some 38, op := Go.Op.load 65 (Go.Operand.tmp 3), type := 65, pos := "law.go:64", after := #[{ on := 10, ground := Go.Ground.guard }], guard := Option.some (10, Bool.false) }) (v := ?_) rfl (by kernel_rfl) (by kernel_rfl) (by kernel_rfl) (fun _ _ _ h => h) (Or.inl ⟨by rfl, fun w' hSw => ?_⟩) hSQ3 ?_; rotate_left; focus (have hl := loadTx_run w' p0 0 t (range_under T7.out hSw); go_simp; try with_reducible rfl))
            simp only [Act.put, List.setIfInBounds_toArray, List.set_cons_zero, List.set_cons_succ]
            refine wpAnyH_ready (rs := [13]) (by kernel_rfl) (by simp) ?_
            refine AllReadyH.cons rfl (fun K hK => ?_) AllReadyH.nil
            go_simp
            go_wp2_with (go_at_call 51; refine (TSame_any wx14 V t (HV7.out.below hSQ3) (HF7.out.below hSQ3) HVS.out FA.out.small).mono ?_; rintro e wx15 ⟨rfl, bwx15⟩; rw [HSS.out])
            refine hK.out _ _ (Below.then_ hSQ3 bwx15) (fun hSQ4 => ?_)
            clear hK K
            as_aux_lemma =>
              (refine wpAnyH_take (i := 14) (oi := { dst := Option.some 40, op := Go.Op.unOp Go.UnOp.not 4 (Go.Operand.tmp 39), type := 4, pos := "law.go:64", after := #[{ on := 13, ground := Go.Ground.data }, { on := 10, ground := Go.Ground.guard }], guard := Option.some (10, Bool.false) }) (v := ?_) rfl (by kernel_rfl) (by kernel_rfl) (by kernel_rfl) (fun _ _ _ h => h) (Or.inl ⟨by rfl, fun w' hSw => ?_⟩) hSQ4 ?_; rotate_left; focus (go_simp; try with_reducible rfl))
              simp only [Act.put, List.setIfInBounds_toArray, List.set_cons_zero, List.set_cons_succ]
              (refine wpAnyH_take (i := 15) (oi := { dst := Option.some 41, op := Go.Op.pick (Go.Operand.tmp 36) (Go.Operand.const (Go.Value.bool Bool.true)) (Go.Operand.tmp 40), type := 4, pos := "law.go:64", after := #[{ on := 10, ground := Go.Ground.data }, { on := 14, ground := Go.Ground.data }], guard := Option.none }) (v := ?_) rfl (by kernel_rfl) (by kernel_rfl) (by kernel_rfl) (fun _ _ _ h => h) (Or.inl ⟨by rfl, fun w' hSw => ?_⟩) hSQ4 ?_; rotate_left; focus (go_simp; try with_reducible rfl))
              simp only [Act.put, List.setIfInBounds_toArray, List.set_cons_zero, List.set_cons_succ]
              (refine wpAnyH_take (i := 16) (oi := { dst := Option.some 42, op := Go.Op.move (Go.Operand.tmp 41), type := 4, pos := "law.go:64", after := #[{ on := 15, ground := Go.Ground.data }, { on := 13, ground := Go.Ground.chain }], guard := Option.none }) (v := ?_) rfl (by kernel_rfl) (by kernel_rfl) (by kernel_rfl) (fun _ _ _ h => h) (Or.inl ⟨by rfl, fun w' hSw => ?_⟩) hSQ4 ?_; rotate_left; focus (go_simp; try with_reducible rfl))
              simp only [Act.put, List.setIfInBounds_toArray, List.set_cons_zero, List.set_cons_succ]
              (refine wpAnyH_take (i := 17) (oi := { dst := Option.some 43, op := Go.Op.load 65 (Go.Operand.tmp 8), type := 65, pos := "law.go:64", after := #[{ on := 16, ground := Go.Ground.guard }], guard := Option.some (16, Bool.false) }) (v := ?_) rfl (by kernel_rfl) (by kernel_rfl) (by kernel_rfl) (fun _ _ _ h => h) (Or.inl ⟨by rfl, fun w' hSw => ?_⟩) hSQ4 ?_; rotate_left; focus (have hl := loadTx_run w' p8 0 V (range_under X7.out hSw); go_simp; try with_reducible rfl))
              simp only [Act.put, List.setIfInBounds_toArray, List.set_cons_zero, List.set_cons_succ]
              (refine wpAnyH_take (i := 18) (oi := { dst := Option.some 44, op := Go.Op.load 65 (Go.Operand.tmp 3), type := 65, pos := "law.go:64", after := #[{ on := 16, ground := Go.Ground.guard }], guard := Option.some (16, Bool.false) }) (v := ?_) rfl (by kernel_rfl) (by kernel_rfl) (by kernel_rfl) (fun _ _ _ h => h) (Or.inl ⟨by rfl, fun w' hSw => ?_⟩) hSQ4 ?_; rotate_left; focus (have hl := loadTx_run w' p0 0 t (range_under T7.out hSw); go_simp; try with_reducible rfl))
              simp only [Act.put, List.setIfInBounds_toArray, List.set_cons_zero, List.set_cons_succ]
              refine wpAnyH_ready (rs := [19]) (by kernel_rfl) (by simp) ?_
              refine AllReadyH.cons rfl (fun K hK => ?_) AllReadyH.nil
              go_simp
              go_wp2_with (go_at_call 46; refine (refTSame_any wx15 V t (HV7.out.below hSQ4) (HF7.out.below hSQ4) HVS.out FA.out.small).mono ?_; rintro e wx16 ⟨rfl, bwx16⟩; rw [HSR.out])
              refine hK.out _ _ (Below.then_ hSQ4 bwx16) (fun hSQ5 => ?_)
              clear hK K
              (refine wpAnyH_take (i := 20) (oi := { dst := Option.some 46, op := Go.Op.unOp Go.UnOp.not 4 (Go.Operand.tmp 45), type := 4, pos := "law.go:64", after := #[{ on := 19, ground := Go.Ground.data }, { on := 16, ground := Go.Ground.guard }], guard := Option.some (16, Bool.false) }) (v := ?_) rfl (by kernel_rfl) (by kernel_rfl) (by kernel_rfl) (fun _ _ _ h => h) (Or.inl ⟨by rfl, fun w' hSw => ?_⟩) hSQ5 ?_; rotate_left; focus (go_simp; try with_reducible rfl))
              simp only [Act.put, List.setIfInBounds_toArray, List.set_cons_zero, List.set_cons_succ]
              as_aux_lemma =>
                (refine wpAnyH_take (i := 21) (oi := { dst := Option.some 47, op := Go.Op.pick (Go.Operand.tmp 42) (Go.Operand.const (Go.Value.bool Bool.true)) (Go.Operand.tmp 46), type := 4, pos := "law.go:64", after := #[{ on := 16, ground := Go.Ground.data }, { on := 20, ground := Go.Ground.data }], guard := Option.none }) (v := ?_) rfl (by kernel_rfl) (by kernel_rfl) (by kernel_rfl) (fun _ _ _ h => h) (Or.inl ⟨by rfl, fun w' hSw => ?_⟩) hSQ5 ?_; rotate_left; focus (go_simp; try with_reducible rfl))
                simp only [Act.put, List.setIfInBounds_toArray, List.set_cons_zero, List.set_cons_succ]
                (refine wpAnyH_take (i := 22) (oi := { dst := Option.some 48, op := Go.Op.move (Go.Operand.tmp 47), type := 4, pos := "law.go:64", after := #[{ on := 21, ground := Go.Ground.data }, { on := 19, ground := Go.Ground.chain }], guard := Option.none }) (v := ?_) rfl (by kernel_rfl) (by kernel_rfl) (by kernel_rfl) (fun _ _ _ h => h) (Or.inl ⟨by rfl, fun w' hSw => ?_⟩) hSQ5 ?_; rotate_left; focus (go_simp; try with_reducible rfl))
                simp only [Act.put, List.setIfInBounds_toArray, List.set_cons_zero, List.set_cons_succ]
                (refine wpAnyH_take (i := 23) (oi := { dst := Option.some 49, op := Go.Op.load 65 (Go.Operand.tmp 3), type := 65, pos := "law.go:64", after := #[{ on := 22, ground := Go.Ground.guard }], guard := Option.some (22, Bool.false) }) (v := ?_) rfl (by kernel_rfl) (by kernel_rfl) (by kernel_rfl) (fun _ _ _ h => h) (Or.inl ⟨by rfl, fun w' hSw => ?_⟩) hSQ5 ?_; rotate_left; focus (have hl := loadTx_run w' p0 0 t (range_under T7.out hSw); go_simp; try with_reducible rfl))
                simp only [Act.put, List.setIfInBounds_toArray, List.set_cons_zero, List.set_cons_succ]
                (refine wpAnyH_take (i := 25) (oi := { dst := Option.some 51, op := Go.Op.load 65 (Go.Operand.tmp 3), type := 65, pos := "law.go:64", after := #[{ on := 22, ground := Go.Ground.guard }], guard := Option.some (22, Bool.false) }) (v := ?_) rfl (by kernel_rfl) (by kernel_rfl) (by kernel_rfl) (fun _ _ _ h => h) (Or.inl ⟨by rfl, fun w' hSw => ?_⟩) hSQ5 ?_; rotate_left; focus (have hl := loadTx_run w' p0 0 t (range_under T7.out hSw); go_simp; try with_reducible rfl))
                simp only [Act.put, List.setIfInBounds_toArray, List.set_cons_zero, List.set_cons_succ]
                refine wpAnyH_ready (rs := [24]) (by kernel_rfl) (by simp) ?_
                refine AllReadyH.cons rfl (fun K hK => ?_) AllReadyH.nil
                go_simp
                go_wp2_with (go_at_call 52; refine (TId_any wx16 t (HF7.out.below hSQ5) FA.out.small).mono ?_; rintro e wx17 ⟨rfl, bwx17⟩; rw [EH.out.2])
                refine hK.out _ _ (Below.then_ hSQ5 bwx17) (fun hSQ6 => ?_)
                clear hK K
                refine wpAnyH_ready (rs := [26]) (by kernel_rfl) (by simp) ?_
                refine AllReadyH.cons rfl (fun K hK => ?_) AllReadyH.nil
                go_simp
                go_wp2_with (go_at_call 53; refine (refTId_any wx17 t (HF7.out.below hSQ6) FA.out.small).mono ?_; rintro e wx18 ⟨rfl, bwx18⟩; rw [EH.out.2])
                refine hK.out _ _ (Below.then_ hSQ6 bwx18) (fun hSQ7 => ?_)
                clear hK K
                (refine wpAnyH_take (i := 27) (oi := { dst := Option.some 53, op := Go.Op.binOp Go.BinOp.neq 44 (Go.Operand.tmp 50) (Go.Operand.tmp 52) 44, type := 4, pos := "law.go:64", after := #[{ on := 24, ground := Go.Ground.data }, { on := 26, ground := Go.Ground.data }, { on := 22, ground := Go.Ground.guard }], guard := Option.some (22, Bool.false) }) (v := ?_) rfl (by kernel_rfl) (by kernel_rfl) (by kernel_rfl) (fun _ _ _ h => h) (Or.inl ⟨by rfl, fun w' hSw => ?_⟩) hSQ7 ?_; rotate_left; focus (have hh := HH.out; go_simp; try with_reducible rfl))
                simp only [Act.put, List.setIfInBounds_toArray, List.set_cons_zero, List.set_cons_succ]
                as_aux_lemma =>
                  (refine wpAnyH_take (i := 28) (oi := { dst := Option.some 54, op := Go.Op.pick (Go.Operand.tmp 48) (Go.Operand.const (Go.Value.bool Bool.true)) (Go.Operand.tmp 53), type := 4, pos := "law.go:64", after := #[{ on := 22, ground := Go.Ground.data }, { on := 27, ground := Go.Ground.data }], guard := Option.none }) (v := ?_) rfl (by kernel_rfl) (by kernel_rfl) (by kernel_rfl) (fun _ _ _ h => h) (Or.inl ⟨by rfl, fun w' hSw => ?_⟩) hSQ7 ?_; rotate_left; focus (go_simp; try with_reducible rfl))
                  simp only [Act.put, List.setIfInBounds_toArray, List.set_cons_zero, List.set_cons_succ]
                  refine wpAnyH_done (by kernel_rfl) ?_ _
                  have HF9 := hide (HF7.out.below hSQ7)
                  have HB9 := hide (HB7.out.below hSQ7)
                  have T9 := hide (range_under T7.out hSQ7)
                  have HY9 := hide (HY7.out.below hSQ7)
                  have HB9w := hide (Below.then_ HB7w.out hSQ7)
                  as_aux_lemma =>
                    go_wp2_with fail
                    refine wp_region_held_drew (S := fun w' => Below wx18.heap.size wx18 w') (by kernel_rfl) (by exact (Below.refl _ _).drew) (fun hSZ0 => ?_)
                    obtain ⟨wx18d, hwZ⟩ : ∃ x, x = wx18.drew := ⟨_, rfl⟩
                    rw [← hwZ] at hSZ0 ⊢
                    clear hwZ
                    (refine wpAnyH_take (i := 0) (oi := { dst := Option.some 55, op := Go.Op.load 65 (Go.Operand.tmp 3), type := 65, pos := "law.go:67", after := #[], guard := Option.none }) (v := ?_) rfl (by kernel_rfl) (by kernel_rfl) (by kernel_rfl) (fun _ _ _ h => h) (Or.inl ⟨by rfl, fun w' hSw => ?_⟩) hSZ0 ?_; rotate_left; focus (have hl := loadTx_run w' p0 0 t (range_under T9.out hSw); go_simp; try with_reducible rfl))
                    simp only [Act.put, List.setIfInBounds_toArray, List.set_cons_zero, List.set_cons_succ]
                    (refine wpAnyH_take (i := 2) (oi := { dst := Option.some 57, op := Go.Op.load 65 (Go.Operand.tmp 3), type := 65, pos := "law.go:67", after := #[], guard := Option.none }) (v := ?_) rfl (by kernel_rfl) (by kernel_rfl) (by kernel_rfl) (fun _ _ _ h => h) (Or.inl ⟨by rfl, fun w' hSw => ?_⟩) hSZ0 ?_; rotate_left; focus (have hl := loadTx_run w' p0 0 t (range_under T9.out hSw); go_simp; try with_reducible rfl))
                    simp only [Act.put, List.setIfInBounds_toArray, List.set_cons_zero, List.set_cons_succ]
                    refine wpAnyH_ready (rs := [1]) (by kernel_rfl) (by simp) ?_
                    refine AllReadyH.cons rfl (fun K hK => ?_) AllReadyH.nil
                    go_simp
                    go_wp2_with (go_at_call 43; refine (TCheck_any wx18d t (HF9.out.below hSZ0) FA.out.small).mono ?_; rintro e wx19 ⟨rfl, bwx19⟩)
                    refine hK.out _ _ (Below.then_ hSZ0 bwx19) (fun hSZ1 => ?_)
                    clear hK K
                    refine wpAnyH_ready (rs := [3]) (by kernel_rfl) (by simp) ?_
                    refine AllReadyH.cons rfl (fun K hK => ?_) AllReadyH.nil
                    go_simp
                    go_wp2_with (go_at_call 54; refine (refTCheck_any wx19 t (HF9.out.below hSZ1) FA.out.small).mono ?_; rintro e wx20 ⟨rfl, bwx20⟩)
                    refine hK.out _ _ (Below.then_ hSZ1 bwx20) (fun hSZ2 => ?_)
                    clear hK K
                    (refine wpAnyH_take (i := 4) (oi := { dst := Option.some 59, op := Go.Op.binOp Go.BinOp.eql 3 (Go.Operand.tmp 56) (Go.Operand.tmp 58) 3, type := 4, pos := "law.go:67", after := #[{ on := 1, ground := Go.Ground.data }, { on := 3, ground := Go.Ground.data }], guard := Option.none }) (v := ?_) rfl (by kernel_rfl) (by kernel_rfl) (by kernel_rfl) (fun _ _ _ h => h) (Or.inl ⟨by rfl, fun w' hSw => ?_⟩) hSZ2 ?_; rotate_left; focus (go_simp; try with_reducible rfl))
                    simp only [Act.put, List.setIfInBounds_toArray, List.set_cons_zero, List.set_cons_succ]
                    (refine wpAnyH_take (i := 5) (oi := { dst := Option.some 60, op := Go.Op.move (Go.Operand.tmp 59), type := 4, pos := "law.go:67", after := #[{ on := 4, ground := Go.Ground.data }, { on := 3, ground := Go.Ground.chain }], guard := Option.none }) (v := ?_) rfl (by kernel_rfl) (by kernel_rfl) (by kernel_rfl) (fun _ _ _ h => h) (Or.inl ⟨by rfl, fun w' hSw => ?_⟩) hSZ2 ?_; rotate_left; focus (go_simp; try with_reducible rfl))
                    simp only [Act.put, List.setIfInBounds_toArray, List.set_cons_zero, List.set_cons_succ]
                    (refine wpAnyH_take (i := 6) (oi := { dst := Option.some 61, op := Go.Op.load 65 (Go.Operand.tmp 3), type := 65, pos := "law.go:67", after := #[{ on := 5, ground := Go.Ground.guard }], guard := Option.some (5, Bool.true) }) (v := ?_) rfl (by kernel_rfl) (by kernel_rfl) (by kernel_rfl) (fun _ _ _ h => h) (Or.inl ⟨by rfl, fun w' hSw => ?_⟩) hSZ2 ?_; rotate_left; focus (have hl := loadTx_run w' p0 0 t (range_under T9.out hSw); go_simp; try with_reducible rfl))
                    simp only [Act.put, List.setIfInBounds_toArray, List.set_cons_zero, List.set_cons_succ]
                    as_aux_lemma =>
                      (refine wpAnyH_take (i := 8) (oi := { dst := Option.some 63, op := Go.Op.load 65 (Go.Operand.tmp 3), type := 65, pos := "law.go:67", after := #[{ on := 5, ground := Go.Ground.guard }], guard := Option.some (5, Bool.true) }) (v := ?_) rfl (by kernel_rfl) (by kernel_rfl) (by kernel_rfl) (fun _ _ _ h => h) (Or.inl ⟨by rfl, fun w' hSw => ?_⟩) hSZ2 ?_; rotate_left; focus (have hl := loadTx_run w' p0 0 t (range_under T9.out hSw); go_simp; try with_reducible rfl))
                      simp only [Act.put, List.setIfInBounds_toArray, List.set_cons_zero, List.set_cons_succ]
                      refine wpAnyH_ready (rs := [7]) (by kernel_rfl) (by simp) ?_
                      refine AllReadyH.cons rfl (fun K hK => ?_) AllReadyH.nil
                      go_simp
                      go_wp2_with (go_at_call 44; refine (TBase_any wx20 t (HF9.out.below hSZ2) FA.out.small).mono ?_; rintro e wx21 ⟨rfl, bwx21⟩)
                      refine hK.out _ _ (Below.then_ hSZ2 bwx21) (fun hSZ3 => ?_)
                      clear hK K
                      refine wpAnyH_ready (rs := [9]) (by kernel_rfl) (by simp) ?_
                      refine AllReadyH.cons rfl (fun K hK => ?_) AllReadyH.nil
                      go_simp
                      go_wp2_with (go_at_call 55; refine (refTBase_any wx21 t (HF9.out.below hSZ3) FA.out.small).mono ?_; rintro e wx22 ⟨rfl, bwx22⟩)
                      refine hK.out _ _ (Below.then_ hSZ3 bwx22) (fun hSZ4 => ?_)
                      clear hK K
                      (refine wpAnyH_take (i := 10) (oi := { dst := Option.some 65, op := Go.Op.binOp Go.BinOp.eql 4 (Go.Operand.tmp 62) (Go.Operand.tmp 64) 4, type := 4, pos := "law.go:67", after := #[{ on := 7, ground := Go.Ground.data }, { on := 9, ground := Go.Ground.data }, { on := 5, ground := Go.Ground.guard }], guard := Option.some (5, Bool.true) }) (v := ?_) rfl (by kernel_rfl) (by kernel_rfl) (by kernel_rfl) (fun _ _ _ h => h) (Or.inl ⟨by rfl, fun w' hSw => ?_⟩) hSZ4 ?_; rotate_left; focus (go_simp; try with_reducible rfl))
                      simp only [Act.put, List.setIfInBounds_toArray, List.set_cons_zero, List.set_cons_succ]
                      (refine wpAnyH_take (i := 11) (oi := { dst := Option.some 66, op := Go.Op.pick (Go.Operand.tmp 60) (Go.Operand.tmp 65) (Go.Operand.const (Go.Value.bool Bool.false)), type := 4, pos := "law.go:67", after := #[{ on := 5, ground := Go.Ground.data }, { on := 10, ground := Go.Ground.data }], guard := Option.none }) (v := ?_) rfl (by kernel_rfl) (by kernel_rfl) (by kernel_rfl) (fun _ _ _ h => h) (Or.inl ⟨by rfl, fun w' hSw => ?_⟩) hSZ4 ?_; rotate_left; focus (go_simp; try with_reducible rfl))
                      simp only [Act.put, List.setIfInBounds_toArray, List.set_cons_zero, List.set_cons_succ]
                      (refine wpAnyH_take (i := 12) (oi := { dst := Option.some 67, op := Go.Op.move (Go.Operand.tmp 66), type := 4, pos := "law.go:67", after := #[{ on := 11, ground := Go.Ground.data }, { on := 9, ground := Go.Ground.chain }], guard := Option.none }) (v := ?_) rfl (by kernel_rfl) (by kernel_rfl) (by kernel_rfl) (fun _ _ _ h => h) (Or.inl ⟨by rfl, fun w' hSw => ?_⟩) hSZ4 ?_; rotate_left; focus (go_simp; try with_reducible rfl))
                      simp only [Act.put, List.setIfInBounds_toArray, List.set_cons_zero, List.set_cons_succ]
                      (refine wpAnyH_take (i := 13) (oi := { dst := Option.some 68, op := Go.Op.load 65 (Go.Operand.tmp 3), type := 65, pos := "law.go:67", after := #[{ on := 12, ground := Go.Ground.guard }], guard := Option.some (12, Bool.true) }) (v := ?_) rfl (by kernel_rfl) (by kernel_rfl) (by kernel_rfl) (fun _ _ _ h => h) (Or.inl ⟨by rfl, fun w' hSw => ?_⟩) hSZ4 ?_; rotate_left; focus (have hl := loadTx_run w' p0 0 t (range_under T9.out hSw); go_simp; try with_reducible rfl))
                      simp only [Act.put, List.setIfInBounds_toArray, List.set_cons_zero, List.set_cons_succ]
                      as_aux_lemma =>
                        (refine wpAnyH_take (i := 14) (oi := { dst := Option.some 69, op := Go.Op.move (Go.Operand.tmp 1), type := 3, pos := "law.go:67", after := #[{ on := 12, ground := Go.Ground.guard }], guard := Option.some (12, Bool.true) }) (v := ?_) rfl (by kernel_rfl) (by kernel_rfl) (by kernel_rfl) (fun _ _ _ h => h) (Or.inl ⟨by rfl, fun w' hSw => ?_⟩) hSZ4 ?_; rotate_left; focus (go_simp; try with_reducible rfl))
                        simp only [Act.put, List.setIfInBounds_toArray, List.set_cons_zero, List.set_cons_succ]
                        (refine wpAnyH_take (i := 15) (oi := { dst := Option.some 70, op := Go.Op.move (Go.Operand.tmp 2), type := 22, pos := "law.go:67", after := #[{ on := 12, ground := Go.Ground.guard }], guard := Option.some (12, Bool.true) }) (v := ?_) rfl (by kernel_rfl) (by kernel_rfl) (by kernel_rfl) (fun _ _ _ h => h) (Or.inl ⟨by rfl, fun w' hSw => ?_⟩) hSZ4 ?_; rotate_left; focus (go_simp; try with_reducible rfl))
                        simp only [Act.put, List.setIfInBounds_toArray, List.set_cons_zero, List.set_cons_succ]
                        (refine wpAnyH_take (i := 17) (oi := { dst := Option.some 72, op := Go.Op.load 65 (Go.Operand.tmp 3), type := 65, pos := "law.go:67", after := #[{ on := 12, ground := Go.Ground.guard }], guard := Option.some (12, Bool.true) }) (v := ?_) rfl (by kernel_rfl) (by kernel_rfl) (by kernel_rfl) (fun _ _ _ h => h) (Or.inl ⟨by rfl, fun w' hSw => ?_⟩) hSZ4 ?_; rotate_left; focus (have hl := loadTx_run w' p0 0 t (range_under T9.out hSw); go_simp; try with_reducible rfl))
                        simp only [Act.put, List.setIfInBounds_toArray, List.set_cons_zero, List.set_cons_succ]
                        (refine wpAnyH_take (i := 18) (oi := { dst := Option.some 73, op := Go.Op.move (Go.Operand.tmp 1), type := 3, pos := "law.go:67", after := #[{ on := 12, ground := Go.Ground.guard }], guard := Option.some (12, Bool.true) }) (v := ?_) rfl (by kernel_rfl) (by kernel_rfl) (by kernel_rfl) (fun _ _ _ h => h) (Or.inl ⟨by rfl, fun w' hSw => ?_⟩) hSZ4 ?_; rotate_left; focus (go_simp; try with_reducible rfl))
                        simp only [Act.put, List.setIfInBounds_toArray, List.set_cons_zero, List.set_cons_succ]
                        (refine wpAnyH_take (i := 19) (oi := { dst := Option.some 74, op := Go.Op.move (Go.Operand.tmp 2), type := 22, pos := "law.go:67", after := #[{ on := 12, ground := Go.Ground.guard }], guard := Option.some (12, Bool.true) }) (v := ?_) rfl (by kernel_rfl) (by kernel_rfl) (by kernel_rfl) (fun _ _ _ h => h) (Or.inl ⟨by rfl, fun w' hSw => ?_⟩) hSZ4 ?_; rotate_left; focus (go_simp; try with_reducible rfl))
                        simp only [Act.put, List.setIfInBounds_toArray, List.set_cons_zero, List.set_cons_succ]
                        refine wpAnyH_ready (rs := [16]) (by kernel_rfl) (by simp) ?_
                        refine AllReadyH.cons rfl (fun K hK => ?_) AllReadyH.nil
                        go_simp
                        go_wp2_with (go_at_call 56; refine (THash_any wx22 t i B m d bs (HF9.out.below hSZ4) FA.out.small (HB9.out.below hSZ4) HC.out (by have := HM.out; omega) hi0 hi1).mono ?_; rintro e wx23 ⟨rfl, bwx23⟩; rw [EH.out.1])
                        refine hK.out _ _ (Below.then_ hSZ4 bwx23) (fun hSZ5 => ?_)
                        clear hK K
                        refine wpAnyH_ready (rs := [20]) (by kernel_rfl) (by simp) ?_
                        refine AllReadyH.cons rfl (fun K hK => ?_) AllReadyH.nil
                        go_simp
                        go_wp2_with (go_at_call 57; refine (refTHash_any wx23 t i B m d bs (HF9.out.below hSZ5) FA.out.small (HB9.out.below hSZ5) HC.out (by have := HM.out; omega) hi0 hi1).mono ?_; rintro e wx24 ⟨rfl, bwx24⟩; rw [EH.out.1])
                        refine hK.out _ _ (Below.then_ hSZ5 bwx24) (fun hSZ6 => ?_)
                        clear hK K
                        as_aux_lemma =>
                          (refine wpAnyH_take (i := 21) (oi := { dst := Option.some 76, op := Go.Op.binOp Go.BinOp.eql 44 (Go.Operand.tmp 71) (Go.Operand.tmp 75) 44, type := 4, pos := "law.go:67", after := #[{ on := 16, ground := Go.Ground.data }, { on := 20, ground := Go.Ground.data }, { on := 12, ground := Go.Ground.guard }], guard := Option.some (12, Bool.true) }) (v := ?_) rfl (by kernel_rfl) (by kernel_rfl) (by kernel_rfl) (fun _ _ _ h => h) (Or.inl ⟨by rfl, fun w' hSw => ?_⟩) hSZ6 ?_; rotate_left; focus (have hh := HH.out; go_simp; try with_reducible rfl))
                          simp only [Act.put, List.setIfInBounds_toArray, List.set_cons_zero, List.set_cons_succ]
                          (refine wpAnyH_take (i := 22) (oi := { dst := Option.some 77, op := Go.Op.pick (Go.Operand.tmp 67) (Go.Operand.tmp 76) (Go.Operand.const (Go.Value.bool Bool.false)), type := 4, pos := "law.go:67", after := #[{ on := 12, ground := Go.Ground.data }, { on := 21, ground := Go.Ground.data }], guard := Option.none }) (v := ?_) rfl (by kernel_rfl) (by kernel_rfl) (by kernel_rfl) (fun _ _ _ h => h) (Or.inl ⟨by rfl, fun w' hSw => ?_⟩) hSZ6 ?_; rotate_left; focus (go_simp; try with_reducible rfl))
                          simp only [Act.put, List.setIfInBounds_toArray, List.set_cons_zero, List.set_cons_succ]
                          (refine wpAnyH_take (i := 23) (oi := { dst := Option.some 78, op := Go.Op.move (Go.Operand.tmp 77), type := 4, pos := "law.go:67", after := #[{ on := 22, ground := Go.Ground.data }, { on := 20, ground := Go.Ground.chain }], guard := Option.none }) (v := ?_) rfl (by kernel_rfl) (by kernel_rfl) (by kernel_rfl) (fun _ _ _ h => h) (Or.inl ⟨by rfl, fun w' hSw => ?_⟩) hSZ6 ?_; rotate_left; focus (go_simp; try with_reducible rfl))
                          simp only [Act.put, List.setIfInBounds_toArray, List.set_cons_zero, List.set_cons_succ]
                          (refine wpAnyH_take (i := 24) (oi := { dst := Option.some 79, op := Go.Op.load 65 (Go.Operand.tmp 3), type := 65, pos := "law.go:67", after := #[{ on := 23, ground := Go.Ground.guard }], guard := Option.some (23, Bool.true) }) (v := ?_) rfl (by kernel_rfl) (by kernel_rfl) (by kernel_rfl) (fun _ _ _ h => h) (Or.inl ⟨by rfl, fun w' hSw => ?_⟩) hSZ6 ?_; rotate_left; focus (have hl := loadTx_run w' p0 0 t (range_under T9.out hSw); go_simp; try with_reducible rfl))
                          simp only [Act.put, List.setIfInBounds_toArray, List.set_cons_zero, List.set_cons_succ]
                          (refine wpAnyH_take (i := 27) (oi := { dst := Option.some 82, op := Go.Op.move (Go.Operand.tmp 7), type := 22, pos := "law.go:67", after := #[{ on := 23, ground := Go.Ground.guard }], guard := Option.some (23, Bool.true) }) (v := ?_) rfl (by kernel_rfl) (by kernel_rfl) (by kernel_rfl) (fun _ _ _ h => h) (Or.inl ⟨by rfl, fun w' hSw => ?_⟩) hSZ6 ?_; rotate_left; focus (go_simp; try with_reducible rfl))
                          simp only [Act.put, List.setIfInBounds_toArray, List.set_cons_zero, List.set_cons_succ]
                          refine wpAnyH_ready (rs := [25, 28]) (by kernel_rfl) (by simp) ?_
                          refine AllReadyH.cons rfl (fun K hK => ?_) (AllReadyH.cons rfl (fun K hK => ?_) AllReadyH.nil)
                          · go_simp
                            refine (TBytes_any wx24 t (HF9.out.below hSZ6) FA.out.small).mono ?_
                            rintro e wx25 ⟨Awx25, nwx25, cwx25, rfl, twx25, fwx25⟩
                            go_simp
                            have Ywx25 := hide twx25.bys
                            have gwx25 := twx25.below
                            clear twx25 fwx25
                            refine hK.out _ _ (Below.then_ hSZ6 gwx25) (fun hSZ7 => ?_)
                            clear hK K
                            refine wpAnyH_ready (rs := [26, 28]) (by kernel_rfl) (by simp) ?_
                            refine AllReadyH.cons rfl (fun K hK => ?_) (AllReadyH.cons rfl (fun K hK => ?_) AllReadyH.nil)
                            · have s8 := hsa.out wx25 Awx25 nwx25 cwx25 _ (by first | exact Ywx25.out | exact Ywx25.out.below (by assumption)) rfl
                              go_simp
                              refine hK.out _ _ (hSZ7) (fun hSZ8 => ?_)
                              clear hK K
                              as_aux_lemma =>
                                refine wpAnyH_ready (rs := [28]) (by kernel_rfl) (by simp) ?_
                                refine AllReadyH.cons rfl (fun K hK => ?_) AllReadyH.nil
                                have s7 := hsa.out wx25 A5 n5 c5 _ (HY9.out.below hSZ8) rfl
                                go_simp
                                refine hK.out _ _ (hSZ8) (fun hSZ9 => ?_)
                                clear hK K
                                (refine wpAnyH_take (i := 29) (oi := { dst := Option.some 84, op := Go.Op.binOp Go.BinOp.eql 9 (Go.Operand.tmp 81) (Go.Operand.tmp 83) 9, type := 4, pos := "law.go:67", after := #[{ on := 26, ground := Go.Ground.data }, { on := 28, ground := Go.Ground.data }, { on := 23, ground := Go.Ground.guard }], guard := Option.some (23, Bool.true) }) (v := ?_) rfl (by kernel_rfl) (by kernel_rfl) (by kernel_rfl) (fun _ _ _ h => h) (Or.inl ⟨by rfl, fun w' hSw => ?_⟩) hSZ9 ?_; rotate_left; focus (go_simp; try with_reducible rfl))
                                simp only [Act.put, List.setIfInBounds_toArray, List.set_cons_zero, List.set_cons_succ]
                                (refine wpAnyH_take (i := 30) (oi := { dst := Option.some 85, op := Go.Op.pick (Go.Operand.tmp 78) (Go.Operand.tmp 84) (Go.Operand.const (Go.Value.bool Bool.false)), type := 4, pos := "law.go:67", after := #[{ on := 23, ground := Go.Ground.data }, { on := 29, ground := Go.Ground.data }], guard := Option.none }) (v := ?_) rfl (by kernel_rfl) (by kernel_rfl) (by kernel_rfl) (fun _ _ _ h => h) (Or.inl ⟨by rfl, fun w' hSw => ?_⟩) hSZ9 ?_; rotate_left; focus (go_simp; try with_reducible rfl))
                                simp only [Act.put, List.setIfInBounds_toArray, List.set_cons_zero, List.set_cons_succ]
                                (refine wpAnyH_take (i := 31) (oi := { dst := Option.some 6, op := Go.Op.assign (Go.Operand.tmp 85), type := 4, pos := "law.go:67", after := #[{ on := 30, ground := Go.Ground.data }, { on := 25, ground := Go.Ground.chain }, { on := 0, ground := Go.Ground.phase }, { on := 1, ground := Go.Ground.phase }, { on := 2, ground := Go.Ground.phase }, { on := 3, ground := Go.Ground.phase }, { on := 4, ground := Go.Ground.phase }, { on := 5, ground := Go.Ground.phase }, { on := 6, ground := Go.Ground.phase }, { on := 7, ground := Go.Ground.phase }, { on := 8, ground := Go.Ground.phase }, { on := 9, ground := Go.Ground.phase }, { on := 10, ground := Go.Ground.phase }, { on := 11, ground := Go.Ground.phase }, { on := 12, ground := Go.Ground.phase }, { on := 13, ground := Go.Ground.phase }, { on := 14, ground := Go.Ground.phase }, { on := 15, ground := Go.Ground.phase }, { on := 16, ground := Go.Ground.phase }, { on := 17, ground := Go.Ground.phase }, { on := 18, ground := Go.Ground.phase }, { on := 19, ground := Go.Ground.phase }, { on := 20, ground := Go.Ground.phase }, { on := 21, ground := Go.Ground.phase }, { on := 22, ground := Go.Ground.phase }, { on := 23, ground := Go.Ground.phase }, { on := 24, ground := Go.Ground.phase }, { on := 25, ground := Go.Ground.phase }, { on := 26, ground := Go.Ground.phase }, { on := 27, ground := Go.Ground.phase }, { on := 28, ground := Go.Ground.phase }, { on := 29, ground := Go.Ground.phase }, { on := 30, ground := Go.Ground.phase }], guard := Option.none }) (v := ?_) rfl (by kernel_rfl) (by kernel_rfl) (by kernel_rfl) (fun _ _ _ h => h) (Or.inl ⟨by rfl, fun w' hSw => ?_⟩) hSZ9 ?_; rotate_left; focus (go_simp; try with_reducible rfl))
                                simp only [Act.put, List.setIfInBounds_toArray, List.set_cons_zero, List.set_cons_succ]
                                refine wpAnyH_done (by kernel_rfl) ?_ _
                                go_wp2_with fail
                                go_ret
                                exact ⟨by simp, Below.then_ HB9w.out hSZ9⟩
                            · have s7 := hsa.out wx25 A5 n5 c5 _ (HY9.out.below hSZ7) rfl
                              go_simp
                              refine hK.out _ _ (hSZ7) (fun hSZ8 => ?_)
                              clear hK K
                              as_aux_lemma =>
                                refine wpAnyH_ready (rs := [26]) (by kernel_rfl) (by simp) ?_
                                refine AllReadyH.cons rfl (fun K hK => ?_) AllReadyH.nil
                                have s8 := hsa.out wx25 Awx25 nwx25 cwx25 _ (by first | exact Ywx25.out | exact Ywx25.out.below (by assumption)) rfl
                                go_simp
                                refine hK.out _ _ (hSZ8) (fun hSZ9 => ?_)
                                clear hK K
                                (refine wpAnyH_take (i := 29) (oi := { dst := Option.some 84, op := Go.Op.binOp Go.BinOp.eql 9 (Go.Operand.tmp 81) (Go.Operand.tmp 83) 9, type := 4, pos := "law.go:67", after := #[{ on := 26, ground := Go.Ground.data }, { on := 28, ground := Go.Ground.data }, { on := 23, ground := Go.Ground.guard }], guard := Option.some (23, Bool.true) }) (v := ?_) rfl (by kernel_rfl) (by kernel_rfl) (by kernel_rfl) (fun _ _ _ h => h) (Or.inl ⟨by rfl, fun w' hSw => ?_⟩) hSZ9 ?_; rotate_left; focus (go_simp; try with_reducible rfl))
                                simp only [Act.put, List.setIfInBounds_toArray, List.set_cons_zero, List.set_cons_succ]
                                (refine wpAnyH_take (i := 30) (oi := { dst := Option.some 85, op := Go.Op.pick (Go.Operand.tmp 78) (Go.Operand.tmp 84) (Go.Operand.const (Go.Value.bool Bool.false)), type := 4, pos := "law.go:67", after := #[{ on := 23, ground := Go.Ground.data }, { on := 29, ground := Go.Ground.data }], guard := Option.none }) (v := ?_) rfl (by kernel_rfl) (by kernel_rfl) (by kernel_rfl) (fun _ _ _ h => h) (Or.inl ⟨by rfl, fun w' hSw => ?_⟩) hSZ9 ?_; rotate_left; focus (go_simp; try with_reducible rfl))
                                simp only [Act.put, List.setIfInBounds_toArray, List.set_cons_zero, List.set_cons_succ]
                                (refine wpAnyH_take (i := 31) (oi := { dst := Option.some 6, op := Go.Op.assign (Go.Operand.tmp 85), type := 4, pos := "law.go:67", after := #[{ on := 30, ground := Go.Ground.data }, { on := 25, ground := Go.Ground.chain }, { on := 0, ground := Go.Ground.phase }, { on := 1, ground := Go.Ground.phase }, { on := 2, ground := Go.Ground.phase }, { on := 3, ground := Go.Ground.phase }, { on := 4, ground := Go.Ground.phase }, { on := 5, ground := Go.Ground.phase }, { on := 6, ground := Go.Ground.phase }, { on := 7, ground := Go.Ground.phase }, { on := 8, ground := Go.Ground.phase }, { on := 9, ground := Go.Ground.phase }, { on := 10, ground := Go.Ground.phase }, { on := 11, ground := Go.Ground.phase }, { on := 12, ground := Go.Ground.phase }, { on := 13, ground := Go.Ground.phase }, { on := 14, ground := Go.Ground.phase }, { on := 15, ground := Go.Ground.phase }, { on := 16, ground := Go.Ground.phase }, { on := 17, ground := Go.Ground.phase }, { on := 18, ground := Go.Ground.phase }, { on := 19, ground := Go.Ground.phase }, { on := 20, ground := Go.Ground.phase }, { on := 21, ground := Go.Ground.phase }, { on := 22, ground := Go.Ground.phase }, { on := 23, ground := Go.Ground.phase }, { on := 24, ground := Go.Ground.phase }, { on := 25, ground := Go.Ground.phase }, { on := 26, ground := Go.Ground.phase }, { on := 27, ground := Go.Ground.phase }, { on := 28, ground := Go.Ground.phase }, { on := 29, ground := Go.Ground.phase }, { on := 30, ground := Go.Ground.phase }], guard := Option.none }) (v := ?_) rfl (by kernel_rfl) (by kernel_rfl) (by kernel_rfl) (fun _ _ _ h => h) (Or.inl ⟨by rfl, fun w' hSw => ?_⟩) hSZ9 ?_; rotate_left; focus (go_simp; try with_reducible rfl))
                                simp only [Act.put, List.setIfInBounds_toArray, List.set_cons_zero, List.set_cons_succ]
                                refine wpAnyH_done (by kernel_rfl) ?_ _
                                go_wp2_with fail
                                go_ret
                                exact ⟨by simp, Below.then_ HB9w.out hSZ9⟩
                          · have s7 := hsa.out wx24 A5 n5 c5 _ (HY9.out.below hSZ6) rfl
                            go_simp
                            refine hK.out _ _ (hSZ6) (fun hSZ7 => ?_)
                            clear hK K
                            refine wpAnyH_ready (rs := [25]) (by kernel_rfl) (by simp) ?_
                            refine AllReadyH.cons rfl (fun K hK => ?_) AllReadyH.nil
                            go_simp
                            refine (TBytes_any wx24 t (HF9.out.below hSZ7) FA.out.small).mono ?_
                            rintro e wx26 ⟨Awx26, nwx26, cwx26, rfl, twx26, fwx26⟩
                            go_simp
                            have Ywx26 := hide twx26.bys
                            have gwx26 := twx26.below
                            clear twx26 fwx26
                            refine hK.out _ _ (Below.then_ hSZ7 gwx26) (fun hSZ8 => ?_)
                            clear hK K
                            as_aux_lemma =>
                              refine wpAnyH_ready (rs := [26]) (by kernel_rfl) (by simp) ?_
                              refine AllReadyH.cons rfl (fun K hK => ?_) AllReadyH.nil
                              have s8 := hsa.out wx26 Awx26 nwx26 cwx26 _ (by first | exact Ywx26.out | exact Ywx26.out.below (by assumption)) rfl
                              go_simp
                              refine hK.out _ _ (hSZ8) (fun hSZ9 => ?_)
                              clear hK K
                              (refine wpAnyH_take (i := 29) (oi := { dst := Option.some 84, op := Go.Op.binOp Go.BinOp.eql 9 (Go.Operand.tmp 81) (Go.Operand.tmp 83) 9, type := 4, pos := "law.go:67", after := #[{ on := 26, ground := Go.Ground.data }, { on := 28, ground := Go.Ground.data }, { on := 23, ground := Go.Ground.guard }], guard := Option.some (23, Bool.true) }) (v := ?_) rfl (by kernel_rfl) (by kernel_rfl) (by kernel_rfl) (fun _ _ _ h => h) (Or.inl ⟨by rfl, fun w' hSw => ?_⟩) hSZ9 ?_; rotate_left; focus (go_simp; try with_reducible rfl))
                              simp only [Act.put, List.setIfInBounds_toArray, List.set_cons_zero, List.set_cons_succ]
                              (refine wpAnyH_take (i := 30) (oi := { dst := Option.some 85, op := Go.Op.pick (Go.Operand.tmp 78) (Go.Operand.tmp 84) (Go.Operand.const (Go.Value.bool Bool.false)), type := 4, pos := "law.go:67", after := #[{ on := 23, ground := Go.Ground.data }, { on := 29, ground := Go.Ground.data }], guard := Option.none }) (v := ?_) rfl (by kernel_rfl) (by kernel_rfl) (by kernel_rfl) (fun _ _ _ h => h) (Or.inl ⟨by rfl, fun w' hSw => ?_⟩) hSZ9 ?_; rotate_left; focus (go_simp; try with_reducible rfl))
                              simp only [Act.put, List.setIfInBounds_toArray, List.set_cons_zero, List.set_cons_succ]
                              (refine wpAnyH_take (i := 31) (oi := { dst := Option.some 6, op := Go.Op.assign (Go.Operand.tmp 85), type := 4, pos := "law.go:67", after := #[{ on := 30, ground := Go.Ground.data }, { on := 25, ground := Go.Ground.chain }, { on := 0, ground := Go.Ground.phase }, { on := 1, ground := Go.Ground.phase }, { on := 2, ground := Go.Ground.phase }, { on := 3, ground := Go.Ground.phase }, { on := 4, ground := Go.Ground.phase }, { on := 5, ground := Go.Ground.phase }, { on := 6, ground := Go.Ground.phase }, { on := 7, ground := Go.Ground.phase }, { on := 8, ground := Go.Ground.phase }, { on := 9, ground := Go.Ground.phase }, { on := 10, ground := Go.Ground.phase }, { on := 11, ground := Go.Ground.phase }, { on := 12, ground := Go.Ground.phase }, { on := 13, ground := Go.Ground.phase }, { on := 14, ground := Go.Ground.phase }, { on := 15, ground := Go.Ground.phase }, { on := 16, ground := Go.Ground.phase }, { on := 17, ground := Go.Ground.phase }, { on := 18, ground := Go.Ground.phase }, { on := 19, ground := Go.Ground.phase }, { on := 20, ground := Go.Ground.phase }, { on := 21, ground := Go.Ground.phase }, { on := 22, ground := Go.Ground.phase }, { on := 23, ground := Go.Ground.phase }, { on := 24, ground := Go.Ground.phase }, { on := 25, ground := Go.Ground.phase }, { on := 26, ground := Go.Ground.phase }, { on := 27, ground := Go.Ground.phase }, { on := 28, ground := Go.Ground.phase }, { on := 29, ground := Go.Ground.phase }, { on := 30, ground := Go.Ground.phase }], guard := Option.none }) (v := ?_) rfl (by kernel_rfl) (by kernel_rfl) (by kernel_rfl) (fun _ _ _ h => h) (Or.inl ⟨by rfl, fun w' hSw => ?_⟩) hSZ9 ?_; rotate_left; focus (go_simp; try with_reducible rfl))
                              simp only [Act.put, List.setIfInBounds_toArray, List.set_cons_zero, List.set_cons_succ]
                              refine wpAnyH_done (by kernel_rfl) ?_ _
                              go_wp2_with fail
                              go_ret
                              exact ⟨by simp, Below.then_ HB9w.out hSZ9⟩
        · have s8 := hsa.out wx14 Awx14 nwx14 cwx14 _ (by first | exact Ywx14.out | exact Ywx14.out.below (by assumption)) rfl
          go_simp
          refine hK.out _ _ (hSQ1) (fun hSQ2 => ?_)
          clear hK K
          refine wpAnyH_ready (rs := [1]) (by kernel_rfl) (by simp) ?_
          refine AllReadyH.cons rfl (fun K hK => ?_) AllReadyH.nil
          have s7 := hsa.out wx14 A5 n5 c5 _ (HY7.out.below hSQ2) rfl
          go_simp
          refine hK.out _ _ (hSQ2) (fun hSQ3 => ?_)
          clear hK K
          (refine wpAnyH_take (i := 5) (oi := { dst := Option.some 31, op := Go.Op.binOp Go.BinOp.neq 9 (Go.Operand.tmp 27) (Go.Operand.tmp 30) 9, type := 4, pos := "law.go:64", after := #[{ on := 1, ground := Go.Ground.data }, { on := 4, ground := Go.Ground.data }], guard := Option.none }) (v := ?_) rfl (by kernel_rfl) (by kernel_rfl) (by kernel_rfl) (fun _ _ _ h => h) (Or.inl ⟨by rfl, fun w' hSw => ?_⟩) hSQ3 ?_; rotate_left; focus (go_simp; try with_reducible rfl))
          simp only [Act.put, List.setIfInBounds_toArray, List.set_cons_zero, List.set_cons_succ]
          (refine wpAnyH_take (i := 6) (oi := { dst := Option.some 32, op := Go.Op.move (Go.Operand.tmp 31), type := 4, pos := "law.go:64", after := #[{ on := 5, ground := Go.Ground.data }, { on := 3, ground := Go.Ground.chain }], guard := Option.none }) (v := ?_) rfl (by kernel_rfl) (by kernel_rfl) (by kernel_rfl) (fun _ _ _ h => h) (Or.inl ⟨by rfl, fun w' hSw => ?_⟩) hSQ3 ?_; rotate_left; focus (go_simp; try with_reducible rfl))
          simp only [Act.put, List.setIfInBounds_toArray, List.set_cons_zero, List.set_cons_succ]
          as_aux_lemma =>
            (refine wpAnyH_take (i := 7) (oi := { dst := Option.some 33, op := Go.Op.move (Go.Operand.tmp 9), type := 28, pos := "law.go:64", after := #[{ on := 6, ground := Go.Ground.guard }], guard := Option.some (6, Bool.false) }) (v := ?_) rfl (by kernel_rfl) (by kernel_rfl) (by kernel_rfl) (fun _ _ _ h => h) (Or.inl ⟨by rfl, fun w' hSw => ?_⟩) hSQ3 ?_; rotate_left; focus (go_simp; try with_reducible rfl))
            simp only [Act.put, List.setIfInBounds_toArray, List.set_cons_zero, List.set_cons_succ]
            (refine wpAnyH_take (i := 8) (oi := { dst := Option.some 34, op := Go.Op.binOp Go.BinOp.neq 28 (Go.Operand.tmp 33) (Go.Operand.const (Go.Value.int Go.IntKind.i64 0)) 28, type := 4, pos := "law.go:64", after := #[{ on := 7, ground := Go.Ground.data }, { on := 6, ground := Go.Ground.guard }], guard := Option.some (6, Bool.false) }) (v := ?_) rfl (by kernel_rfl) (by kernel_rfl) (by kernel_rfl) (fun _ _ _ h => h) (Or.inl ⟨by rfl, fun w' hSw => ?_⟩) hSQ3 ?_; rotate_left; focus (go_simp; try with_reducible rfl))
            simp only [Act.put, List.setIfInBounds_toArray, List.set_cons_zero, List.set_cons_succ]
            (refine wpAnyH_take (i := 9) (oi := { dst := Option.some 35, op := Go.Op.pick (Go.Operand.tmp 32) (Go.Operand.const (Go.Value.bool Bool.true)) (Go.Operand.tmp 34), type := 4, pos := "law.go:64", after := #[{ on := 6, ground := Go.Ground.data }, { on := 8, ground := Go.Ground.data }], guard := Option.none }) (v := ?_) rfl (by kernel_rfl) (by kernel_rfl) (by kernel_rfl) (fun _ _ _ h => h) (Or.inl ⟨by rfl, fun w' hSw => ?_⟩) hSQ3 ?_; rotate_left; focus (go_simp; try with_reducible rfl))
            simp only [Act.put, List.setIfInBounds_toArray, List.set_cons_zero, List.set_cons_succ]
            (refine wpAnyH_take (i := 10) (oi := { dst := Option.some 36, op := Go.Op.move (Go.Operand.tmp 35), type := 4, pos := "law.go:64", after := #[{ on := 9, ground := Go.Ground.data }, { on := 6, ground := Go.Ground.chain }], guard := Option.none }) (v := ?_) rfl (by kernel_rfl) (by kernel_rfl) (by kernel_rfl) (fun _ _ _ h => h) (Or.inl ⟨by rfl, fun w' hSw => ?_⟩) hSQ3 ?_; rotate_left; focus (go_simp; try with_reducible rfl))
            simp only [Act.put, List.setIfInBounds_toArray, List.set_cons_zero, List.set_cons_succ]
            (refine wpAnyH_take (i := 11) (oi := { dst := Option.some 37, op := Go.Op.load 65 (Go.Operand.tmp 8), type := 65, pos := "law.go:64", after := #[{ on := 10, ground := Go.Ground.guard }], guard := Option.some (10, Bool.false) }) (v := ?_) rfl (by kernel_rfl) (by kernel_rfl) (by kernel_rfl) (fun _ _ _ h => h) (Or.inl ⟨by rfl, fun w' hSw => ?_⟩) hSQ3 ?_; rotate_left; focus (have hl := loadTx_run w' p8 0 V (range_under X7.out hSw); go_simp; try with_reducible rfl))
            simp only [Act.put, List.setIfInBounds_toArray, List.set_cons_zero, List.set_cons_succ]
            (refine wpAnyH_take (i := 12) (oi := { dst := Option.some 38, op := Go.Op.load 65 (Go.Operand.tmp 3), type := 65, pos := "law.go:64", after := #[{ on := 10, ground := Go.Ground.guard }], guard := Option.some (10, Bool.false) }) (v := ?_) rfl (by kernel_rfl) (by kernel_rfl) (by kernel_rfl) (fun _ _ _ h => h) (Or.inl ⟨by rfl, fun w' hSw => ?_⟩) hSQ3 ?_; rotate_left; focus (have hl := loadTx_run w' p0 0 t (range_under T7.out hSw); go_simp; try with_reducible rfl))
            simp only [Act.put, List.setIfInBounds_toArray, List.set_cons_zero, List.set_cons_succ]
            refine wpAnyH_ready (rs := [13]) (by kernel_rfl) (by simp) ?_
            refine AllReadyH.cons rfl (fun K hK => ?_) AllReadyH.nil
            go_simp
            go_wp2_with (go_at_call 51; refine (TSame_any wx14 V t (HV7.out.below hSQ3) (HF7.out.below hSQ3) HVS.out FA.out.small).mono ?_; rintro e wx27 ⟨rfl, bwx27⟩; rw [HSS.out])
            refine hK.out _ _ (Below.then_ hSQ3 bwx27) (fun hSQ4 => ?_)
            clear hK K
            as_aux_lemma =>
              (refine wpAnyH_take (i := 14) (oi := { dst := Option.some 40, op := Go.Op.unOp Go.UnOp.not 4 (Go.Operand.tmp 39), type := 4, pos := "law.go:64", after := #[{ on := 13, ground := Go.Ground.data }, { on := 10, ground := Go.Ground.guard }], guard := Option.some (10, Bool.false) }) (v := ?_) rfl (by kernel_rfl) (by kernel_rfl) (by kernel_rfl) (fun _ _ _ h => h) (Or.inl ⟨by rfl, fun w' hSw => ?_⟩) hSQ4 ?_; rotate_left; focus (go_simp; try with_reducible rfl))
              simp only [Act.put, List.setIfInBounds_toArray, List.set_cons_zero, List.set_cons_succ]
              (refine wpAnyH_take (i := 15) (oi := { dst := Option.some 41, op := Go.Op.pick (Go.Operand.tmp 36) (Go.Operand.const (Go.Value.bool Bool.true)) (Go.Operand.tmp 40), type := 4, pos := "law.go:64", after := #[{ on := 10, ground := Go.Ground.data }, { on := 14, ground := Go.Ground.data }], guard := Option.none }) (v := ?_) rfl (by kernel_rfl) (by kernel_rfl) (by kernel_rfl) (fun _ _ _ h => h) (Or.inl ⟨by rfl, fun w' hSw => ?_⟩) hSQ4 ?_; rotate_left; focus (go_simp; try with_reducible rfl))
              simp only [Act.put, List.setIfInBounds_toArray, List.set_cons_zero, List.set_cons_succ]
              (refine wpAnyH_take (i := 16) (oi := { dst := Option.some 42, op := Go.Op.move (Go.Operand.tmp 41), type := 4, pos := "law.go:64", after := #[{ on := 15, ground := Go.Ground.data }, { on := 13, ground := Go.Ground.chain }], guard := Option.none }) (v := ?_) rfl (by kernel_rfl) (by kernel_rfl) (by kernel_rfl) (fun _ _ _ h => h) (Or.inl ⟨by rfl, fun w' hSw => ?_⟩) hSQ4 ?_; rotate_left; focus (go_simp; try with_reducible rfl))
              simp only [Act.put, List.setIfInBounds_toArray, List.set_cons_zero, List.set_cons_succ]
              (refine wpAnyH_take (i := 17) (oi := { dst := Option.some 43, op := Go.Op.load 65 (Go.Operand.tmp 8), type := 65, pos := "law.go:64", after := #[{ on := 16, ground := Go.Ground.guard }], guard := Option.some (16, Bool.false) }) (v := ?_) rfl (by kernel_rfl) (by kernel_rfl) (by kernel_rfl) (fun _ _ _ h => h) (Or.inl ⟨by rfl, fun w' hSw => ?_⟩) hSQ4 ?_; rotate_left; focus (have hl := loadTx_run w' p8 0 V (range_under X7.out hSw); go_simp; try with_reducible rfl))
              simp only [Act.put, List.setIfInBounds_toArray, List.set_cons_zero, List.set_cons_succ]
              (refine wpAnyH_take (i := 18) (oi := { dst := Option.some 44, op := Go.Op.load 65 (Go.Operand.tmp 3), type := 65, pos := "law.go:64", after := #[{ on := 16, ground := Go.Ground.guard }], guard := Option.some (16, Bool.false) }) (v := ?_) rfl (by kernel_rfl) (by kernel_rfl) (by kernel_rfl) (fun _ _ _ h => h) (Or.inl ⟨by rfl, fun w' hSw => ?_⟩) hSQ4 ?_; rotate_left; focus (have hl := loadTx_run w' p0 0 t (range_under T7.out hSw); go_simp; try with_reducible rfl))
              simp only [Act.put, List.setIfInBounds_toArray, List.set_cons_zero, List.set_cons_succ]
              refine wpAnyH_ready (rs := [19]) (by kernel_rfl) (by simp) ?_
              refine AllReadyH.cons rfl (fun K hK => ?_) AllReadyH.nil
              go_simp
              go_wp2_with (go_at_call 46; refine (refTSame_any wx27 V t (HV7.out.below hSQ4) (HF7.out.below hSQ4) HVS.out FA.out.small).mono ?_; rintro e wx28 ⟨rfl, bwx28⟩; rw [HSR.out])
              refine hK.out _ _ (Below.then_ hSQ4 bwx28) (fun hSQ5 => ?_)
              clear hK K
              (refine wpAnyH_take (i := 20) (oi := { dst := Option.some 46, op := Go.Op.unOp Go.UnOp.not 4 (Go.Operand.tmp 45), type := 4, pos := "law.go:64", after := #[{ on := 19, ground := Go.Ground.data }, { on := 16, ground := Go.Ground.guard }], guard := Option.some (16, Bool.false) }) (v := ?_) rfl (by kernel_rfl) (by kernel_rfl) (by kernel_rfl) (fun _ _ _ h => h) (Or.inl ⟨by rfl, fun w' hSw => ?_⟩) hSQ5 ?_; rotate_left; focus (go_simp; try with_reducible rfl))
              simp only [Act.put, List.setIfInBounds_toArray, List.set_cons_zero, List.set_cons_succ]
              as_aux_lemma =>
                (refine wpAnyH_take (i := 21) (oi := { dst := Option.some 47, op := Go.Op.pick (Go.Operand.tmp 42) (Go.Operand.const (Go.Value.bool Bool.true)) (Go.Operand.tmp 46), type := 4, pos := "law.go:64", after := #[{ on := 16, ground := Go.Ground.data }, { on := 20, ground := Go.Ground.data }], guard := Option.none }) (v := ?_) rfl (by kernel_rfl) (by kernel_rfl) (by kernel_rfl) (fun _ _ _ h => h) (Or.inl ⟨by rfl, fun w' hSw => ?_⟩) hSQ5 ?_; rotate_left; focus (go_simp; try with_reducible rfl))
                simp only [Act.put, List.setIfInBounds_toArray, List.set_cons_zero, List.set_cons_succ]
                (refine wpAnyH_take (i := 22) (oi := { dst := Option.some 48, op := Go.Op.move (Go.Operand.tmp 47), type := 4, pos := "law.go:64", after := #[{ on := 21, ground := Go.Ground.data }, { on := 19, ground := Go.Ground.chain }], guard := Option.none }) (v := ?_) rfl (by kernel_rfl) (by kernel_rfl) (by kernel_rfl) (fun _ _ _ h => h) (Or.inl ⟨by rfl, fun w' hSw => ?_⟩) hSQ5 ?_; rotate_left; focus (go_simp; try with_reducible rfl))
                simp only [Act.put, List.setIfInBounds_toArray, List.set_cons_zero, List.set_cons_succ]
                (refine wpAnyH_take (i := 23) (oi := { dst := Option.some 49, op := Go.Op.load 65 (Go.Operand.tmp 3), type := 65, pos := "law.go:64", after := #[{ on := 22, ground := Go.Ground.guard }], guard := Option.some (22, Bool.false) }) (v := ?_) rfl (by kernel_rfl) (by kernel_rfl) (by kernel_rfl) (fun _ _ _ h => h) (Or.inl ⟨by rfl, fun w' hSw => ?_⟩) hSQ5 ?_; rotate_left; focus (have hl := loadTx_run w' p0 0 t (range_under T7.out hSw); go_simp; try with_reducible rfl))
                simp only [Act.put, List.setIfInBounds_toArray, List.set_cons_zero, List.set_cons_succ]
                (refine wpAnyH_take (i := 25) (oi := { dst := Option.some 51, op := Go.Op.load 65 (Go.Operand.tmp 3), type := 65, pos := "law.go:64", after := #[{ on := 22, ground := Go.Ground.guard }], guard := Option.some (22, Bool.false) }) (v := ?_) rfl (by kernel_rfl) (by kernel_rfl) (by kernel_rfl) (fun _ _ _ h => h) (Or.inl ⟨by rfl, fun w' hSw => ?_⟩) hSQ5 ?_; rotate_left; focus (have hl := loadTx_run w' p0 0 t (range_under T7.out hSw); go_simp; try with_reducible rfl))
                simp only [Act.put, List.setIfInBounds_toArray, List.set_cons_zero, List.set_cons_succ]
                refine wpAnyH_ready (rs := [24]) (by kernel_rfl) (by simp) ?_
                refine AllReadyH.cons rfl (fun K hK => ?_) AllReadyH.nil
                go_simp
                go_wp2_with (go_at_call 52; refine (TId_any wx28 t (HF7.out.below hSQ5) FA.out.small).mono ?_; rintro e wx29 ⟨rfl, bwx29⟩; rw [EH.out.2])
                refine hK.out _ _ (Below.then_ hSQ5 bwx29) (fun hSQ6 => ?_)
                clear hK K
                refine wpAnyH_ready (rs := [26]) (by kernel_rfl) (by simp) ?_
                refine AllReadyH.cons rfl (fun K hK => ?_) AllReadyH.nil
                go_simp
                go_wp2_with (go_at_call 53; refine (refTId_any wx29 t (HF7.out.below hSQ6) FA.out.small).mono ?_; rintro e wx30 ⟨rfl, bwx30⟩; rw [EH.out.2])
                refine hK.out _ _ (Below.then_ hSQ6 bwx30) (fun hSQ7 => ?_)
                clear hK K
                (refine wpAnyH_take (i := 27) (oi := { dst := Option.some 53, op := Go.Op.binOp Go.BinOp.neq 44 (Go.Operand.tmp 50) (Go.Operand.tmp 52) 44, type := 4, pos := "law.go:64", after := #[{ on := 24, ground := Go.Ground.data }, { on := 26, ground := Go.Ground.data }, { on := 22, ground := Go.Ground.guard }], guard := Option.some (22, Bool.false) }) (v := ?_) rfl (by kernel_rfl) (by kernel_rfl) (by kernel_rfl) (fun _ _ _ h => h) (Or.inl ⟨by rfl, fun w' hSw => ?_⟩) hSQ7 ?_; rotate_left; focus (have hh := HH.out; go_simp; try with_reducible rfl))
                simp only [Act.put, List.setIfInBounds_toArray, List.set_cons_zero, List.set_cons_succ]
                as_aux_lemma =>
                  (refine wpAnyH_take (i := 28) (oi := { dst := Option.some 54, op := Go.Op.pick (Go.Operand.tmp 48) (Go.Operand.const (Go.Value.bool Bool.true)) (Go.Operand.tmp 53), type := 4, pos := "law.go:64", after := #[{ on := 22, ground := Go.Ground.data }, { on := 27, ground := Go.Ground.data }], guard := Option.none }) (v := ?_) rfl (by kernel_rfl) (by kernel_rfl) (by kernel_rfl) (fun _ _ _ h => h) (Or.inl ⟨by rfl, fun w' hSw => ?_⟩) hSQ7 ?_; rotate_left; focus (go_simp; try with_reducible rfl))
                  simp only [Act.put, List.setIfInBounds_toArray, List.set_cons_zero, List.set_cons_succ]
                  refine wpAnyH_done (by kernel_rfl) ?_ _
                  have HF9 := hide (HF7.out.below hSQ7)
                  have HB9 := hide (HB7.out.below hSQ7)
                  have T9 := hide (range_under T7.out hSQ7)
                  have HY9 := hide (HY7.out.below hSQ7)
                  have HB9w := hide (Below.then_ HB7w.out hSQ7)
                  as_aux_lemma =>
                    go_wp2_with fail
                    refine wp_region_held_drew (S := fun w' => Below wx30.heap.size wx30 w') (by kernel_rfl) (by exact (Below.refl _ _).drew) (fun hSZ0 => ?_)
                    obtain ⟨wx30d, hwZ⟩ : ∃ x, x = wx30.drew := ⟨_, rfl⟩
                    rw [← hwZ] at hSZ0 ⊢
                    clear hwZ
                    (refine wpAnyH_take (i := 0) (oi := { dst := Option.some 55, op := Go.Op.load 65 (Go.Operand.tmp 3), type := 65, pos := "law.go:67", after := #[], guard := Option.none }) (v := ?_) rfl (by kernel_rfl) (by kernel_rfl) (by kernel_rfl) (fun _ _ _ h => h) (Or.inl ⟨by rfl, fun w' hSw => ?_⟩) hSZ0 ?_; rotate_left; focus (have hl := loadTx_run w' p0 0 t (range_under T9.out hSw); go_simp; try with_reducible rfl))
                    simp only [Act.put, List.setIfInBounds_toArray, List.set_cons_zero, List.set_cons_succ]
                    (refine wpAnyH_take (i := 2) (oi := { dst := Option.some 57, op := Go.Op.load 65 (Go.Operand.tmp 3), type := 65, pos := "law.go:67", after := #[], guard := Option.none }) (v := ?_) rfl (by kernel_rfl) (by kernel_rfl) (by kernel_rfl) (fun _ _ _ h => h) (Or.inl ⟨by rfl, fun w' hSw => ?_⟩) hSZ0 ?_; rotate_left; focus (have hl := loadTx_run w' p0 0 t (range_under T9.out hSw); go_simp; try with_reducible rfl))
                    simp only [Act.put, List.setIfInBounds_toArray, List.set_cons_zero, List.set_cons_succ]
                    refine wpAnyH_ready (rs := [1]) (by kernel_rfl) (by simp) ?_
                    refine AllReadyH.cons rfl (fun K hK => ?_) AllReadyH.nil
                    go_simp
                    go_wp2_with (go_at_call 43; refine (TCheck_any wx30d t (HF9.out.below hSZ0) FA.out.small).mono ?_; rintro e wx31 ⟨rfl, bwx31⟩)
                    refine hK.out _ _ (Below.then_ hSZ0 bwx31) (fun hSZ1 => ?_)
                    clear hK K
                    refine wpAnyH_ready (rs := [3]) (by kernel_rfl) (by simp) ?_
                    refine AllReadyH.cons rfl (fun K hK => ?_) AllReadyH.nil
                    go_simp
                    go_wp2_with (go_at_call 54; refine (refTCheck_any wx31 t (HF9.out.below hSZ1) FA.out.small).mono ?_; rintro e wx32 ⟨rfl, bwx32⟩)
                    refine hK.out _ _ (Below.then_ hSZ1 bwx32) (fun hSZ2 => ?_)
                    clear hK K
                    (refine wpAnyH_take (i := 4) (oi := { dst := Option.some 59, op := Go.Op.binOp Go.BinOp.eql 3 (Go.Operand.tmp 56) (Go.Operand.tmp 58) 3, type := 4, pos := "law.go:67", after := #[{ on := 1, ground := Go.Ground.data }, { on := 3, ground := Go.Ground.data }], guard := Option.none }) (v := ?_) rfl (by kernel_rfl) (by kernel_rfl) (by kernel_rfl) (fun _ _ _ h => h) (Or.inl ⟨by rfl, fun w' hSw => ?_⟩) hSZ2 ?_; rotate_left; focus (go_simp; try with_reducible rfl))
                    simp only [Act.put, List.setIfInBounds_toArray, List.set_cons_zero, List.set_cons_succ]
                    (refine wpAnyH_take (i := 5) (oi := { dst := Option.some 60, op := Go.Op.move (Go.Operand.tmp 59), type := 4, pos := "law.go:67", after := #[{ on := 4, ground := Go.Ground.data }, { on := 3, ground := Go.Ground.chain }], guard := Option.none }) (v := ?_) rfl (by kernel_rfl) (by kernel_rfl) (by kernel_rfl) (fun _ _ _ h => h) (Or.inl ⟨by rfl, fun w' hSw => ?_⟩) hSZ2 ?_; rotate_left; focus (go_simp; try with_reducible rfl))
                    simp only [Act.put, List.setIfInBounds_toArray, List.set_cons_zero, List.set_cons_succ]
                    (refine wpAnyH_take (i := 6) (oi := { dst := Option.some 61, op := Go.Op.load 65 (Go.Operand.tmp 3), type := 65, pos := "law.go:67", after := #[{ on := 5, ground := Go.Ground.guard }], guard := Option.some (5, Bool.true) }) (v := ?_) rfl (by kernel_rfl) (by kernel_rfl) (by kernel_rfl) (fun _ _ _ h => h) (Or.inl ⟨by rfl, fun w' hSw => ?_⟩) hSZ2 ?_; rotate_left; focus (have hl := loadTx_run w' p0 0 t (range_under T9.out hSw); go_simp; try with_reducible rfl))
                    simp only [Act.put, List.setIfInBounds_toArray, List.set_cons_zero, List.set_cons_succ]
                    as_aux_lemma =>
                      (refine wpAnyH_take (i := 8) (oi := { dst := Option.some 63, op := Go.Op.load 65 (Go.Operand.tmp 3), type := 65, pos := "law.go:67", after := #[{ on := 5, ground := Go.Ground.guard }], guard := Option.some (5, Bool.true) }) (v := ?_) rfl (by kernel_rfl) (by kernel_rfl) (by kernel_rfl) (fun _ _ _ h => h) (Or.inl ⟨by rfl, fun w' hSw => ?_⟩) hSZ2 ?_; rotate_left; focus (have hl := loadTx_run w' p0 0 t (range_under T9.out hSw); go_simp; try with_reducible rfl))
                      simp only [Act.put, List.setIfInBounds_toArray, List.set_cons_zero, List.set_cons_succ]
                      refine wpAnyH_ready (rs := [7]) (by kernel_rfl) (by simp) ?_
                      refine AllReadyH.cons rfl (fun K hK => ?_) AllReadyH.nil
                      go_simp
                      go_wp2_with (go_at_call 44; refine (TBase_any wx32 t (HF9.out.below hSZ2) FA.out.small).mono ?_; rintro e wx33 ⟨rfl, bwx33⟩)
                      refine hK.out _ _ (Below.then_ hSZ2 bwx33) (fun hSZ3 => ?_)
                      clear hK K
                      refine wpAnyH_ready (rs := [9]) (by kernel_rfl) (by simp) ?_
                      refine AllReadyH.cons rfl (fun K hK => ?_) AllReadyH.nil
                      go_simp
                      go_wp2_with (go_at_call 55; refine (refTBase_any wx33 t (HF9.out.below hSZ3) FA.out.small).mono ?_; rintro e wx34 ⟨rfl, bwx34⟩)
                      refine hK.out _ _ (Below.then_ hSZ3 bwx34) (fun hSZ4 => ?_)
                      clear hK K
                      (refine wpAnyH_take (i := 10) (oi := { dst := Option.some 65, op := Go.Op.binOp Go.BinOp.eql 4 (Go.Operand.tmp 62) (Go.Operand.tmp 64) 4, type := 4, pos := "law.go:67", after := #[{ on := 7, ground := Go.Ground.data }, { on := 9, ground := Go.Ground.data }, { on := 5, ground := Go.Ground.guard }], guard := Option.some (5, Bool.true) }) (v := ?_) rfl (by kernel_rfl) (by kernel_rfl) (by kernel_rfl) (fun _ _ _ h => h) (Or.inl ⟨by rfl, fun w' hSw => ?_⟩) hSZ4 ?_; rotate_left; focus (go_simp; try with_reducible rfl))
                      simp only [Act.put, List.setIfInBounds_toArray, List.set_cons_zero, List.set_cons_succ]
                      (refine wpAnyH_take (i := 11) (oi := { dst := Option.some 66, op := Go.Op.pick (Go.Operand.tmp 60) (Go.Operand.tmp 65) (Go.Operand.const (Go.Value.bool Bool.false)), type := 4, pos := "law.go:67", after := #[{ on := 5, ground := Go.Ground.data }, { on := 10, ground := Go.Ground.data }], guard := Option.none }) (v := ?_) rfl (by kernel_rfl) (by kernel_rfl) (by kernel_rfl) (fun _ _ _ h => h) (Or.inl ⟨by rfl, fun w' hSw => ?_⟩) hSZ4 ?_; rotate_left; focus (go_simp; try with_reducible rfl))
                      simp only [Act.put, List.setIfInBounds_toArray, List.set_cons_zero, List.set_cons_succ]
                      (refine wpAnyH_take (i := 12) (oi := { dst := Option.some 67, op := Go.Op.move (Go.Operand.tmp 66), type := 4, pos := "law.go:67", after := #[{ on := 11, ground := Go.Ground.data }, { on := 9, ground := Go.Ground.chain }], guard := Option.none }) (v := ?_) rfl (by kernel_rfl) (by kernel_rfl) (by kernel_rfl) (fun _ _ _ h => h) (Or.inl ⟨by rfl, fun w' hSw => ?_⟩) hSZ4 ?_; rotate_left; focus (go_simp; try with_reducible rfl))
                      simp only [Act.put, List.setIfInBounds_toArray, List.set_cons_zero, List.set_cons_succ]
                      (refine wpAnyH_take (i := 13) (oi := { dst := Option.some 68, op := Go.Op.load 65 (Go.Operand.tmp 3), type := 65, pos := "law.go:67", after := #[{ on := 12, ground := Go.Ground.guard }], guard := Option.some (12, Bool.true) }) (v := ?_) rfl (by kernel_rfl) (by kernel_rfl) (by kernel_rfl) (fun _ _ _ h => h) (Or.inl ⟨by rfl, fun w' hSw => ?_⟩) hSZ4 ?_; rotate_left; focus (have hl := loadTx_run w' p0 0 t (range_under T9.out hSw); go_simp; try with_reducible rfl))
                      simp only [Act.put, List.setIfInBounds_toArray, List.set_cons_zero, List.set_cons_succ]
                      as_aux_lemma =>
                        (refine wpAnyH_take (i := 14) (oi := { dst := Option.some 69, op := Go.Op.move (Go.Operand.tmp 1), type := 3, pos := "law.go:67", after := #[{ on := 12, ground := Go.Ground.guard }], guard := Option.some (12, Bool.true) }) (v := ?_) rfl (by kernel_rfl) (by kernel_rfl) (by kernel_rfl) (fun _ _ _ h => h) (Or.inl ⟨by rfl, fun w' hSw => ?_⟩) hSZ4 ?_; rotate_left; focus (go_simp; try with_reducible rfl))
                        simp only [Act.put, List.setIfInBounds_toArray, List.set_cons_zero, List.set_cons_succ]
                        (refine wpAnyH_take (i := 15) (oi := { dst := Option.some 70, op := Go.Op.move (Go.Operand.tmp 2), type := 22, pos := "law.go:67", after := #[{ on := 12, ground := Go.Ground.guard }], guard := Option.some (12, Bool.true) }) (v := ?_) rfl (by kernel_rfl) (by kernel_rfl) (by kernel_rfl) (fun _ _ _ h => h) (Or.inl ⟨by rfl, fun w' hSw => ?_⟩) hSZ4 ?_; rotate_left; focus (go_simp; try with_reducible rfl))
                        simp only [Act.put, List.setIfInBounds_toArray, List.set_cons_zero, List.set_cons_succ]
                        (refine wpAnyH_take (i := 17) (oi := { dst := Option.some 72, op := Go.Op.load 65 (Go.Operand.tmp 3), type := 65, pos := "law.go:67", after := #[{ on := 12, ground := Go.Ground.guard }], guard := Option.some (12, Bool.true) }) (v := ?_) rfl (by kernel_rfl) (by kernel_rfl) (by kernel_rfl) (fun _ _ _ h => h) (Or.inl ⟨by rfl, fun w' hSw => ?_⟩) hSZ4 ?_; rotate_left; focus (have hl := loadTx_run w' p0 0 t (range_under T9.out hSw); go_simp; try with_reducible rfl))
                        simp only [Act.put, List.setIfInBounds_toArray, List.set_cons_zero, List.set_cons_succ]
                        (refine wpAnyH_take (i := 18) (oi := { dst := Option.some 73, op := Go.Op.move (Go.Operand.tmp 1), type := 3, pos := "law.go:67", after := #[{ on := 12, ground := Go.Ground.guard }], guard := Option.some (12, Bool.true) }) (v := ?_) rfl (by kernel_rfl) (by kernel_rfl) (by kernel_rfl) (fun _ _ _ h => h) (Or.inl ⟨by rfl, fun w' hSw => ?_⟩) hSZ4 ?_; rotate_left; focus (go_simp; try with_reducible rfl))
                        simp only [Act.put, List.setIfInBounds_toArray, List.set_cons_zero, List.set_cons_succ]
                        (refine wpAnyH_take (i := 19) (oi := { dst := Option.some 74, op := Go.Op.move (Go.Operand.tmp 2), type := 22, pos := "law.go:67", after := #[{ on := 12, ground := Go.Ground.guard }], guard := Option.some (12, Bool.true) }) (v := ?_) rfl (by kernel_rfl) (by kernel_rfl) (by kernel_rfl) (fun _ _ _ h => h) (Or.inl ⟨by rfl, fun w' hSw => ?_⟩) hSZ4 ?_; rotate_left; focus (go_simp; try with_reducible rfl))
                        simp only [Act.put, List.setIfInBounds_toArray, List.set_cons_zero, List.set_cons_succ]
                        refine wpAnyH_ready (rs := [16]) (by kernel_rfl) (by simp) ?_
                        refine AllReadyH.cons rfl (fun K hK => ?_) AllReadyH.nil
                        go_simp
                        go_wp2_with (go_at_call 56; refine (THash_any wx34 t i B m d bs (HF9.out.below hSZ4) FA.out.small (HB9.out.below hSZ4) HC.out (by have := HM.out; omega) hi0 hi1).mono ?_; rintro e wx35 ⟨rfl, bwx35⟩; rw [EH.out.1])
                        refine hK.out _ _ (Below.then_ hSZ4 bwx35) (fun hSZ5 => ?_)
                        clear hK K
                        refine wpAnyH_ready (rs := [20]) (by kernel_rfl) (by simp) ?_
                        refine AllReadyH.cons rfl (fun K hK => ?_) AllReadyH.nil
                        go_simp
                        go_wp2_with (go_at_call 57; refine (refTHash_any wx35 t i B m d bs (HF9.out.below hSZ5) FA.out.small (HB9.out.below hSZ5) HC.out (by have := HM.out; omega) hi0 hi1).mono ?_; rintro e wx36 ⟨rfl, bwx36⟩; rw [EH.out.1])
                        refine hK.out _ _ (Below.then_ hSZ5 bwx36) (fun hSZ6 => ?_)
                        clear hK K
                        as_aux_lemma =>
                          (refine wpAnyH_take (i := 21) (oi := { dst := Option.some 76, op := Go.Op.binOp Go.BinOp.eql 44 (Go.Operand.tmp 71) (Go.Operand.tmp 75) 44, type := 4, pos := "law.go:67", after := #[{ on := 16, ground := Go.Ground.data }, { on := 20, ground := Go.Ground.data }, { on := 12, ground := Go.Ground.guard }], guard := Option.some (12, Bool.true) }) (v := ?_) rfl (by kernel_rfl) (by kernel_rfl) (by kernel_rfl) (fun _ _ _ h => h) (Or.inl ⟨by rfl, fun w' hSw => ?_⟩) hSZ6 ?_; rotate_left; focus (have hh := HH.out; go_simp; try with_reducible rfl))
                          simp only [Act.put, List.setIfInBounds_toArray, List.set_cons_zero, List.set_cons_succ]
                          (refine wpAnyH_take (i := 22) (oi := { dst := Option.some 77, op := Go.Op.pick (Go.Operand.tmp 67) (Go.Operand.tmp 76) (Go.Operand.const (Go.Value.bool Bool.false)), type := 4, pos := "law.go:67", after := #[{ on := 12, ground := Go.Ground.data }, { on := 21, ground := Go.Ground.data }], guard := Option.none }) (v := ?_) rfl (by kernel_rfl) (by kernel_rfl) (by kernel_rfl) (fun _ _ _ h => h) (Or.inl ⟨by rfl, fun w' hSw => ?_⟩) hSZ6 ?_; rotate_left; focus (go_simp; try with_reducible rfl))
                          simp only [Act.put, List.setIfInBounds_toArray, List.set_cons_zero, List.set_cons_succ]
                          (refine wpAnyH_take (i := 23) (oi := { dst := Option.some 78, op := Go.Op.move (Go.Operand.tmp 77), type := 4, pos := "law.go:67", after := #[{ on := 22, ground := Go.Ground.data }, { on := 20, ground := Go.Ground.chain }], guard := Option.none }) (v := ?_) rfl (by kernel_rfl) (by kernel_rfl) (by kernel_rfl) (fun _ _ _ h => h) (Or.inl ⟨by rfl, fun w' hSw => ?_⟩) hSZ6 ?_; rotate_left; focus (go_simp; try with_reducible rfl))
                          simp only [Act.put, List.setIfInBounds_toArray, List.set_cons_zero, List.set_cons_succ]
                          (refine wpAnyH_take (i := 24) (oi := { dst := Option.some 79, op := Go.Op.load 65 (Go.Operand.tmp 3), type := 65, pos := "law.go:67", after := #[{ on := 23, ground := Go.Ground.guard }], guard := Option.some (23, Bool.true) }) (v := ?_) rfl (by kernel_rfl) (by kernel_rfl) (by kernel_rfl) (fun _ _ _ h => h) (Or.inl ⟨by rfl, fun w' hSw => ?_⟩) hSZ6 ?_; rotate_left; focus (have hl := loadTx_run w' p0 0 t (range_under T9.out hSw); go_simp; try with_reducible rfl))
                          simp only [Act.put, List.setIfInBounds_toArray, List.set_cons_zero, List.set_cons_succ]
                          (refine wpAnyH_take (i := 27) (oi := { dst := Option.some 82, op := Go.Op.move (Go.Operand.tmp 7), type := 22, pos := "law.go:67", after := #[{ on := 23, ground := Go.Ground.guard }], guard := Option.some (23, Bool.true) }) (v := ?_) rfl (by kernel_rfl) (by kernel_rfl) (by kernel_rfl) (fun _ _ _ h => h) (Or.inl ⟨by rfl, fun w' hSw => ?_⟩) hSZ6 ?_; rotate_left; focus (go_simp; try with_reducible rfl))
                          simp only [Act.put, List.setIfInBounds_toArray, List.set_cons_zero, List.set_cons_succ]
                          refine wpAnyH_ready (rs := [25, 28]) (by kernel_rfl) (by simp) ?_
                          refine AllReadyH.cons rfl (fun K hK => ?_) (AllReadyH.cons rfl (fun K hK => ?_) AllReadyH.nil)
                          · go_simp
                            refine (TBytes_any wx36 t (HF9.out.below hSZ6) FA.out.small).mono ?_
                            rintro e wx37 ⟨Awx37, nwx37, cwx37, rfl, twx37, fwx37⟩
                            go_simp
                            have Ywx37 := hide twx37.bys
                            have gwx37 := twx37.below
                            clear twx37 fwx37
                            refine hK.out _ _ (Below.then_ hSZ6 gwx37) (fun hSZ7 => ?_)
                            clear hK K
                            refine wpAnyH_ready (rs := [26, 28]) (by kernel_rfl) (by simp) ?_
                            refine AllReadyH.cons rfl (fun K hK => ?_) (AllReadyH.cons rfl (fun K hK => ?_) AllReadyH.nil)
                            · have s8 := hsa.out wx37 Awx37 nwx37 cwx37 _ (by first | exact Ywx37.out | exact Ywx37.out.below (by assumption)) rfl
                              go_simp
                              refine hK.out _ _ (hSZ7) (fun hSZ8 => ?_)
                              clear hK K
                              as_aux_lemma =>
                                refine wpAnyH_ready (rs := [28]) (by kernel_rfl) (by simp) ?_
                                refine AllReadyH.cons rfl (fun K hK => ?_) AllReadyH.nil
                                have s7 := hsa.out wx37 A5 n5 c5 _ (HY9.out.below hSZ8) rfl
                                go_simp
                                refine hK.out _ _ (hSZ8) (fun hSZ9 => ?_)
                                clear hK K
                                (refine wpAnyH_take (i := 29) (oi := { dst := Option.some 84, op := Go.Op.binOp Go.BinOp.eql 9 (Go.Operand.tmp 81) (Go.Operand.tmp 83) 9, type := 4, pos := "law.go:67", after := #[{ on := 26, ground := Go.Ground.data }, { on := 28, ground := Go.Ground.data }, { on := 23, ground := Go.Ground.guard }], guard := Option.some (23, Bool.true) }) (v := ?_) rfl (by kernel_rfl) (by kernel_rfl) (by kernel_rfl) (fun _ _ _ h => h) (Or.inl ⟨by rfl, fun w' hSw => ?_⟩) hSZ9 ?_; rotate_left; focus (go_simp; try with_reducible rfl))
                                simp only [Act.put, List.setIfInBounds_toArray, List.set_cons_zero, List.set_cons_succ]
                                (refine wpAnyH_take (i := 30) (oi := { dst := Option.some 85, op := Go.Op.pick (Go.Operand.tmp 78) (Go.Operand.tmp 84) (Go.Operand.const (Go.Value.bool Bool.false)), type := 4, pos := "law.go:67", after := #[{ on := 23, ground := Go.Ground.data }, { on := 29, ground := Go.Ground.data }], guard := Option.none }) (v := ?_) rfl (by kernel_rfl) (by kernel_rfl) (by kernel_rfl) (fun _ _ _ h => h) (Or.inl ⟨by rfl, fun w' hSw => ?_⟩) hSZ9 ?_; rotate_left; focus (go_simp; try with_reducible rfl))
                                simp only [Act.put, List.setIfInBounds_toArray, List.set_cons_zero, List.set_cons_succ]
                                (refine wpAnyH_take (i := 31) (oi := { dst := Option.some 6, op := Go.Op.assign (Go.Operand.tmp 85), type := 4, pos := "law.go:67", after := #[{ on := 30, ground := Go.Ground.data }, { on := 25, ground := Go.Ground.chain }, { on := 0, ground := Go.Ground.phase }, { on := 1, ground := Go.Ground.phase }, { on := 2, ground := Go.Ground.phase }, { on := 3, ground := Go.Ground.phase }, { on := 4, ground := Go.Ground.phase }, { on := 5, ground := Go.Ground.phase }, { on := 6, ground := Go.Ground.phase }, { on := 7, ground := Go.Ground.phase }, { on := 8, ground := Go.Ground.phase }, { on := 9, ground := Go.Ground.phase }, { on := 10, ground := Go.Ground.phase }, { on := 11, ground := Go.Ground.phase }, { on := 12, ground := Go.Ground.phase }, { on := 13, ground := Go.Ground.phase }, { on := 14, ground := Go.Ground.phase }, { on := 15, ground := Go.Ground.phase }, { on := 16, ground := Go.Ground.phase }, { on := 17, ground := Go.Ground.phase }, { on := 18, ground := Go.Ground.phase }, { on := 19, ground := Go.Ground.phase }, { on := 20, ground := Go.Ground.phase }, { on := 21, ground := Go.Ground.phase }, { on := 22, ground := Go.Ground.phase }, { on := 23, ground := Go.Ground.phase }, { on := 24, ground := Go.Ground.phase }, { on := 25, ground := Go.Ground.phase }, { on := 26, ground := Go.Ground.phase }, { on := 27, ground := Go.Ground.phase }, { on := 28, ground := Go.Ground.phase }, { on := 29, ground := Go.Ground.phase }, { on := 30, ground := Go.Ground.phase }], guard := Option.none }) (v := ?_) rfl (by kernel_rfl) (by kernel_rfl) (by kernel_rfl) (fun _ _ _ h => h) (Or.inl ⟨by rfl, fun w' hSw => ?_⟩) hSZ9 ?_; rotate_left; focus (go_simp; try with_reducible rfl))
                                simp only [Act.put, List.setIfInBounds_toArray, List.set_cons_zero, List.set_cons_succ]
                                refine wpAnyH_done (by kernel_rfl) ?_ _
                                go_wp2_with fail
                                go_ret
                                exact ⟨by simp, Below.then_ HB9w.out hSZ9⟩
                            · have s7 := hsa.out wx37 A5 n5 c5 _ (HY9.out.below hSZ7) rfl
                              go_simp
                              refine hK.out _ _ (hSZ7) (fun hSZ8 => ?_)
                              clear hK K
                              as_aux_lemma =>
                                refine wpAnyH_ready (rs := [26]) (by kernel_rfl) (by simp) ?_
                                refine AllReadyH.cons rfl (fun K hK => ?_) AllReadyH.nil
                                have s8 := hsa.out wx37 Awx37 nwx37 cwx37 _ (by first | exact Ywx37.out | exact Ywx37.out.below (by assumption)) rfl
                                go_simp
                                refine hK.out _ _ (hSZ8) (fun hSZ9 => ?_)
                                clear hK K
                                (refine wpAnyH_take (i := 29) (oi := { dst := Option.some 84, op := Go.Op.binOp Go.BinOp.eql 9 (Go.Operand.tmp 81) (Go.Operand.tmp 83) 9, type := 4, pos := "law.go:67", after := #[{ on := 26, ground := Go.Ground.data }, { on := 28, ground := Go.Ground.data }, { on := 23, ground := Go.Ground.guard }], guard := Option.some (23, Bool.true) }) (v := ?_) rfl (by kernel_rfl) (by kernel_rfl) (by kernel_rfl) (fun _ _ _ h => h) (Or.inl ⟨by rfl, fun w' hSw => ?_⟩) hSZ9 ?_; rotate_left; focus (go_simp; try with_reducible rfl))
                                simp only [Act.put, List.setIfInBounds_toArray, List.set_cons_zero, List.set_cons_succ]
                                (refine wpAnyH_take (i := 30) (oi := { dst := Option.some 85, op := Go.Op.pick (Go.Operand.tmp 78) (Go.Operand.tmp 84) (Go.Operand.const (Go.Value.bool Bool.false)), type := 4, pos := "law.go:67", after := #[{ on := 23, ground := Go.Ground.data }, { on := 29, ground := Go.Ground.data }], guard := Option.none }) (v := ?_) rfl (by kernel_rfl) (by kernel_rfl) (by kernel_rfl) (fun _ _ _ h => h) (Or.inl ⟨by rfl, fun w' hSw => ?_⟩) hSZ9 ?_; rotate_left; focus (go_simp; try with_reducible rfl))
                                simp only [Act.put, List.setIfInBounds_toArray, List.set_cons_zero, List.set_cons_succ]
                                (refine wpAnyH_take (i := 31) (oi := { dst := Option.some 6, op := Go.Op.assign (Go.Operand.tmp 85), type := 4, pos := "law.go:67", after := #[{ on := 30, ground := Go.Ground.data }, { on := 25, ground := Go.Ground.chain }, { on := 0, ground := Go.Ground.phase }, { on := 1, ground := Go.Ground.phase }, { on := 2, ground := Go.Ground.phase }, { on := 3, ground := Go.Ground.phase }, { on := 4, ground := Go.Ground.phase }, { on := 5, ground := Go.Ground.phase }, { on := 6, ground := Go.Ground.phase }, { on := 7, ground := Go.Ground.phase }, { on := 8, ground := Go.Ground.phase }, { on := 9, ground := Go.Ground.phase }, { on := 10, ground := Go.Ground.phase }, { on := 11, ground := Go.Ground.phase }, { on := 12, ground := Go.Ground.phase }, { on := 13, ground := Go.Ground.phase }, { on := 14, ground := Go.Ground.phase }, { on := 15, ground := Go.Ground.phase }, { on := 16, ground := Go.Ground.phase }, { on := 17, ground := Go.Ground.phase }, { on := 18, ground := Go.Ground.phase }, { on := 19, ground := Go.Ground.phase }, { on := 20, ground := Go.Ground.phase }, { on := 21, ground := Go.Ground.phase }, { on := 22, ground := Go.Ground.phase }, { on := 23, ground := Go.Ground.phase }, { on := 24, ground := Go.Ground.phase }, { on := 25, ground := Go.Ground.phase }, { on := 26, ground := Go.Ground.phase }, { on := 27, ground := Go.Ground.phase }, { on := 28, ground := Go.Ground.phase }, { on := 29, ground := Go.Ground.phase }, { on := 30, ground := Go.Ground.phase }], guard := Option.none }) (v := ?_) rfl (by kernel_rfl) (by kernel_rfl) (by kernel_rfl) (fun _ _ _ h => h) (Or.inl ⟨by rfl, fun w' hSw => ?_⟩) hSZ9 ?_; rotate_left; focus (go_simp; try with_reducible rfl))
                                simp only [Act.put, List.setIfInBounds_toArray, List.set_cons_zero, List.set_cons_succ]
                                refine wpAnyH_done (by kernel_rfl) ?_ _
                                go_wp2_with fail
                                go_ret
                                exact ⟨by simp, Below.then_ HB9w.out hSZ9⟩
                          · have s7 := hsa.out wx36 A5 n5 c5 _ (HY9.out.below hSZ6) rfl
                            go_simp
                            refine hK.out _ _ (hSZ6) (fun hSZ7 => ?_)
                            clear hK K
                            refine wpAnyH_ready (rs := [25]) (by kernel_rfl) (by simp) ?_
                            refine AllReadyH.cons rfl (fun K hK => ?_) AllReadyH.nil
                            go_simp
                            refine (TBytes_any wx36 t (HF9.out.below hSZ7) FA.out.small).mono ?_
                            rintro e wx38 ⟨Awx38, nwx38, cwx38, rfl, twx38, fwx38⟩
                            go_simp
                            have Ywx38 := hide twx38.bys
                            have gwx38 := twx38.below
                            clear twx38 fwx38
                            refine hK.out _ _ (Below.then_ hSZ7 gwx38) (fun hSZ8 => ?_)
                            clear hK K
                            as_aux_lemma =>
                              refine wpAnyH_ready (rs := [26]) (by kernel_rfl) (by simp) ?_
                              refine AllReadyH.cons rfl (fun K hK => ?_) AllReadyH.nil
                              have s8 := hsa.out wx38 Awx38 nwx38 cwx38 _ (by first | exact Ywx38.out | exact Ywx38.out.below (by assumption)) rfl
                              go_simp
                              refine hK.out _ _ (hSZ8) (fun hSZ9 => ?_)
                              clear hK K
                              (refine wpAnyH_take (i := 29) (oi := { dst := Option.some 84, op := Go.Op.binOp Go.BinOp.eql 9 (Go.Operand.tmp 81) (Go.Operand.tmp 83) 9, type := 4, pos := "law.go:67", after := #[{ on := 26, ground := Go.Ground.data }, { on := 28, ground := Go.Ground.data }, { on := 23, ground := Go.Ground.guard }], guard := Option.some (23, Bool.true) }) (v := ?_) rfl (by kernel_rfl) (by kernel_rfl) (by kernel_rfl) (fun _ _ _ h => h) (Or.inl ⟨by rfl, fun w' hSw => ?_⟩) hSZ9 ?_; rotate_left; focus (go_simp; try with_reducible rfl))
                              simp only [Act.put, List.setIfInBounds_toArray, List.set_cons_zero, List.set_cons_succ]
                              (refine wpAnyH_take (i := 30) (oi := { dst := Option.some 85, op := Go.Op.pick (Go.Operand.tmp 78) (Go.Operand.tmp 84) (Go.Operand.const (Go.Value.bool Bool.false)), type := 4, pos := "law.go:67", after := #[{ on := 23, ground := Go.Ground.data }, { on := 29, ground := Go.Ground.data }], guard := Option.none }) (v := ?_) rfl (by kernel_rfl) (by kernel_rfl) (by kernel_rfl) (fun _ _ _ h => h) (Or.inl ⟨by rfl, fun w' hSw => ?_⟩) hSZ9 ?_; rotate_left; focus (go_simp; try with_reducible rfl))
                              simp only [Act.put, List.setIfInBounds_toArray, List.set_cons_zero, List.set_cons_succ]
                              (refine wpAnyH_take (i := 31) (oi := { dst := Option.some 6, op := Go.Op.assign (Go.Operand.tmp 85), type := 4, pos := "law.go:67", after := #[{ on := 30, ground := Go.Ground.data }, { on := 25, ground := Go.Ground.chain }, { on := 0, ground := Go.Ground.phase }, { on := 1, ground := Go.Ground.phase }, { on := 2, ground := Go.Ground.phase }, { on := 3, ground := Go.Ground.phase }, { on := 4, ground := Go.Ground.phase }, { on := 5, ground := Go.Ground.phase }, { on := 6, ground := Go.Ground.phase }, { on := 7, ground := Go.Ground.phase }, { on := 8, ground := Go.Ground.phase }, { on := 9, ground := Go.Ground.phase }, { on := 10, ground := Go.Ground.phase }, { on := 11, ground := Go.Ground.phase }, { on := 12, ground := Go.Ground.phase }, { on := 13, ground := Go.Ground.phase }, { on := 14, ground := Go.Ground.phase }, { on := 15, ground := Go.Ground.phase }, { on := 16, ground := Go.Ground.phase }, { on := 17, ground := Go.Ground.phase }, { on := 18, ground := Go.Ground.phase }, { on := 19, ground := Go.Ground.phase }, { on := 20, ground := Go.Ground.phase }, { on := 21, ground := Go.Ground.phase }, { on := 22, ground := Go.Ground.phase }, { on := 23, ground := Go.Ground.phase }, { on := 24, ground := Go.Ground.phase }, { on := 25, ground := Go.Ground.phase }, { on := 26, ground := Go.Ground.phase }, { on := 27, ground := Go.Ground.phase }, { on := 28, ground := Go.Ground.phase }, { on := 29, ground := Go.Ground.phase }, { on := 30, ground := Go.Ground.phase }], guard := Option.none }) (v := ?_) rfl (by kernel_rfl) (by kernel_rfl) (by kernel_rfl) (fun _ _ _ h => h) (Or.inl ⟨by rfl, fun w' hSw => ?_⟩) hSZ9 ?_; rotate_left; focus (go_simp; try with_reducible rfl))
                              simp only [Act.put, List.setIfInBounds_toArray, List.set_cons_zero, List.set_cons_succ]
                              refine wpAnyH_done (by kernel_rfl) ?_ _
                              go_wp2_with fail
                              go_ret
                              exact ⟨by simp, Below.then_ HB9w.out hSZ9⟩
end Go.Proofs.Ytfloclamdpageaa
