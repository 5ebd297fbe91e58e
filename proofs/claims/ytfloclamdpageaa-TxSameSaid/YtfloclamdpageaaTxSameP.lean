import Derived.Test.YtfloclamdpageaaPk10
import Derived.Test.YtfloclamdpageaaPk11
import Derived.Test.YtfloclamdpageaaPk14
import Derived.Test.YtfloclamdpageaaPk12
/-
  TxSame: the law's walk.
-/
namespace Go.Proofs.Ytfloclamdpageaa
open Go.RowKit

attribute [local go_sem ↓] mkTx_fold loadTx_fold eqlHash_fold neqHash_fold
attribute [local go_sem] mkTx_zero guardHash
set_option maxHeartbeats 8000000 in
set_option maxRecDepth 100000 in
theorem txsame_any (w : World) (a b : TxV) (ha : a.Fine w) (hb : b.Fine w) :
    Calls Try.prog 10 #[.agg a.cells.toArray, .agg b.cells.toArray] w fun e w' => e = .returned (.bool true) ∧ Below w.heap.size w w' := by
  have T0 := (Blk.new w 65 a.cells).alloc (.cells b.cells.toArray 65)
  have U0 := Blk.new1 w (.cells a.cells.toArray 65) 65 b.cells
  have hw : Below w.heap.size w ((w.alloc (.cells a.cells.toArray 65)).alloc (.cells b.cells.toArray 65)) := below_alloc (below_alloc (Below.refl _ _) _) _
  have HA := hide (ha.below hw)
  have HB := hide (hb.below hw)
  have HW := hide hw
  have HT := hide T0
  have HU := hide U0
  have hI := isTx
  clear ha hb hw T0 U0
  go_enter Try.func10, Try.ntmps10
  go_wp2_with fail
  obtain ⟨p0, hp0⟩ : ∃ p, p = w.heap.size := ⟨_, rfl⟩
  obtain ⟨p1, hp1⟩ : ∃ p, p = w.heap.size + 1 := ⟨_, rfl⟩
  obtain ⟨w1, hw1⟩ : ∃ x, x = (w.alloc (.cells a.cells.toArray 65)).alloc (.cells b.cells.toArray 65) := ⟨_, rfl⟩
  rw [← hw1] at HA HB HW HT HU ⊢
  rw [← hp1] at HU ⊢
  rw [← hp0] at HT ⊢
  clear hw1
  have HP01 := hide (show p0 = w.heap.size ∧ p1 = w.heap.size + 1 from ⟨hp0, hp1⟩)
  clear hp0 hp1
  refine (txAlive_any _).mono ?_
  rintro e w2 ⟨rfl, b2⟩
  have HB2 := hide b2
  have l0 := loadTx_run w2 p0 0 a (range_under HT.out.whole b2)
  clear b2
  go_wp2_with fail
  refine (great_any w2 a (HA.out.below HB2.out)).mono ?_
  rintro e w3 ⟨g1, rfl, hg1, b3⟩
  have HB3 := hide (Below.then_ HB2.out b3)
  have l1 := loadTx_run w3 p1 0 b (range_under HU.out.whole HB3.out)
  clear b3 l0
  cases g1 with
  | true =>
    go_wp2_with fail
    go_ret
    exact ⟨rfl, Below.then_ HW.out HB3.out⟩
  | false =>
    have FA := hide (hg1 rfl)
    clear hg1
    go_wp2_with fail
    refine (great_any w3 b (HB.out.below HB3.out)).mono ?_
    rintro e w4 ⟨g2, rfl, hg2, b4⟩
    have HB4 := hide (Below.then_ HB3.out b4)
    have l0 := loadTx_run w4 p0 0 a (range_under HT.out.whole HB4.out)
    clear b4 l1
    cases g2 with
    | true =>
      go_wp2_with fail
      go_ret
      exact ⟨rfl, Below.then_ HW.out HB4.out⟩
    | false =>
      have FB := hide (hg2 rfl)
      clear hg2
      go_wp2_with fail
      have HB4w := HB4
      have HA4 := hide (HA.out.below HB4.out)
      have HB4 := hide (HB.out.below HB4.out)
      have TA := hide (range_under HT.out.whole HB4w.out)
      have TB := hide (range_under HU.out.whole HB4w.out)
      obtain ⟨E, hE⟩ : ∃ E : Bool, E = decide (a.d.bytes = b.d.bytes) := ⟨_, rfl⟩
      have HSS := hide (show a.d.same b.d = E by rw [hE]; exact TxD.same_bytes _ _ (FA.out.ok2 HA.out) (FB.out.ok2 HB.out))
      have E0 := hide (ba_beq a.d.bytes b.d.bytes (TxV.byt HA.out) (TxV.byt HB.out))
      rw [← hE] at E0
      obtain ⟨S, hS, hsa⟩ := hstr_of a.d.bytes
      obtain ⟨T, hT, hsb⟩ := hstr_of b.d.bytes
      rw [← hS, ← hT] at E0
      obtain ⟨IA, hIA⟩ : ∃ x, x = sha2 a.d.bytes := ⟨_, rfl⟩
      obtain ⟨IB, hIB⟩ : ∃ x, x = sha2 b.d.bytes := ⟨_, rfl⟩
      have lIA := hide (show IA.length = 32 by rw [hIA]; exact sha2_len _)
      have lIB := hide (show IB.length = 32 by rw [hIB]; exact sha2_len _)
      have EI := hide (⟨hIA.symm, hIB.symm⟩ : sha2 a.d.bytes = IA ∧ sha2 b.d.bytes = IB)
      obtain ⟨E2, hE2⟩ : ∃ E2 : Bool, E2 = (IA == IB) := ⟨_, rfl⟩
      have HH := hide (fun w => (by rw [hE2]; exact eqlHash_run IA IB lIA.out lIB.out w : (eqlHash (.agg (bcs IA).toArray) (.agg (bcs IB).toArray)).run Try.prog w = .ok (.bool E2) w))
      clear hIA hIB hE2
      clear hS hT hE l0
      refine wp_region_held_drew (S := fun w' => Below w4.heap.size w4 w') (by kernel_rfl) (by exact (Below.refl _ _).drew) (fun hS0 => ?_)
      obtain ⟨w5, hw5⟩ : ∃ x, x = w4.drew := ⟨_, rfl⟩
      rw [← hw5] at hS0 ⊢
      clear hw5
      refine wpAnyH_take (i := 0) (oi := { dst := Option.some 14, op := Go.Op.load 65 (Go.Operand.tmp 2), type := 65, pos := "law.go:96", after := #[], guard := Option.none }) (v := ?_) rfl (by kernel_rfl) (by kernel_rfl) (by kernel_rfl) (fun _ _ _ h => h) (Or.inl ⟨by rfl, fun w' hSw => ?_⟩) hS0 ?_; rotate_left; focus (have hl := loadTx_run w' p0 0 a (range_under TA.out hSw); go_simp; try with_reducible rfl)
      simp only [Act.put, List.setIfInBounds_toArray, List.set_cons_zero, List.set_cons_succ]
      refine wpAnyH_take (i := 3) (oi := { dst := Option.some 17, op := Go.Op.load 65 (Go.Operand.tmp 3), type := 65, pos := "law.go:96", after := #[], guard := Option.none }) (v := ?_) rfl (by kernel_rfl) (by kernel_rfl) (by kernel_rfl) (fun _ _ _ h => h) (Or.inl ⟨by rfl, fun w' hSw => ?_⟩) hS0 ?_; rotate_left; focus (have hl := loadTx_run w' p1 0 b (range_under TB.out hSw); go_simp; try with_reducible rfl)
      simp only [Act.put, List.setIfInBounds_toArray, List.set_cons_zero, List.set_cons_succ]
      refine wpAnyH_ready (rs := [1]) (by kernel_rfl) (by simp) ?_
      refine AllReadyH.cons rfl (fun K hK => ?_) AllReadyH.nil
      go_simp
      refine (refTBytes_any _ a (HA4.out.below hS0) FA.out.small).mono ?_
      rintro e w6 ⟨A6, n6, c6, rfl, t6, f6⟩
      go_simp
      have HS6 := hide (Below.then_ hS0 t6.below)
      have Y6 := hide t6.bys
      clear t6 f6
      refine hK.out _ _ (HS6.out) (fun _ => ?_)
      clear hK K
      refine wpAnyH_ready (rs := [2, 4]) (by kernel_rfl) (by simp) ?_
      refine AllReadyH.cons rfl (fun K hK => ?_) (AllReadyH.cons rfl (fun K hK => ?_) AllReadyH.nil)
      · have s6 := hsa.out w6 A6 n6 c6 _ Y6.out rfl
        go_simp
        refine hK.out _ _ (HS6.out) (fun _ => ?_)
        clear hK K s6
        refine wpAnyH_ready (rs := [4]) (by kernel_rfl) (by simp) ?_
        refine AllReadyH.cons rfl (fun K hK => ?_) AllReadyH.nil
        go_simp
        refine (refTBytes_any _ b (HB4.out.below HS6.out) FB.out.small).mono ?_
        rintro e w7 ⟨A7, n7, c7, rfl, t7, f7⟩
        go_simp
        have HS7 := hide (Below.then_ HS6.out t7.below)
        have Y7 := hide t7.bys
        have Y67 := hide (Y6.out.below t7.below)
        clear t7 f7
        refine hK.out _ _ (HS7.out) (fun _ => ?_)
        clear hK K
        refine wpAnyH_ready (rs := [5]) (by kernel_rfl) (by simp) ?_
        refine AllReadyH.cons rfl (fun K hK => ?_) AllReadyH.nil
        have s7 := hsb.out w7 A7 n7 c7 _ Y7.out rfl
        go_simp
        refine hK.out _ _ (HS7.out) (fun _ => ?_)
        clear hK K s7
        refine wpAnyH_take (i := 6) (oi := { dst := Option.some 20, op := Go.Op.binOp Go.BinOp.eql 9 (Go.Operand.tmp 16) (Go.Operand.tmp 19) 9, type := 4, pos := "law.go:96", after := #[{ on := 2, ground := Go.Ground.data }, { on := 5, ground := Go.Ground.data }], guard := Option.none }) (v := ?_) rfl (by kernel_rfl) (by kernel_rfl) (by kernel_rfl) (fun _ _ _ h => h) (Or.inl ⟨by rfl, fun w' hSw => ?_⟩) HS7.out ?_; rotate_left; focus (go_simp; try with_reducible rfl)
        simp only [Act.put, List.setIfInBounds_toArray, List.set_cons_zero, List.set_cons_succ]
        refine wpAnyH_take (i := 7) (oi := { dst := Option.some 5, op := Go.Op.assign (Go.Operand.tmp 20), type := 4, pos := "law.go:96", after := #[{ on := 6, ground := Go.Ground.data }, { on := 4, ground := Go.Ground.chain }, { on := 0, ground := Go.Ground.phase }, { on := 1, ground := Go.Ground.phase }, { on := 2, ground := Go.Ground.phase }, { on := 3, ground := Go.Ground.phase }, { on := 4, ground := Go.Ground.phase }, { on := 5, ground := Go.Ground.phase }, { on := 6, ground := Go.Ground.phase }], guard := Option.none }) (v := ?_) rfl (by kernel_rfl) (by kernel_rfl) (by kernel_rfl) (fun _ _ _ h => h) (Or.inl ⟨by rfl, fun w' hSw => ?_⟩) HS7.out ?_; rotate_left; focus (go_simp; try with_reducible rfl)
        simp only [Act.put, List.setIfInBounds_toArray, List.set_cons_zero, List.set_cons_succ]
        refine wpAnyH_done (by kernel_rfl) ?_ _
        have HJ := HS7
        rw [E0.out]
        have HAJ := hide (HA4.out.below HJ.out)
        have HBJ := hide (HB4.out.below HJ.out)
        have TAJ := hide (range_under TA.out HJ.out)
        have TBJ := hide (range_under TB.out HJ.out)
        as_aux_lemma =>
          go_wp2_with fail
          refine wp_region_held_drew (S := fun w' => Below w7.heap.size w7 w') (by kernel_rfl) (by exact (Below.refl _ _).drew) (fun hSQ0 => ?_)
          obtain ⟨w7d, hwQ⟩ : ∃ x, x = w7.drew := ⟨_, rfl⟩
          rw [← hwQ] at hSQ0 ⊢
          clear hwQ
          (refine wpAnyH_take (i := 0) (oi := { dst := Option.some 21, op := Go.Op.load 65 (Go.Operand.tmp 2), type := 65, pos := "law.go:97", after := #[], guard := Option.none }) (v := ?_) rfl (by kernel_rfl) (by kernel_rfl) (by kernel_rfl) (fun _ _ _ h => h) (Or.inl ⟨by rfl, fun w' hSw => ?_⟩) hSQ0 ?_; rotate_left; focus (have hl := loadTx_run w' p0 0 a (range_under TAJ.out hSw); go_simp; try with_reducible rfl))
          simp only [Act.put, List.setIfInBounds_toArray, List.set_cons_zero, List.set_cons_succ]
          (refine wpAnyH_take (i := 1) (oi := { dst := Option.some 22, op := Go.Op.load 65 (Go.Operand.tmp 3), type := 65, pos := "law.go:97", after := #[], guard := Option.none }) (v := ?_) rfl (by kernel_rfl) (by kernel_rfl) (by kernel_rfl) (fun _ _ _ h => h) (Or.inl ⟨by rfl, fun w' hSw => ?_⟩) hSQ0 ?_; rotate_left; focus (have hl := loadTx_run w' p1 0 b (range_under TBJ.out hSw); go_simp; try with_reducible rfl))
          simp only [Act.put, List.setIfInBounds_toArray, List.set_cons_zero, List.set_cons_succ]
          (refine wpAnyH_take (i := 3) (oi := { dst := Option.some 24, op := Go.Op.move (Go.Operand.tmp 5), type := 4, pos := "law.go:97", after := #[], guard := Option.none }) (v := ?_) rfl (by kernel_rfl) (by kernel_rfl) (by kernel_rfl) (fun _ _ _ h => h) (Or.inl ⟨by rfl, fun w' hSw => ?_⟩) hSQ0 ?_; rotate_left; focus (go_simp; try with_reducible rfl))
          simp only [Act.put, List.setIfInBounds_toArray, List.set_cons_zero, List.set_cons_succ]
          refine wpAnyH_ready (rs := [2]) (by kernel_rfl) (by simp) ?_
          refine AllReadyH.cons rfl (fun K hK => ?_) AllReadyH.nil
          go_simp
          go_wp2_with (go_at_call 51; refine (TSame_any w7d a b (HAJ.out.below hSQ0) (HBJ.out.below hSQ0) FA.out.small FB.out.small).mono ?_; rintro e wz1 ⟨rfl, bwz1⟩; rw [HSS.out])
          refine hK.out _ _ (Below.then_ hSQ0 bwz1) (fun hSQ1 => ?_)
          clear hK K
          (refine wpAnyH_take (i := 4) (oi := { dst := Option.some 25, op := Go.Op.binOp Go.BinOp.eql 4 (Go.Operand.tmp 23) (Go.Operand.tmp 24) 4, type := 4, pos := "law.go:97", after := #[{ on := 2, ground := Go.Ground.data }, { on := 3, ground := Go.Ground.data }], guard := Option.none }) (v := ?_) rfl (by kernel_rfl) (by kernel_rfl) (by kernel_rfl) (fun _ _ _ h => h) (Or.inl ⟨by rfl, fun w' hSw => ?_⟩) hSQ1 ?_; rotate_left; focus (go_simp; try with_reducible rfl))
          simp only [Act.put, List.setIfInBounds_toArray, List.set_cons_zero, List.set_cons_succ]
          (refine wpAnyH_take (i := 5) (oi := { dst := Option.some 26, op := Go.Op.move (Go.Operand.tmp 25), type := 4, pos := "law.go:97", after := #[{ on := 4, ground := Go.Ground.data }, { on := 2, ground := Go.Ground.chain }], guard := Option.none }) (v := ?_) rfl (by kernel_rfl) (by kernel_rfl) (by kernel_rfl) (fun _ _ _ h => h) (Or.inl ⟨by rfl, fun w' hSw => ?_⟩) hSQ1 ?_; rotate_left; focus (go_simp; try with_reducible rfl))
          simp only [Act.put, List.setIfInBounds_toArray, List.set_cons_zero, List.set_cons_succ]
          (refine wpAnyH_take (i := 6) (oi := { dst := Option.some 27, op := Go.Op.load 65 (Go.Operand.tmp 2), type := 65, pos := "law.go:97", after := #[{ on := 5, ground := Go.Ground.guard }], guard := Option.some (5, Bool.true) }) (v := ?_) rfl (by kernel_rfl) (by kernel_rfl) (by kernel_rfl) (fun _ _ _ h => h) (Or.inl ⟨by rfl, fun w' hSw => ?_⟩) hSQ1 ?_; rotate_left; focus (have hl := loadTx_run w' p0 0 a (range_under TAJ.out hSw); go_simp; try with_reducible rfl))
          simp only [Act.put, List.setIfInBounds_toArray, List.set_cons_zero, List.set_cons_succ]
          as_aux_lemma =>
            (refine wpAnyH_take (i := 8) (oi := { dst := Option.some 29, op := Go.Op.load 65 (Go.Operand.tmp 3), type := 65, pos := "law.go:97", after := #[{ on := 5, ground := Go.Ground.guard }], guard := Option.some (5, Bool.true) }) (v := ?_) rfl (by kernel_rfl) (by kernel_rfl) (by kernel_rfl) (fun _ _ _ h => h) (Or.inl ⟨by rfl, fun w' hSw => ?_⟩) hSQ1 ?_; rotate_left; focus (have hl := loadTx_run w' p1 0 b (range_under TBJ.out hSw); go_simp; try with_reducible rfl))
            simp only [Act.put, List.setIfInBounds_toArray, List.set_cons_zero, List.set_cons_succ]
            (refine wpAnyH_take (i := 11) (oi := { dst := Option.some 32, op := Go.Op.load 65 (Go.Operand.tmp 2), type := 65, pos := "law.go:97", after := #[{ on := 5, ground := Go.Ground.guard }], guard := Option.some (5, Bool.true) }) (v := ?_) rfl (by kernel_rfl) (by kernel_rfl) (by kernel_rfl) (fun _ _ _ h => h) (Or.inl ⟨by rfl, fun w' hSw => ?_⟩) hSQ1 ?_; rotate_left; focus (have hl := loadTx_run w' p0 0 a (range_under TAJ.out hSw); go_simp; try with_reducible rfl))
            simp only [Act.put, List.setIfInBounds_toArray, List.set_cons_zero, List.set_cons_succ]
            (refine wpAnyH_take (i := 13) (oi := { dst := Option.some 34, op := Go.Op.load 65 (Go.Operand.tmp 3), type := 65, pos := "law.go:97", after := #[{ on := 5, ground := Go.Ground.guard }], guard := Option.some (5, Bool.true) }) (v := ?_) rfl (by kernel_rfl) (by kernel_rfl) (by kernel_rfl) (fun _ _ _ h => h) (Or.inl ⟨by rfl, fun w' hSw => ?_⟩) hSQ1 ?_; rotate_left; focus (have hl := loadTx_run w' p1 0 b (range_under TBJ.out hSw); go_simp; try with_reducible rfl))
            simp only [Act.put, List.setIfInBounds_toArray, List.set_cons_zero, List.set_cons_succ]
            refine wpAnyH_ready (rs := [7]) (by kernel_rfl) (by simp) ?_
            refine AllReadyH.cons rfl (fun K hK => ?_) AllReadyH.nil
            go_simp
            go_wp2_with (go_at_call 52; refine (TId_any wz1 a (HAJ.out.below hSQ1) FA.out.small).mono ?_; rintro e wz2 ⟨rfl, bwz2⟩; rw [EI.out.1])
            refine hK.out _ _ (Below.then_ hSQ1 bwz2) (fun hSQ2 => ?_)
            clear hK K
            refine wpAnyH_ready (rs := [9]) (by kernel_rfl) (by simp) ?_
            refine AllReadyH.cons rfl (fun K hK => ?_) AllReadyH.nil
            go_simp
            go_wp2_with (go_at_call 52; refine (TId_any wz2 b (HBJ.out.below hSQ2) FB.out.small).mono ?_; rintro e wz3 ⟨rfl, bwz3⟩; rw [EI.out.2])
            refine hK.out _ _ (Below.then_ hSQ2 bwz3) (fun hSQ3 => ?_)
            clear hK K
            (refine wpAnyH_take (i := 10) (oi := { dst := Option.some 31, op := Go.Op.binOp Go.BinOp.eql 44 (Go.Operand.tmp 28) (Go.Operand.tmp 30) 44, type := 4, pos := "law.go:97", after := #[{ on := 7, ground := Go.Ground.data }, { on := 9, ground := Go.Ground.data }, { on := 5, ground := Go.Ground.guard }], guard := Option.some (5, Bool.true) }) (v := ?_) rfl (by kernel_rfl) (by kernel_rfl) (by kernel_rfl) (fun _ _ _ h => h) (Or.inl ⟨by rfl, fun w' hSw => ?_⟩) hSQ3 ?_; rotate_left; focus (have hh := HH.out; go_simp; try with_reducible rfl))
            simp only [Act.put, List.setIfInBounds_toArray, List.set_cons_zero, List.set_cons_succ]
            refine wpAnyH_ready (rs := [12]) (by kernel_rfl) (by simp) ?_
            refine AllReadyH.cons rfl (fun K hK => ?_) AllReadyH.nil
            go_simp
            go_wp2_with (go_at_call 53; refine (refTId_any wz3 a (HAJ.out.below hSQ3) FA.out.small).mono ?_; rintro e wz4 ⟨rfl, bwz4⟩; rw [EI.out.1])
            refine hK.out _ _ (Below.then_ hSQ3 bwz4) (fun hSQ4 => ?_)
            clear hK K
            as_aux_lemma =>
              refine wpAnyH_ready (rs := [14]) (by kernel_rfl) (by simp) ?_
              refine AllReadyH.cons rfl (fun K hK => ?_) AllReadyH.nil
              go_simp
              go_wp2_with (go_at_call 53; refine (refTId_any wz4 b (HBJ.out.below hSQ4) FB.out.small).mono ?_; rintro e wz5 ⟨rfl, bwz5⟩; rw [EI.out.2])
              refine hK.out _ _ (Below.then_ hSQ4 bwz5) (fun hSQ5 => ?_)
              clear hK K
              (refine wpAnyH_take (i := 15) (oi := { dst := Option.some 36, op := Go.Op.binOp Go.BinOp.eql 44 (Go.Operand.tmp 33) (Go.Operand.tmp 35) 44, type := 4, pos := "law.go:97", after := #[{ on := 12, ground := Go.Ground.data }, { on := 14, ground := Go.Ground.data }, { on := 5, ground := Go.Ground.guard }], guard := Option.some (5, Bool.true) }) (v := ?_) rfl (by kernel_rfl) (by kernel_rfl) (by kernel_rfl) (fun _ _ _ h => h) (Or.inl ⟨by rfl, fun w' hSw => ?_⟩) hSQ5 ?_; rotate_left; focus (have hh := HH.out; go_simp; try with_reducible rfl))
              simp only [Act.put, List.setIfInBounds_toArray, List.set_cons_zero, List.set_cons_succ]
              (refine wpAnyH_take (i := 16) (oi := { dst := Option.some 37, op := Go.Op.binOp Go.BinOp.eql 4 (Go.Operand.tmp 31) (Go.Operand.tmp 36) 4, type := 4, pos := "law.go:97", after := #[{ on := 10, ground := Go.Ground.data }, { on := 15, ground := Go.Ground.data }, { on := 5, ground := Go.Ground.guard }], guard := Option.some (5, Bool.true) }) (v := ?_) rfl (by kernel_rfl) (by kernel_rfl) (by kernel_rfl) (fun _ _ _ h => h) (Or.inl ⟨by rfl, fun w' hSw => ?_⟩) hSQ5 ?_; rotate_left; focus (go_simp; try with_reducible rfl))
              simp only [Act.put, List.setIfInBounds_toArray, List.set_cons_zero, List.set_cons_succ]
              (refine wpAnyH_take (i := 17) (oi := { dst := Option.some 38, op := Go.Op.pick (Go.Operand.tmp 26) (Go.Operand.tmp 37) (Go.Operand.const (Go.Value.bool Bool.false)), type := 4, pos := "law.go:97", after := #[{ on := 5, ground := Go.Ground.data }, { on := 16, ground := Go.Ground.data }], guard := Option.none }) (v := ?_) rfl (by kernel_rfl) (by kernel_rfl) (by kernel_rfl) (fun _ _ _ h => h) (Or.inl ⟨by rfl, fun w' hSw => ?_⟩) hSQ5 ?_; rotate_left; focus (go_simp; try with_reducible rfl))
              simp only [Act.put, List.setIfInBounds_toArray, List.set_cons_zero, List.set_cons_succ]
              (refine wpAnyH_take (i := 18) (oi := { dst := Option.some 4, op := Go.Op.assign (Go.Operand.tmp 38), type := 4, pos := "law.go:97", after := #[{ on := 17, ground := Go.Ground.data }, { on := 14, ground := Go.Ground.chain }, { on := 0, ground := Go.Ground.phase }, { on := 1, ground := Go.Ground.phase }, { on := 2, ground := Go.Ground.phase }, { on := 3, ground := Go.Ground.phase }, { on := 4, ground := Go.Ground.phase }, { on := 5, ground := Go.Ground.phase }, { on := 6, ground := Go.Ground.phase }, { on := 7, ground := Go.Ground.phase }, { on := 8, ground := Go.Ground.phase }, { on := 9, ground := Go.Ground.phase }, { on := 10, ground := Go.Ground.phase }, { on := 11, ground := Go.Ground.phase }, { on := 12, ground := Go.Ground.phase }, { on := 13, ground := Go.Ground.phase }, { on := 14, ground := Go.Ground.phase }, { on := 15, ground := Go.Ground.phase }, { on := 16, ground := Go.Ground.phase }, { on := 17, ground := Go.Ground.phase }], guard := Option.none }) (v := ?_) rfl (by kernel_rfl) (by kernel_rfl) (by kernel_rfl) (fun _ _ _ h => h) (Or.inl ⟨by rfl, fun w' hSw => ?_⟩) hSQ5 ?_; rotate_left; focus (go_simp; try with_reducible rfl))
              simp only [Act.put, List.setIfInBounds_toArray, List.set_cons_zero, List.set_cons_succ]
              refine wpAnyH_done (by kernel_rfl) ?_ _
              have hfin := hide (Below.then_ (Below.then_ HW.out (Below.then_ HB4w.out HJ.out)) hSQ5)
              go_wp2_with fail
              go_ret
              exact ⟨by simp, hfin.out⟩
      · go_simp
        refine (refTBytes_any _ b (HB4.out.below HS6.out) FB.out.small).mono ?_
        rintro e w7 ⟨A7, n7, c7, rfl, t7, f7⟩
        go_simp
        have HS7 := hide (Below.then_ HS6.out t7.below)
        have Y7 := hide t7.bys
        have Y67 := hide (Y6.out.below t7.below)
        clear t7 f7
        refine hK.out _ _ (HS7.out) (fun _ => ?_)
        clear hK K
        refine wpAnyH_ready (rs := [2, 5]) (by kernel_rfl) (by simp) ?_
        refine AllReadyH.cons rfl (fun K hK => ?_) (AllReadyH.cons rfl (fun K hK => ?_) AllReadyH.nil)
        · have s6 := hsa.out w7 A6 n6 c6 _ Y67.out rfl
          go_simp
          refine hK.out _ _ (HS7.out) (fun _ => ?_)
          clear hK K s6
          refine wpAnyH_ready (rs := [5]) (by kernel_rfl) (by simp) ?_
          refine AllReadyH.cons rfl (fun K hK => ?_) AllReadyH.nil
          have s7 := hsb.out w7 A7 n7 c7 _ Y7.out rfl
          go_simp
          refine hK.out _ _ (HS7.out) (fun _ => ?_)
          clear hK K s7
          refine wpAnyH_take (i := 6) (oi := { dst := Option.some 20, op := Go.Op.binOp Go.BinOp.eql 9 (Go.Operand.tmp 16) (Go.Operand.tmp 19) 9, type := 4, pos := "law.go:96", after := #[{ on := 2, ground := Go.Ground.data }, { on := 5, ground := Go.Ground.data }], guard := Option.none }) (v := ?_) rfl (by kernel_rfl) (by kernel_rfl) (by kernel_rfl) (fun _ _ _ h => h) (Or.inl ⟨by rfl, fun w' hSw => ?_⟩) HS7.out ?_; rotate_left; focus (go_simp; try with_reducible rfl)
          simp only [Act.put, List.setIfInBounds_toArray, List.set_cons_zero, List.set_cons_succ]
          refine wpAnyH_take (i := 7) (oi := { dst := Option.some 5, op := Go.Op.assign (Go.Operand.tmp 20), type := 4, pos := "law.go:96", after := #[{ on := 6, ground := Go.Ground.data }, { on := 4, ground := Go.Ground.chain }, { on := 0, ground := Go.Ground.phase }, { on := 1, ground := Go.Ground.phase }, { on := 2, ground := Go.Ground.phase }, { on := 3, ground := Go.Ground.phase }, { on := 4, ground := Go.Ground.phase }, { on := 5, ground := Go.Ground.phase }, { on := 6, ground := Go.Ground.phase }], guard := Option.none }) (v := ?_) rfl (by kernel_rfl) (by kernel_rfl) (by kernel_rfl) (fun _ _ _ h => h) (Or.inl ⟨by rfl, fun w' hSw => ?_⟩) HS7.out ?_; rotate_left; focus (go_simp; try with_reducible rfl)
          simp only [Act.put, List.setIfInBounds_toArray, List.set_cons_zero, List.set_cons_succ]
          refine wpAnyH_done (by kernel_rfl) ?_ _
          have HJ := HS7
          rw [E0.out]
          have HAJ := hide (HA4.out.below HJ.out)
          have HBJ := hide (HB4.out.below HJ.out)
          have TAJ := hide (range_under TA.out HJ.out)
          have TBJ := hide (range_under TB.out HJ.out)
          as_aux_lemma =>
            go_wp2_with fail
            refine wp_region_held_drew (S := fun w' => Below w7.heap.size w7 w') (by kernel_rfl) (by exact (Below.refl _ _).drew) (fun hSQ0 => ?_)
            obtain ⟨w7d, hwQ⟩ : ∃ x, x = w7.drew := ⟨_, rfl⟩
            rw [← hwQ] at hSQ0 ⊢
            clear hwQ
            (refine wpAnyH_take (i := 0) (oi := { dst := Option.some 21, op := Go.Op.load 65 (Go.Operand.tmp 2), type := 65, pos := "law.go:97", after := #[], guard := Option.none }) (v := ?_) rfl (by kernel_rfl) (by kernel_rfl) (by kernel_rfl) (fun _ _ _ h => h) (Or.inl ⟨by rfl, fun w' hSw => ?_⟩) hSQ0 ?_; rotate_left; focus (have hl := loadTx_run w' p0 0 a (range_under TAJ.out hSw); go_simp; try with_reducible rfl))
            simp only [Act.put, List.setIfInBounds_toArray, List.set_cons_zero, List.set_cons_succ]
            (refine wpAnyH_take (i := 1) (oi := { dst := Option.some 22, op := Go.Op.load 65 (Go.Operand.tmp 3), type := 65, pos := "law.go:97", after := #[], guard := Option.none }) (v := ?_) rfl (by kernel_rfl) (by kernel_rfl) (by kernel_rfl) (fun _ _ _ h => h) (Or.inl ⟨by rfl, fun w' hSw => ?_⟩) hSQ0 ?_; rotate_left; focus (have hl := loadTx_run w' p1 0 b (range_under TBJ.out hSw); go_simp; try with_reducible rfl))
            simp only [Act.put, List.setIfInBounds_toArray, List.set_cons_zero, List.set_cons_succ]
            (refine wpAnyH_take (i := 3) (oi := { dst := Option.some 24, op := Go.Op.move (Go.Operand.tmp 5), type := 4, pos := "law.go:97", after := #[], guard := Option.none }) (v := ?_) rfl (by kernel_rfl) (by kernel_rfl) (by kernel_rfl) (fun _ _ _ h => h) (Or.inl ⟨by rfl, fun w' hSw => ?_⟩) hSQ0 ?_; rotate_left; focus (go_simp; try with_reducible rfl))
            simp only [Act.put, List.setIfInBounds_toArray, List.set_cons_zero, List.set_cons_succ]
            refine wpAnyH_ready (rs := [2]) (by kernel_rfl) (by simp) ?_
            refine AllReadyH.cons rfl (fun K hK => ?_) AllReadyH.nil
            go_simp
            go_wp2_with (go_at_call 51; refine (TSame_any w7d a b (HAJ.out.below hSQ0) (HBJ.out.below hSQ0) FA.out.small FB.out.small).mono ?_; rintro e wz1 ⟨rfl, bwz1⟩; rw [HSS.out])
            refine hK.out _ _ (Below.then_ hSQ0 bwz1) (fun hSQ1 => ?_)
            clear hK K
            (refine wpAnyH_take (i := 4) (oi := { dst := Option.some 25, op := Go.Op.binOp Go.BinOp.eql 4 (Go.Operand.tmp 23) (Go.Operand.tmp 24) 4, type := 4, pos := "law.go:97", after := #[{ on := 2, ground := Go.Ground.data }, { on := 3, ground := Go.Ground.data }], guard := Option.none }) (v := ?_) rfl (by kernel_rfl) (by kernel_rfl) (by kernel_rfl) (fun _ _ _ h => h) (Or.inl ⟨by rfl, fun w' hSw => ?_⟩) hSQ1 ?_; rotate_left; focus (go_simp; try with_reducible rfl))
            simp only [Act.put, List.setIfInBounds_toArray, List.set_cons_zero, List.set_cons_succ]
            (refine wpAnyH_take (i := 5) (oi := { dst := Option.some 26, op := Go.Op.move (Go.Operand.tmp 25), type := 4, pos := "law.go:97", after := #[{ on := 4, ground := Go.Ground.data }, { on := 2, ground := Go.Ground.chain }], guard := Option.none }) (v := ?_) rfl (by kernel_rfl) (by kernel_rfl) (by kernel_rfl) (fun _ _ _ h => h) (Or.inl ⟨by rfl, fun w' hSw => ?_⟩) hSQ1 ?_; rotate_left; focus (go_simp; try with_reducible rfl))
            simp only [Act.put, List.setIfInBounds_toArray, List.set_cons_zero, List.set_cons_succ]
            (refine wpAnyH_take (i := 6) (oi := { dst := Option.some 27, op := Go.Op.load 65 (Go.Operand.tmp 2), type := 65, pos := "law.go:97", after := #[{ on := 5, ground := Go.Ground.guard }], guard := Option.some (5, Bool.true) }) (v := ?_) rfl (by kernel_rfl) (by kernel_rfl) (by kernel_rfl) (fun _ _ _ h => h) (Or.inl ⟨by rfl, fun w' hSw => ?_⟩) hSQ1 ?_; rotate_left; focus (have hl := loadTx_run w' p0 0 a (range_under TAJ.out hSw); go_simp; try with_reducible rfl))
            simp only [Act.put, List.setIfInBounds_toArray, List.set_cons_zero, List.set_cons_succ]
            as_aux_lemma =>
              (refine wpAnyH_take (i := 8) (oi := { dst := Option.some 29, op := Go.Op.load 65 (Go.Operand.tmp 3), type := 65, pos := "law.go:97", after := #[{ on := 5, ground := Go.Ground.guard }], guard := Option.some (5, Bool.true) }) (v := ?_) rfl (by kernel_rfl) (by kernel_rfl) (by kernel_rfl) (fun _ _ _ h => h) (Or.inl ⟨by rfl, fun w' hSw => ?_⟩) hSQ1 ?_; rotate_left; focus (have hl := loadTx_run w' p1 0 b (range_under TBJ.out hSw); go_simp; try with_reducible rfl))
              simp only [Act.put, List.setIfInBounds_toArray, List.set_cons_zero, List.set_cons_succ]
              (refine wpAnyH_take (i := 11) (oi := { dst := Option.some 32, op := Go.Op.load 65 (Go.Operand.tmp 2), type := 65, pos := "law.go:97", after := #[{ on := 5, ground := Go.Ground.guard }], guard := Option.some (5, Bool.true) }) (v := ?_) rfl (by kernel_rfl) (by kernel_rfl) (by kernel_rfl) (fun _ _ _ h => h) (Or.inl ⟨by rfl, fun w' hSw => ?_⟩) hSQ1 ?_; rotate_left; focus (have hl := loadTx_run w' p0 0 a (range_under TAJ.out hSw); go_simp; try with_reducible rfl))
              simp only [Act.put, List.setIfInBounds_toArray, List.set_cons_zero, List.set_cons_succ]
              (refine wpAnyH_take (i := 13) (oi := { dst := Option.some 34, op := Go.Op.load 65 (Go.Operand.tmp 3), type := 65, pos := "law.go:97", after := #[{ on := 5, ground := Go.Ground.guard }], guard := Option.some (5, Bool.true) }) (v := ?_) rfl (by kernel_rfl) (by kernel_rfl) (by kernel_rfl) (fun _ _ _ h => h) (Or.inl ⟨by rfl, fun w' hSw => ?_⟩) hSQ1 ?_; rotate_left; focus (have hl := loadTx_run w' p1 0 b (range_under TBJ.out hSw); go_simp; try with_reducible rfl))
              simp only [Act.put, List.setIfInBounds_toArray, List.set_cons_zero, List.set_cons_succ]
              refine wpAnyH_ready (rs := [7]) (by kernel_rfl) (by simp) ?_
              refine AllReadyH.cons rfl (fun K hK => ?_) AllReadyH.nil
              go_simp
              go_wp2_with (go_at_call 52; refine (TId_any wz1 a (HAJ.out.below hSQ1) FA.out.small).mono ?_; rintro e wz2 ⟨rfl, bwz2⟩; rw [EI.out.1])
              refine hK.out _ _ (Below.then_ hSQ1 bwz2) (fun hSQ2 => ?_)
              clear hK K
              refine wpAnyH_ready (rs := [9]) (by kernel_rfl) (by simp) ?_
              refine AllReadyH.cons rfl (fun K hK => ?_) AllReadyH.nil
              go_simp
              go_wp2_with (go_at_call 52; refine (TId_any wz2 b (HBJ.out.below hSQ2) FB.out.small).mono ?_; rintro e wz3 ⟨rfl, bwz3⟩; rw [EI.out.2])
              refine hK.out _ _ (Below.then_ hSQ2 bwz3) (fun hSQ3 => ?_)
              clear hK K
              (refine wpAnyH_take (i := 10) (oi := { dst := Option.some 31, op := Go.Op.binOp Go.BinOp.eql 44 (Go.Operand.tmp 28) (Go.Operand.tmp 30) 44, type := 4, pos := "law.go:97", after := #[{ on := 7, ground := Go.Ground.data }, { on := 9, ground := Go.Ground.data }, { on := 5, ground := Go.Ground.guard }], guard := Option.some (5, Bool.true) }) (v := ?_) rfl (by kernel_rfl) (by kernel_rfl) (by kernel_rfl) (fun _ _ _ h => h) (Or.inl ⟨by rfl, fun w' hSw => ?_⟩) hSQ3 ?_; rotate_left; focus (have hh := HH.out; go_simp; try with_reducible rfl))
              simp only [Act.put, List.setIfInBounds_toArray, List.set_cons_zero, List.set_cons_succ]
              refine wpAnyH_ready (rs := [12]) (by kernel_rfl) (by simp) ?_
              refine AllReadyH.cons rfl (fun K hK => ?_) AllReadyH.nil
              go_simp
              go_wp2_with (go_at_call 53; refine (refTId_any wz3 a (HAJ.out.below hSQ3) FA.out.small).mono ?_; rintro e wz4 ⟨rfl, bwz4⟩; rw [EI.out.1])
              refine hK.out _ _ (Below.then_ hSQ3 bwz4) (fun hSQ4 => ?_)
              clear hK K
              as_aux_lemma =>
                refine wpAnyH_ready (rs := [14]) (by kernel_rfl) (by simp) ?_
                refine AllReadyH.cons rfl (fun K hK => ?_) AllReadyH.nil
                go_simp
                go_wp2_with (go_at_call 53; refine (refTId_any wz4 b (HBJ.out.below hSQ4) FB.out.small).mono ?_; rintro e wz5 ⟨rfl, bwz5⟩; rw [EI.out.2])
                refine hK.out _ _ (Below.then_ hSQ4 bwz5) (fun hSQ5 => ?_)
                clear hK K
                (refine wpAnyH_take (i := 15) (oi := { dst := Option.some 36, op := Go.Op.binOp Go.BinOp.eql 44 (Go.Operand.tmp 33) (Go.Operand.tmp 35) 44, type := 4, pos := "law.go:97", after := #[{ on := 12, ground := Go.Ground.data }, { on := 14, ground := Go.Ground.data }, { on := 5, ground := Go.Ground.guard }], guard := Option.some (5, Bool.true) }) (v := ?_) rfl (by kernel_rfl) (by kernel_rfl) (by kernel_rfl) (fun _ _ _ h => h) (Or.inl ⟨by rfl, fun w' hSw => ?_⟩) hSQ5 ?_; rotate_left; focus (have hh := HH.out; go_simp; try with_reducible rfl))
                simp only [Act.put, List.setIfInBounds_toArray, List.set_cons_zero, List.set_cons_succ]
                (refine wpAnyH_take (i := 16) (oi := { dst := Option.some 37, op := Go.Op.binOp Go.BinOp.eql 4 (Go.Operand.tmp 31) (Go.Operand.tmp 36) 4, type := 4, pos := "law.go:97", after := #[{ on := 10, ground := Go.Ground.data }, { on := 15, ground := Go.Ground.data }, { on := 5, ground := Go.Ground.guard }], guard := Option.some (5, Bool.true) }) (v := ?_) rfl (by kernel_rfl) (by kernel_rfl) (by kernel_rfl) (fun _ _ _ h => h) (Or.inl ⟨by rfl, fun w' hSw => ?_⟩) hSQ5 ?_; rotate_left; focus (go_simp; try with_reducible rfl))
                simp only [Act.put, List.setIfInBounds_toArray, List.set_cons_zero, List.set_cons_succ]
                (refine wpAnyH_take (i := 17) (oi := { dst := Option.some 38, op := Go.Op.pick (Go.Operand.tmp 26) (Go.Operand.tmp 37) (Go.Operand.const (Go.Value.bool Bool.false)), type := 4, pos := "law.go:97", after := #[{ on := 5, ground := Go.Ground.data }, { on := 16, ground := Go.Ground.data }], guard := Option.none }) (v := ?_) rfl (by kernel_rfl) (by kernel_rfl) (by kernel_rfl) (fun _ _ _ h => h) (Or.inl ⟨by rfl, fun w' hSw => ?_⟩) hSQ5 ?_; rotate_left; focus (go_simp; try with_reducible rfl))
                simp only [Act.put, List.setIfInBounds_toArray, List.set_cons_zero, List.set_cons_succ]
                (refine wpAnyH_take (i := 18) (oi := { dst := Option.some 4, op := Go.Op.assign (Go.Operand.tmp 38), type := 4, pos := "law.go:97", after := #[{ on := 17, ground := Go.Ground.data }, { on := 14, ground := Go.Ground.chain }, { on := 0, ground := Go.Ground.phase }, { on := 1, ground := Go.Ground.phase }, { on := 2, ground := Go.Ground.phase }, { on := 3, ground := Go.Ground.phase }, { on := 4, ground := Go.Ground.phase }, { on := 5, ground := Go.Ground.phase }, { on := 6, ground := Go.Ground.phase }, { on := 7, ground := Go.Ground.phase }, { on := 8, ground := Go.Ground.phase }, { on := 9, ground := Go.Ground.phase }, { on := 10, ground := Go.Ground.phase }, { on := 11, ground := Go.Ground.phase }, { on := 12, ground := Go.Ground.phase }, { on := 13, ground := Go.Ground.phase }, { on := 14, ground := Go.Ground.phase }, { on := 15, ground := Go.Ground.phase }, { on := 16, ground := Go.Ground.phase }, { on := 17, ground := Go.Ground.phase }], guard := Option.none }) (v := ?_) rfl (by kernel_rfl) (by kernel_rfl) (by kernel_rfl) (fun _ _ _ h => h) (Or.inl ⟨by rfl, fun w' hSw => ?_⟩) hSQ5 ?_; rotate_left; focus (go_simp; try with_reducible rfl))
                simp only [Act.put, List.setIfInBounds_toArray, List.set_cons_zero, List.set_cons_succ]
                refine wpAnyH_done (by kernel_rfl) ?_ _
                have hfin := hide (Below.then_ (Below.then_ HW.out (Below.then_ HB4w.out HJ.out)) hSQ5)
                go_wp2_with fail
                go_ret
                exact ⟨by simp, hfin.out⟩
        · have s7 := hsb.out w7 A7 n7 c7 _ Y7.out rfl
          go_simp
          refine hK.out _ _ (HS7.out) (fun _ => ?_)
          clear hK K s7
          refine wpAnyH_ready (rs := [2]) (by kernel_rfl) (by simp) ?_
          refine AllReadyH.cons rfl (fun K hK => ?_) AllReadyH.nil
          have s6 := hsa.out w7 A6 n6 c6 _ Y67.out rfl
          go_simp
          refine hK.out _ _ (HS7.out) (fun _ => ?_)
          clear hK K s6
          refine wpAnyH_take (i := 6) (oi := { dst := Option.some 20, op := Go.Op.binOp Go.BinOp.eql 9 (Go.Operand.tmp 16) (Go.Operand.tmp 19) 9, type := 4, pos := "law.go:96", after := #[{ on := 2, ground := Go.Ground.data }, { on := 5, ground := Go.Ground.data }], guard := Option.none }) (v := ?_) rfl (by kernel_rfl) (by kernel_rfl) (by kernel_rfl) (fun _ _ _ h => h) (Or.inl ⟨by rfl, fun w' hSw => ?_⟩) HS7.out ?_; rotate_left; focus (go_simp; try with_reducible rfl)
          simp only [Act.put, List.setIfInBounds_toArray, List.set_cons_zero, List.set_cons_succ]
          refine wpAnyH_take (i := 7) (oi := { dst := Option.some 5, op := Go.Op.assign (Go.Operand.tmp 20), type := 4, pos := "law.go:96", after := #[{ on := 6, ground := Go.Ground.data }, { on := 4, ground := Go.Ground.chain }, { on := 0, ground := Go.Ground.phase }, { on := 1, ground := Go.Ground.phase }, { on := 2, ground := Go.Ground.phase }, { on := 3, ground := Go.Ground.phase }, { on := 4, ground := Go.Ground.phase }, { on := 5, ground := Go.Ground.phase }, { on := 6, ground := Go.Ground.phase }], guard := Option.none }) (v := ?_) rfl (by kernel_rfl) (by kernel_rfl) (by kernel_rfl) (fun _ _ _ h => h) (Or.inl ⟨by rfl, fun w' hSw => ?_⟩) HS7.out ?_; rotate_left; focus (go_simp; try with_reducible rfl)
          simp only [Act.put, List.setIfInBounds_toArray, List.set_cons_zero, List.set_cons_succ]
          refine wpAnyH_done (by kernel_rfl) ?_ _
          have HJ := HS7
          rw [E0.out]
          have HAJ := hide (HA4.out.below HJ.out)
          have HBJ := hide (HB4.out.below HJ.out)
          have TAJ := hide (range_under TA.out HJ.out)
          have TBJ := hide (range_under TB.out HJ.out)
          as_aux_lemma =>
            go_wp2_with fail
            refine wp_region_held_drew (S := fun w' => Below w7.heap.size w7 w') (by kernel_rfl) (by exact (Below.refl _ _).drew) (fun hSQ0 => ?_)
            obtain ⟨w7d, hwQ⟩ : ∃ x, x = w7.drew := ⟨_, rfl⟩
            rw [← hwQ] at hSQ0 ⊢
            clear hwQ
            (refine wpAnyH_take (i := 0) (oi := { dst := Option.some 21, op := Go.Op.load 65 (Go.Operand.tmp 2), type := 65, pos := "law.go:97", after := #[], guard := Option.none }) (v := ?_) rfl (by kernel_rfl) (by kernel_rfl) (by kernel_rfl) (fun _ _ _ h => h) (Or.inl ⟨by rfl, fun w' hSw => ?_⟩) hSQ0 ?_; rotate_left; focus (have hl := loadTx_run w' p0 0 a (range_under TAJ.out hSw); go_simp; try with_reducible rfl))
            simp only [Act.put, List.setIfInBounds_toArray, List.set_cons_zero, List.set_cons_succ]
            (refine wpAnyH_take (i := 1) (oi := { dst := Option.some 22, op := Go.Op.load 65 (Go.Operand.tmp 3), type := 65, pos := "law.go:97", after := #[], guard := Option.none }) (v := ?_) rfl (by kernel_rfl) (by kernel_rfl) (by kernel_rfl) (fun _ _ _ h => h) (Or.inl ⟨by rfl, fun w' hSw => ?_⟩) hSQ0 ?_; rotate_left; focus (have hl := loadTx_run w' p1 0 b (range_under TBJ.out hSw); go_simp; try with_reducible rfl))
            simp only [Act.put, List.setIfInBounds_toArray, List.set_cons_zero, List.set_cons_succ]
            (refine wpAnyH_take (i := 3) (oi := { dst := Option.some 24, op := Go.Op.move (Go.Operand.tmp 5), type := 4, pos := "law.go:97", after := #[], guard := Option.none }) (v := ?_) rfl (by kernel_rfl) (by kernel_rfl) (by kernel_rfl) (fun _ _ _ h => h) (Or.inl ⟨by rfl, fun w' hSw => ?_⟩) hSQ0 ?_; rotate_left; focus (go_simp; try with_reducible rfl))
            simp only [Act.put, List.setIfInBounds_toArray, List.set_cons_zero, List.set_cons_succ]
            refine wpAnyH_ready (rs := [2]) (by kernel_rfl) (by simp) ?_
            refine AllReadyH.cons rfl (fun K hK => ?_) AllReadyH.nil
            go_simp
            go_wp2_with (go_at_call 51; refine (TSame_any w7d a b (HAJ.out.below hSQ0) (HBJ.out.below hSQ0) FA.out.small FB.out.small).mono ?_; rintro e wz1 ⟨rfl, bwz1⟩; rw [HSS.out])
            refine hK.out _ _ (Below.then_ hSQ0 bwz1) (fun hSQ1 => ?_)
            clear hK K
            (refine wpAnyH_take (i := 4) (oi := { dst := Option.some 25, op := Go.Op.binOp Go.BinOp.eql 4 (Go.Operand.tmp 23) (Go.Operand.tmp 24) 4, type := 4, pos := "law.go:97", after := #[{ on := 2, ground := Go.Ground.data }, { on := 3, ground := Go.Ground.data }], guard := Option.none }) (v := ?_) rfl (by kernel_rfl) (by kernel_rfl) (by kernel_rfl) (fun _ _ _ h => h) (Or.inl ⟨by rfl, fun w' hSw => ?_⟩) hSQ1 ?_; rotate_left; focus (go_simp; try with_reducible rfl))
            simp only [Act.put, List.setIfInBounds_toArray, List.set_cons_zero, List.set_cons_succ]
            (refine wpAnyH_take (i := 5) (oi := { dst := Option.some 26, op := Go.Op.move (Go.Operand.tmp 25), type := 4, pos := "law.go:97", after := #[{ on := 4, ground := Go.Ground.data }, { on := 2, ground := Go.Ground.chain }], guard := Option.none }) (v := ?_) rfl (by kernel_rfl) (by kernel_rfl) (by kernel_rfl) (fun _ _ _ h => h) (Or.inl ⟨by rfl, fun w' hSw => ?_⟩) hSQ1 ?_; rotate_left; focus (go_simp; try with_reducible rfl))
            simp only [Act.put, List.setIfInBounds_toArray, List.set_cons_zero, List.set_cons_succ]
            (refine wpAnyH_take (i := 6) (oi := { dst := Option.some 27, op := Go.Op.load 65 (Go.Operand.tmp 2), type := 65, pos := "law.go:97", after := #[{ on := 5, ground := Go.Ground.guard }], guard := Option.some (5, Bool.true) }) (v := ?_) rfl (by kernel_rfl) (by kernel_rfl) (by kernel_rfl) (fun _ _ _ h => h) (Or.inl ⟨by rfl, fun w' hSw => ?_⟩) hSQ1 ?_; rotate_left; focus (have hl := loadTx_run w' p0 0 a (range_under TAJ.out hSw); go_simp; try with_reducible rfl))
            simp only [Act.put, List.setIfInBounds_toArray, List.set_cons_zero, List.set_cons_succ]
            as_aux_lemma =>
              (refine wpAnyH_take (i := 8) (oi := { dst := Option.some 29, op := Go.Op.load 65 (Go.Operand.tmp 3), type := 65, pos := "law.go:97", after := #[{ on := 5, ground := Go.Ground.guard }], guard := Option.some (5, Bool.true) }) (v := ?_) rfl (by kernel_rfl) (by kernel_rfl) (by kernel_rfl) (fun _ _ _ h => h) (Or.inl ⟨by rfl, fun w' hSw => ?_⟩) hSQ1 ?_; rotate_left; focus (have hl := loadTx_run w' p1 0 b (range_under TBJ.out hSw); go_simp; try with_reducible rfl))
              simp only [Act.put, List.setIfInBounds_toArray, List.set_cons_zero, List.set_cons_succ]
              (refine wpAnyH_take (i := 11) (oi := { dst := Option.some 32, op := Go.Op.load 65 (Go.Operand.tmp 2), type := 65, pos := "law.go:97", after := #[{ on := 5, ground := Go.Ground.guard }], guard := Option.some (5, Bool.true) }) (v := ?_) rfl (by kernel_rfl) (by kernel_rfl) (by kernel_rfl) (fun _ _ _ h => h) (Or.inl ⟨by rfl, fun w' hSw => ?_⟩) hSQ1 ?_; rotate_left; focus (have hl := loadTx_run w' p0 0 a (range_under TAJ.out hSw); go_simp; try with_reducible rfl))
              simp only [Act.put, List.setIfInBounds_toArray, List.set_cons_zero, List.set_cons_succ]
              (refine wpAnyH_take (i := 13) (oi := { dst := Option.some 34, op := Go.Op.load 65 (Go.Operand.tmp 3), type := 65, pos := "law.go:97", after := #[{ on := 5, ground := Go.Ground.guard }], guard := Option.some (5, Bool.true) }) (v := ?_) rfl (by kernel_rfl) (by kernel_rfl) (by kernel_rfl) (fun _ _ _ h => h) (Or.inl ⟨by rfl, fun w' hSw => ?_⟩) hSQ1 ?_; rotate_left; focus (have hl := loadTx_run w' p1 0 b (range_under TBJ.out hSw); go_simp; try with_reducible rfl))
              simp only [Act.put, List.setIfInBounds_toArray, List.set_cons_zero, List.set_cons_succ]
              refine wpAnyH_ready (rs := [7]) (by kernel_rfl) (by simp) ?_
              refine AllReadyH.cons rfl (fun K hK => ?_) AllReadyH.nil
              go_simp
              go_wp2_with (go_at_call 52; refine (TId_any wz1 a (HAJ.out.below hSQ1) FA.out.small).mono ?_; rintro e wz2 ⟨rfl, bwz2⟩; rw [EI.out.1])
              refine hK.out _ _ (Below.then_ hSQ1 bwz2) (fun hSQ2 => ?_)
              clear hK K
              refine wpAnyH_ready (rs := [9]) (by kernel_rfl) (by simp) ?_
              refine AllReadyH.cons rfl (fun K hK => ?_) AllReadyH.nil
              go_simp
              go_wp2_with (go_at_call 52; refine (TId_any wz2 b (HBJ.out.below hSQ2) FB.out.small).mono ?_; rintro e wz3 ⟨rfl, bwz3⟩; rw [EI.out.2])
              refine hK.out _ _ (Below.then_ hSQ2 bwz3) (fun hSQ3 => ?_)
              clear hK K
              (refine wpAnyH_take (i := 10) (oi := { dst := Option.some 31, op := Go.Op.binOp Go.BinOp.eql 44 (Go.Operand.tmp 28) (Go.Operand.tmp 30) 44, type := 4, pos := "law.go:97", after := #[{ on := 7, ground := Go.Ground.data }, { on := 9, ground := Go.Ground.data }, { on := 5, ground := Go.Ground.guard }], guard := Option.some (5, Bool.true) }) (v := ?_) rfl (by kernel_rfl) (by kernel_rfl) (by kernel_rfl) (fun _ _ _ h => h) (Or.inl ⟨by rfl, fun w' hSw => ?_⟩) hSQ3 ?_; rotate_left; focus (have hh := HH.out; go_simp; try with_reducible rfl))
              simp only [Act.put, List.setIfInBounds_toArray, List.set_cons_zero, List.set_cons_succ]
              refine wpAnyH_ready (rs := [12]) (by kernel_rfl) (by simp) ?_
              refine AllReadyH.cons rfl (fun K hK => ?_) AllReadyH.nil
              go_simp
              go_wp2_with (go_at_call 53; refine (refTId_any wz3 a (HAJ.out.below hSQ3) FA.out.small).mono ?_; rintro e wz4 ⟨rfl, bwz4⟩; rw [EI.out.1])
              refine hK.out _ _ (Below.then_ hSQ3 bwz4) (fun hSQ4 => ?_)
              clear hK K
              as_aux_lemma =>
                refine wpAnyH_ready (rs := [14]) (by kernel_rfl) (by simp) ?_
                refine AllReadyH.cons rfl (fun K hK => ?_) AllReadyH.nil
                go_simp
                go_wp2_with (go_at_call 53; refine (refTId_any wz4 b (HBJ.out.below hSQ4) FB.out.small).mono ?_; rintro e wz5 ⟨rfl, bwz5⟩; rw [EI.out.2])
                refine hK.out _ _ (Below.then_ hSQ4 bwz5) (fun hSQ5 => ?_)
                clear hK K
                (refine wpAnyH_take (i := 15) (oi := { dst := Option.some 36, op := Go.Op.binOp Go.BinOp.eql 44 (Go.Operand.tmp 33) (Go.Operand.tmp 35) 44, type := 4, pos := "law.go:97", after := #[{ on := 12, ground := Go.Ground.data }, { on := 14, ground := Go.Ground.data }, { on := 5, ground := Go.Ground.guard }], guard := Option.some (5, Bool.true) }) (v := ?_) rfl (by kernel_rfl) (by kernel_rfl) (by kernel_rfl) (fun _ _ _ h => h) (Or.inl ⟨by rfl, fun w' hSw => ?_⟩) hSQ5 ?_; rotate_left; focus (have hh := HH.out; go_simp; try with_reducible rfl))
                simp only [Act.put, List.setIfInBounds_toArray, List.set_cons_zero, List.set_cons_succ]
                (refine wpAnyH_take (i := 16) (oi := { dst := Option.some 37, op := Go.Op.binOp Go.BinOp.eql 4 (Go.Operand.tmp 31) (Go.Operand.tmp 36) 4, type := 4, pos := "law.go:97", after := #[{ on := 10, ground := Go.Ground.data }, { on := 15, ground := Go.Ground.data }, { on := 5, ground := Go.Ground.guard }], guard := Option.some (5, Bool.true) }) (v := ?_) rfl (by kernel_rfl) (by kernel_rfl) (by kernel_rfl) (fun _ _ _ h => h) (Or.inl ⟨by rfl, fun w' hSw => ?_⟩) hSQ5 ?_; rotate_left; focus (go_simp; try with_reducible rfl))
                simp only [Act.put, List.setIfInBounds_toArray, List.set_cons_zero, List.set_cons_succ]
                (refine wpAnyH_take (i := 17) (oi := { dst := Option.some 38, op := Go.Op.pick (Go.Operand.tmp 26) (Go.Operand.tmp 37) (Go.Operand.const (Go.Value.bool Bool.false)), type := 4, pos := "law.go:97", after := #[{ on := 5, ground := Go.Ground.data }, { on := 16, ground := Go.Ground.data }], guard := Option.none }) (v := ?_) rfl (by kernel_rfl) (by kernel_rfl) (by kernel_rfl) (fun _ _ _ h => h) (Or.inl ⟨by rfl, fun w' hSw => ?_⟩) hSQ5 ?_; rotate_left; focus (go_simp; try with_reducible rfl))
                simp only [Act.put, List.setIfInBounds_toArray, List.set_cons_zero, List.set_cons_succ]
                (refine wpAnyH_take (i := 18) (oi := { dst := Option.some 4, op := Go.Op.assign (Go.Operand.tmp 38), type := 4, pos := "law.go:97", after := #[{ on := 17, ground := Go.Ground.data }, { on := 14, ground := Go.Ground.chain }, { on := 0, ground := Go.Ground.phase }, { on := 1, ground := Go.Ground.phase }, { on := 2, ground := Go.Ground.phase }, { on := 3, ground := Go.Ground.phase }, { on := 4, ground := Go.Ground.phase }, { on := 5, ground := Go.Ground.phase }, { on := 6, ground := Go.Ground.phase }, { on := 7, ground := Go.Ground.phase }, { on := 8, ground := Go.Ground.phase }, { on := 9, ground := Go.Ground.phase }, { on := 10, ground := Go.Ground.phase }, { on := 11, ground := Go.Ground.phase }, { on := 12, ground := Go.Ground.phase }, { on := 13, ground := Go.Ground.phase }, { on := 14, ground := Go.Ground.phase }, { on := 15, ground := Go.Ground.phase }, { on := 16, ground := Go.Ground.phase }, { on := 17, ground := Go.Ground.phase }], guard := Option.none }) (v := ?_) rfl (by kernel_rfl) (by kernel_rfl) (by kernel_rfl) (fun _ _ _ h => h) (Or.inl ⟨by rfl, fun w' hSw => ?_⟩) hSQ5 ?_; rotate_left; focus (go_simp; try with_reducible rfl))
                simp only [Act.put, List.setIfInBounds_toArray, List.set_cons_zero, List.set_cons_succ]
                refine wpAnyH_done (by kernel_rfl) ?_ _
                have hfin := hide (Below.then_ (Below.then_ HW.out (Below.then_ HB4w.out HJ.out)) hSQ5)
                go_wp2_with fail
                go_ret
                exact ⟨by simp, hfin.out⟩
end Go.Proofs.Ytfloclamdpageaa
