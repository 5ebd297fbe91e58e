/-
  The chapter's example; one as bytes, and back.
-/
import Derived.Test.YtfloclamdpageaaTxH
namespace Go.Proofs.Ytfloclamdpageaa
open Go.RowKit

theorem base_check : checkT baseD = 0 := by decide +kernel
theorem base_base {gl gi gk go : Nat} : baseT ((baseV gl gi gk go).ins.map InV.d) = true := by kernel_rfl
theorem base_same : baseD.same baseD = true := by kernel_rfl
theorem base_parse : parseT baseD.bytes = (baseD, 0) := by kernel_rfl
def eqlHash (x y : Value) : Sem Value := binOp .eql 44 x y
def neqHash (x y : Value) : Sem Value := binOp .neq 44 x y
theorem eqlHash_fold (x y : Value) : binOp .eql 44 x y = eqlHash x y := rfl
theorem neqHash_fold (x y : Value) : binOp .neq 44 x y = neqHash x y := rfl
theorem hashEq (w : World) (d : Nat) (a b : List Int) (ha : a.length = 32) (hb : b.length = 32) : (Op.equalIn (d + 2) 44 (.agg (bcs a).toArray) (.agg (bcs b).toArray)).run Try.prog w = .ok (a == b) w :=
  run_equalIn_row (P := Try.prog) w d 44 5 32 .u8 Try.underlying44 Try.underlying5 (fun w => run_size isU8 w) a b ha hb
theorem eqlHash_run (a b : List Int) (ha : a.length = 32) (hb : b.length = 32) (w : World) : (eqlHash (.agg (bcs a).toArray) (.agg (bcs b).toArray)).run Try.prog w = .ok (.bool (a == b)) w := by
  unfold eqlHash
  rw [run_eql_struct, hashEq w 9998 a b ha hb]
  rfl
theorem neqHash_run (a b : List Int) (ha : a.length = 32) (hb : b.length = 32) (w : World) : (neqHash (.agg (bcs a).toArray) (.agg (bcs b).toArray)).run Try.prog w = .ok (.bool (!(a == b))) w := by
  unfold neqHash
  rw [run_neq_struct, hashEq w 9998 a b ha hb]
  rfl
theorem eqlHash_self (a : List Int) (ha : a.length = 32) (w : World) : (eqlHash (.agg (bcs a).toArray) (.agg (bcs a).toArray)).run Try.prog w = .ok (.bool true) w := by
  rw [eqlHash_run a a ha ha]; simp
theorem neqHash_base (w : World) : (neqHash (.agg (bcs (sha2 baseD.bytes)).toArray) (.agg (bcs zero32).toArray)).run Try.prog w = .ok (.bool true) w := by
  rw [neqHash_run _ _ (sha2_len _) rfl, base_sha]
  rfl
def mkHash (parts : Array (Nat × Value)) : Sem Value := Instr.build 44 parts
theorem mkHash_fold (parts : Array (Nat × Value)) : Instr.build 44 parts = mkHash parts := rfl
theorem mkHash_zero (w : World) : (mkHash #[]).run Try.prog w = .ok (.agg (bcs zero32).toArray) w := by kernel_rfl
attribute [local go_sem ↓] loadIn_fold loadRef_fold loadTx_fold eqlHash_fold neqHash_fold mkHash_fold mkTx_fold
theorem guardHash : Try.prog.eqGuardType Try.prog.depth 44 = false := by kernel_rfl
attribute [local go_sem] mkHash_zero mkTx_zero guardHash
theorem baseD_len : baseD.bytes.length = 63 := by decide +kernel
/-- The example's data behind a letter: nobody evaluates it by chance. -/
theorem base_facts : ∃ (D : TxD) (L : List Int), (∀ gl gi gk go, (baseV gl gi gk go).d = D) ∧ parseT D.bytes = (D, 0) ∧ D.same D = true ∧ checkT D = 0 ∧ D.bytes.length = 63 ∧
    (∀ w, (neqHash (.agg (bcs L).toArray) (.agg (bcs zero32).toArray)).run Try.prog w = .ok (.bool true) w) ∧ (∀ w, (eqlHash (.agg (bcs L).toArray) (.agg (bcs L).toArray)).run Try.prog w = .ok (.bool true) w) ∧ sha2 D.bytes = L :=
  ⟨baseD, sha2 baseD.bytes, baseV_d, base_parse, base_same, base_check, baseD_len, neqHash_base, eqlHash_self _ (sha2_len _), rfl⟩
set_option maxHeartbeats 8000000 in
set_option maxRecDepth 100000 in
theorem txAlive_any (w : World) : Calls Try.prog 42 #[] w fun e w' => e = .returned (.bool true) ∧ Below w.heap.size w w' := by
  obtain ⟨D, L, fd, fp, fs, fc, fl, fz, fe, fx⟩ := base_facts
  have FD := hide fd
  have FP := hide fp
  have FS := hide fs
  have FC := hide fc
  have FL := hide fl
  have FZ := hide fz
  have FE := hide fe
  have FX := hide fx
  clear fd fp fs fc fl fz fe fx
  go_enter Try.func42, Try.ntmps42
  go_wp2_with fail
  refine (base_any w).mono ?_
  rintro e w1 ⟨gl, gi, gk, go, rfl, h1⟩
  go_wp2_with fail
  refine (TBytes_any w1 (baseV gl gi gk go) h1.fine (baseV_small _ _ _ _)).mono ?_
  rintro e w2 ⟨A2, n2, c2, rfl, t2, f2⟩
  rw [FD.out] at t2
  have hn2 := hide (show n2 = 63 by rw [← t2.len]; exact FL.out)
  have hb2 := hide (Below.then_ h1.below t2.below)
  go_wp2_with fail
  refine (TParse_any w2 A2 n2 c2 D.bytes t2.bys (by have := hn2.out; omega)).mono ?_
  rintro e w3 ⟨V, rfl, hd0, hf, hs0, hb3⟩
  rw [FP.out] at hd0 ⊢
  have hd := hide hd0
  have hs := hide hs0
  have HB3 := hide (Below.then_ hb2.out hb3)
  have T0 := hide (Blk.new w3 65 zeroV.cells)
  have HF := hide hf
  have hI := isTx
  clear h1 t2 f2 hn2 hb2 hd0 hs0 hf hb3
  go_wp2_with (first
    | (refine wpList_alloc_agg rfl 65 rfl zeroV.cells zeroTx_info ?_; simp only [Act.put, List.setIfInBounds_toArray, List.set_cons_zero, List.set_cons_succ])
    | (refine wpList_store_blk rfl 65 _ _ rfl w3.heap.size 0 65 zeroV.cells V.cells (by rfl) (by rfl) T0.out (Nat.le_refl _) (by exact hI) (TxV.one V) ?_; intro w4 o4 z4 b4; rw [lay_all zeroV.cells V.cells (by rfl)] at b4; have T4 := hide b4; have hb4 : Below w3.heap.size w3 w4 := Below.trans ((Below.refl _ w3).alloc (Nat.le_refl _) _) (o4.below (by simp) (fun i hi e => by have h9 : i = w3.heap.size := e; omega)); have HV := hide (HF.out.below hb4); have HB4 := hide (Below.then_ HB3.out hb4); clear o4 z4 b4 hb4; simp only [Act.put]))
  refine wp_region_held_drew (S := fun w' => Below w4.heap.size w4 w') (by kernel_rfl) (by exact (Below.refl _ _).drew) (fun hSA0 => ?_)
  obtain ⟨w4d, hwA⟩ : ∃ x, x = w4.drew := ⟨_, rfl⟩
  rw [← hwA] at hSA0 ⊢
  have hDA : Below w4.heap.size w4 w4d := by rw [hwA]; exact (Below.refl _ _).drew
  clear hwA
  refine wpAnyH_ready (rs := [0]) (by kernel_rfl) (by simp) ?_
  refine AllReadyH.cons rfl (fun K hK => ?_) AllReadyH.nil
  go_simp
  go_wp2_with (go_at_call 39; refine (base_any w4d).mono ?_; rintro e w5 ⟨l5, i5, k5, o5, rfl, h5⟩)
  refine hK.out _ _ (Below.then_ hSA0 h5.below) (fun hSA1 => ?_)
  clear hK K
  refine wpAnyH_ready (rs := [1]) (by kernel_rfl) (by simp) ?_
  refine AllReadyH.cons rfl (fun K hK => ?_) AllReadyH.nil
  go_simp
  go_wp2_with (go_at_call 43; refine (TCheck_any w5 (baseV l5 i5 k5 o5) h5.fine (baseV_small _ _ _ _)).mono ?_; rintro e w6 ⟨rfl, b6⟩; rw [FD.out, FC.out])
  refine hK.out _ _ (Below.then_ hSA1 b6) (fun hSA2 => ?_)
  clear hK K
  (refine wpAnyH_take (i := 2) (oi := { dst := Option.some 11, op := Go.Op.binOp Go.BinOp.eql 28 (Go.Operand.tmp 10) (Go.Operand.const (Go.Value.int Go.IntKind.i64 0)) 28, type := 4, pos := "law.go:20", after := #[{ on := 1, ground := Go.Ground.data }], guard := Option.none }) (v := ?_) rfl (by kernel_rfl) (by kernel_rfl) (by kernel_rfl) (fun _ _ _ h => h) (Or.inl ⟨by rfl, fun w' hSw => ?_⟩) hSA2 ?_; rotate_left; focus (go_simp; try with_reducible rfl))
  simp only [Act.put, List.setIfInBounds_toArray, List.set_cons_zero, List.set_cons_succ]
  (refine wpAnyH_take (i := 3) (oi := { dst := Option.some 12, op := Go.Op.move (Go.Operand.tmp 11), type := 4, pos := "law.go:20", after := #[{ on := 2, ground := Go.Ground.data }, { on := 1, ground := Go.Ground.chain }], guard := Option.none }) (v := ?_) rfl (by kernel_rfl) (by kernel_rfl) (by kernel_rfl) (fun _ _ _ h => h) (Or.inl ⟨by rfl, fun w' hSw => ?_⟩) hSA2 ?_; rotate_left; focus (go_simp; try with_reducible rfl))
  simp only [Act.put, List.setIfInBounds_toArray, List.set_cons_zero, List.set_cons_succ]
  refine wpAnyH_ready (rs := [4]) (by kernel_rfl) (by simp) ?_
  refine AllReadyH.cons rfl (fun K hK => ?_) AllReadyH.nil
  go_simp
  go_wp2_with (go_at_call 39; refine (base_any w6).mono ?_; rintro e w7 ⟨l7, i7, k7, o7, rfl, h7⟩)
  refine hK.out _ _ (Below.then_ hSA2 h7.below) (fun hSA3 => ?_)
  clear hK K
  refine wpAnyH_ready (rs := [5]) (by kernel_rfl) (by simp) ?_
  refine AllReadyH.cons rfl (fun K hK => ?_) AllReadyH.nil
  go_simp
  go_wp2_with (go_at_call 44; refine (TBase_any w7 (baseV l7 i7 k7 o7) h7.fine (baseV_small _ _ _ _)).mono ?_; rintro e w8 ⟨rfl, b8⟩; rw [base_base])
  refine hK.out _ _ (Below.then_ hSA3 b8) (fun hSA4 => ?_)
  clear hK K
  (refine wpAnyH_take (i := 6) (oi := { dst := Option.some 15, op := Go.Op.pick (Go.Operand.tmp 12) (Go.Operand.tmp 14) (Go.Operand.const (Go.Value.bool Bool.false)), type := 4, pos := "law.go:20", after := #[{ on := 3, ground := Go.Ground.data }, { on := 5, ground := Go.Ground.data }], guard := Option.none }) (v := ?_) rfl (by kernel_rfl) (by kernel_rfl) (by kernel_rfl) (fun _ _ _ h => h) (Or.inl ⟨by rfl, fun w' hSw => ?_⟩) hSA4 ?_; rotate_left; focus (go_simp; try with_reducible rfl))
  simp only [Act.put, List.setIfInBounds_toArray, List.set_cons_zero, List.set_cons_succ]
  (refine wpAnyH_take (i := 7) (oi := { dst := Option.some 16, op := Go.Op.move (Go.Operand.tmp 15), type := 4, pos := "law.go:20", after := #[{ on := 6, ground := Go.Ground.data }, { on := 5, ground := Go.Ground.chain }], guard := Option.none }) (v := ?_) rfl (by kernel_rfl) (by kernel_rfl) (by kernel_rfl) (fun _ _ _ h => h) (Or.inl ⟨by rfl, fun w' hSw => ?_⟩) hSA4 ?_; rotate_left; focus (go_simp; try with_reducible rfl))
  simp only [Act.put, List.setIfInBounds_toArray, List.set_cons_zero, List.set_cons_succ]
  (refine wpAnyH_take (i := 8) (oi := { dst := Option.some 17, op := Go.Op.move (Go.Operand.tmp 2), type := 28, pos := "law.go:20", after := #[{ on := 7, ground := Go.Ground.guard }], guard := Option.some (7, Bool.true) }) (v := ?_) rfl (by kernel_rfl) (by kernel_rfl) (by kernel_rfl) (fun _ _ _ h => h) (Or.inl ⟨by rfl, fun w' hSw => ?_⟩) hSA4 ?_; rotate_left; focus (go_simp; try with_reducible rfl))
  simp only [Act.put, List.setIfInBounds_toArray, List.set_cons_zero, List.set_cons_succ]
  (refine wpAnyH_take (i := 9) (oi := { dst := Option.some 18, op := Go.Op.binOp Go.BinOp.eql 28 (Go.Operand.tmp 17) (Go.Operand.const (Go.Value.int Go.IntKind.i64 0)) 28, type := 4, pos := "law.go:20", after := #[{ on := 8, ground := Go.Ground.data }, { on := 7, ground := Go.Ground.guard }], guard := Option.some (7, Bool.true) }) (v := ?_) rfl (by kernel_rfl) (by kernel_rfl) (by kernel_rfl) (fun _ _ _ h => h) (Or.inl ⟨by rfl, fun w' hSw => ?_⟩) hSA4 ?_; rotate_left; focus (go_simp; try with_reducible rfl))
  simp only [Act.put, List.setIfInBounds_toArray, List.set_cons_zero, List.set_cons_succ]
  (refine wpAnyH_take (i := 10) (oi := { dst := Option.some 19, op := Go.Op.pick (Go.Operand.tmp 16) (Go.Operand.tmp 18) (Go.Operand.const (Go.Value.bool Bool.false)), type := 4, pos := "law.go:20", after := #[{ on := 7, ground := Go.Ground.data }, { on := 9, ground := Go.Ground.data }], guard := Option.none }) (v := ?_) rfl (by kernel_rfl) (by kernel_rfl) (by kernel_rfl) (fun _ _ _ h => h) (Or.inl ⟨by rfl, fun w' hSw => ?_⟩) hSA4 ?_; rotate_left; focus (go_simp; try with_reducible rfl))
  simp only [Act.put, List.setIfInBounds_toArray, List.set_cons_zero, List.set_cons_succ]
  (refine wpAnyH_take (i := 11) (oi := { dst := Option.some 20, op := Go.Op.move (Go.Operand.tmp 19), type := 4, pos := "law.go:20", after := #[{ on := 10, ground := Go.Ground.data }, { on := 7, ground := Go.Ground.chain }], guard := Option.none }) (v := ?_) rfl (by kernel_rfl) (by kernel_rfl) (by kernel_rfl) (fun _ _ _ h => h) (Or.inl ⟨by rfl, fun w' hSw => ?_⟩) hSA4 ?_; rotate_left; focus (go_simp; try with_reducible rfl))
  simp only [Act.put, List.setIfInBounds_toArray, List.set_cons_zero, List.set_cons_succ]
  (refine wpAnyH_take (i := 12) (oi := { dst := Option.some 21, op := Go.Op.load 65 (Go.Operand.tmp 1), type := 65, pos := "law.go:20", after := #[{ on := 11, ground := Go.Ground.guard }], guard := Option.some (11, Bool.true) }) (v := ?_) rfl (by kernel_rfl) (by kernel_rfl) (by kernel_rfl) (fun _ _ _ h => h) (Or.inl ⟨by rfl, fun w' hSw => ?_⟩) hSA4 ?_; rotate_left; focus (have lt := loadTx_run w' w3.heap.size 0 V (range_under T4.out.whole hSw); go_simp; try with_reducible rfl))
  simp only [Act.put, List.setIfInBounds_toArray, List.set_cons_zero, List.set_cons_succ]
  refine wpAnyH_ready (rs := [13]) (by kernel_rfl) (by simp) ?_
  refine AllReadyH.cons rfl (fun K hK => ?_) AllReadyH.nil
  go_simp
  go_wp2_with (go_at_call 39; refine (base_any w8).mono ?_; rintro e w9 ⟨l9, i9, k9, o9, rfl, h9⟩)
  refine hK.out _ _ (Below.then_ hSA4 h9.below) (fun hSA5 => ?_)
  clear hK K
  refine wpAnyH_ready (rs := [14]) (by kernel_rfl) (by simp) ?_
  refine AllReadyH.cons rfl (fun K hK => ?_) AllReadyH.nil
  go_simp
  go_wp2_with (go_at_call 51; refine (TSame_any w9 V (baseV l9 i9 k9 o9) (HV.out.below hSA5) h9.fine hs.out (baseV_small _ _ _ _)).mono ?_; rintro e w10 ⟨rfl, b10⟩; rw [FD.out, hd.out, FS.out])
  refine hK.out _ _ (Below.then_ hSA5 b10) (fun hSA6 => ?_)
  clear hK K
  (refine wpAnyH_take (i := 15) (oi := { dst := Option.some 24, op := Go.Op.pick (Go.Operand.tmp 20) (Go.Operand.tmp 23) (Go.Operand.const (Go.Value.bool Bool.false)), type := 4, pos := "law.go:20", after := #[{ on := 11, ground := Go.Ground.data }, { on := 14, ground := Go.Ground.data }], guard := Option.none }) (v := ?_) rfl (by kernel_rfl) (by kernel_rfl) (by kernel_rfl) (fun _ _ _ h => h) (Or.inl ⟨by rfl, fun w' hSw => ?_⟩) hSA6 ?_; rotate_left; focus (go_simp; try with_reducible rfl))
  simp only [Act.put, List.setIfInBounds_toArray, List.set_cons_zero, List.set_cons_succ]
  (refine wpAnyH_take (i := 16) (oi := { dst := Option.some 25, op := Go.Op.move (Go.Operand.tmp 24), type := 4, pos := "law.go:20", after := #[{ on := 15, ground := Go.Ground.data }, { on := 14, ground := Go.Ground.chain }], guard := Option.none }) (v := ?_) rfl (by kernel_rfl) (by kernel_rfl) (by kernel_rfl) (fun _ _ _ h => h) (Or.inl ⟨by rfl, fun w' hSw => ?_⟩) hSA6 ?_; rotate_left; focus (go_simp; try with_reducible rfl))
  simp only [Act.put, List.setIfInBounds_toArray, List.set_cons_zero, List.set_cons_succ]
  (refine wpAnyH_take (i := 17) (oi := { dst := Option.some 26, op := Go.Op.load 65 (Go.Operand.tmp 1), type := 65, pos := "law.go:20", after := #[{ on := 16, ground := Go.Ground.guard }], guard := Option.some (16, Bool.true) }) (v := ?_) rfl (by kernel_rfl) (by kernel_rfl) (by kernel_rfl) (fun _ _ _ h => h) (Or.inl ⟨by rfl, fun w' hSw => ?_⟩) hSA6 ?_; rotate_left; focus (have lt := loadTx_run w' w3.heap.size 0 V (range_under T4.out.whole hSw); go_simp; try with_reducible rfl))
  simp only [Act.put, List.setIfInBounds_toArray, List.set_cons_zero, List.set_cons_succ]
  refine wpAnyH_ready (rs := [18]) (by kernel_rfl) (by simp) ?_
  refine AllReadyH.cons rfl (fun K hK => ?_) AllReadyH.nil
  go_simp
  go_wp2_with (go_at_call 52; refine (TId_any w10 V (HV.out.below hSA6) hs.out).mono ?_; rintro e w11 ⟨rfl, b11⟩; rw [hd.out, FX.out])
  refine hK.out _ _ (Below.then_ hSA6 b11) (fun hSA7 => ?_)
  clear hK K
  refine wpAnyH_ready (rs := [19]) (by kernel_rfl) (by simp) ?_
  refine AllReadyH.cons rfl (fun K hK => ?_) AllReadyH.nil
  go_simp
  go_wp2_with (go_at_call 39; refine (base_any w11).mono ?_; rintro e w12 ⟨l12, i12, k12, o12, rfl, h12⟩)
  refine hK.out _ _ (Below.then_ hSA7 h12.below) (fun hSA8 => ?_)
  clear hK K
  refine wpAnyH_ready (rs := [20]) (by kernel_rfl) (by simp) ?_
  refine AllReadyH.cons rfl (fun K hK => ?_) AllReadyH.nil
  go_simp
  go_wp2_with (go_at_call 52; refine (TId_any w12 (baseV l12 i12 k12 o12) h12.fine (baseV_small _ _ _ _)).mono ?_; rintro e w13 ⟨rfl, b13⟩; rw [FD.out, FX.out])
  refine hK.out _ _ (Below.then_ hSA8 b13) (fun hSA9 => ?_)
  clear hK K
  (refine wpAnyH_take (i := 21) (oi := { dst := Option.some 30, op := Go.Op.binOp Go.BinOp.eql 44 (Go.Operand.tmp 27) (Go.Operand.tmp 29) 44, type := 4, pos := "law.go:20", after := #[{ on := 18, ground := Go.Ground.data }, { on := 20, ground := Go.Ground.data }, { on := 16, ground := Go.Ground.guard }], guard := Option.some (16, Bool.true) }) (v := ?_) rfl (by kernel_rfl) (by kernel_rfl) (by kernel_rfl) (fun _ _ _ h => h) (Or.inl ⟨by rfl, fun w' hSw => ?_⟩) hSA9 ?_; rotate_left; focus (have le := FE.out w'; go_simp; try with_reducible rfl))
  simp only [Act.put, List.setIfInBounds_toArray, List.set_cons_zero, List.set_cons_succ]
  (refine wpAnyH_take (i := 22) (oi := { dst := Option.some 31, op := Go.Op.pick (Go.Operand.tmp 25) (Go.Operand.tmp 30) (Go.Operand.const (Go.Value.bool Bool.false)), type := 4, pos := "law.go:20", after := #[{ on := 16, ground := Go.Ground.data }, { on := 21, ground := Go.Ground.data }], guard := Option.none }) (v := ?_) rfl (by kernel_rfl) (by kernel_rfl) (by kernel_rfl) (fun _ _ _ h => h) (Or.inl ⟨by rfl, fun w' hSw => ?_⟩) hSA9 ?_; rotate_left; focus (go_simp; try with_reducible rfl))
  simp only [Act.put, List.setIfInBounds_toArray, List.set_cons_zero, List.set_cons_succ]
  (refine wpAnyH_take (i := 23) (oi := { dst := Option.some 32, op := Go.Op.move (Go.Operand.tmp 31), type := 4, pos := "law.go:20", after := #[{ on := 22, ground := Go.Ground.data }, { on := 20, ground := Go.Ground.chain }], guard := Option.none }) (v := ?_) rfl (by kernel_rfl) (by kernel_rfl) (by kernel_rfl) (fun _ _ _ h => h) (Or.inl ⟨by rfl, fun w' hSw => ?_⟩) hSA9 ?_; rotate_left; focus (go_simp; try with_reducible rfl))
  simp only [Act.put, List.setIfInBounds_toArray, List.set_cons_zero, List.set_cons_succ]
  (refine wpAnyH_take (i := 24) (oi := { dst := Option.some 33, op := Go.Op.load 65 (Go.Operand.tmp 1), type := 65, pos := "law.go:20", after := #[{ on := 23, ground := Go.Ground.guard }], guard := Option.some (23, Bool.true) }) (v := ?_) rfl (by kernel_rfl) (by kernel_rfl) (by kernel_rfl) (fun _ _ _ h => h) (Or.inl ⟨by rfl, fun w' hSw => ?_⟩) hSA9 ?_; rotate_left; focus (have lt := loadTx_run w' w3.heap.size 0 V (range_under T4.out.whole hSw); go_simp; try with_reducible rfl))
  simp only [Act.put, List.setIfInBounds_toArray, List.set_cons_zero, List.set_cons_succ]
  (refine wpAnyH_take (i := 26) (oi := { dst := Option.some 35, op := Go.Op.build 44 #[], type := 44, pos := "law.go:20", after := #[{ on := 23, ground := Go.Ground.guard }], guard := Option.some (23, Bool.true) }) (v := ?_) rfl (by kernel_rfl) (by kernel_rfl) (by kernel_rfl) (fun _ _ _ h => h) (Or.inl ⟨by rfl, fun w' hSw => ?_⟩) hSA9 ?_; rotate_left; focus (go_simp; try with_reducible rfl))
  simp only [Act.put, List.setIfInBounds_toArray, List.set_cons_zero, List.set_cons_succ]
  refine wpAnyH_ready (rs := [25]) (by kernel_rfl) (by simp) ?_
  refine AllReadyH.cons rfl (fun K hK => ?_) AllReadyH.nil
  go_simp
  go_wp2_with (go_at_call 52; refine (TId_any w13 V (HV.out.below hSA9) hs.out).mono ?_; rintro e w14 ⟨rfl, b14⟩; rw [hd.out, FX.out])
  refine hK.out _ _ (Below.then_ hSA9 b14) (fun hSA10 => ?_)
  clear hK K
  (refine wpAnyH_take (i := 27) (oi := { dst := Option.some 36, op := Go.Op.binOp Go.BinOp.neq 44 (Go.Operand.tmp 34) (Go.Operand.tmp 35) 44, type := 4, pos := "law.go:20", after := #[{ on := 25, ground := Go.Ground.data }, { on := 26, ground := Go.Ground.data }, { on := 23, ground := Go.Ground.guard }], guard := Option.some (23, Bool.true) }) (v := ?_) rfl (by kernel_rfl) (by kernel_rfl) (by kernel_rfl) (fun _ _ _ h => h) (Or.inl ⟨by rfl, fun w' hSw => ?_⟩) hSA10 ?_; rotate_left; focus (have le := FZ.out w'; go_simp; try with_reducible rfl))
  simp only [Act.put, List.setIfInBounds_toArray, List.set_cons_zero, List.set_cons_succ]
  (refine wpAnyH_take (i := 28) (oi := { dst := Option.some 37, op := Go.Op.pick (Go.Operand.tmp 32) (Go.Operand.tmp 36) (Go.Operand.const (Go.Value.bool Bool.false)), type := 4, pos := "law.go:20", after := #[{ on := 23, ground := Go.Ground.data }, { on := 27, ground := Go.Ground.data }], guard := Option.none }) (v := ?_) rfl (by kernel_rfl) (by kernel_rfl) (by kernel_rfl) (fun _ _ _ h => h) (Or.inl ⟨by rfl, fun w' hSw => ?_⟩) hSA10 ?_; rotate_left; focus (go_simp; try with_reducible rfl))
  simp only [Act.put, List.setIfInBounds_toArray, List.set_cons_zero, List.set_cons_succ]
  (refine wpAnyH_take (i := 29) (oi := { dst := Option.some 0, op := Go.Op.assign (Go.Operand.tmp 37), type := 4, pos := "law.go:20", after := #[{ on := 28, ground := Go.Ground.data }, { on := 25, ground := Go.Ground.chain }, { on := 0, ground := Go.Ground.phase }, { on := 1, ground := Go.Ground.phase }, { on := 2, ground := Go.Ground.phase }, { on := 3, ground := Go.Ground.phase }, { on := 4, ground := Go.Ground.phase }, { on := 5, ground := Go.Ground.phase }, { on := 6, ground := Go.Ground.phase }, { on := 7, ground := Go.Ground.phase }, { on := 8, ground := Go.Ground.phase }, { on := 9, ground := Go.Ground.phase }, { on := 10, ground := Go.Ground.phase }, { on := 11, ground := Go.Ground.phase }, { on := 12, ground := Go.Ground.phase }, { on := 13, ground := Go.Ground.phase }, { on := 14, ground := Go.Ground.phase }, { on := 15, ground := Go.Ground.phase }, { on := 16, ground := Go.Ground.phase }, { on := 17, ground := Go.Ground.phase }, { on := 18, ground := Go.Ground.phase }, { on := 19, ground := Go.Ground.phase }, { on := 20, ground := Go.Ground.phase }, { on := 21, ground := Go.Ground.phase }, { on := 22, ground := Go.Ground.phase }, { on := 23, ground := Go.Ground.phase }, { on := 24, ground := Go.Ground.phase }, { on := 25, ground := Go.Ground.phase }, { on := 26, ground := Go.Ground.phase }, { on := 27, ground := Go.Ground.phase }, { on := 28, ground := Go.Ground.phase }], guard := Option.none }) (v := ?_) rfl (by kernel_rfl) (by kernel_rfl) (by kernel_rfl) (fun _ _ _ h => h) (Or.inl ⟨by rfl, fun w' hSw => ?_⟩) hSA10 ?_; rotate_left; focus (go_simp; try with_reducible rfl))
  simp only [Act.put, List.setIfInBounds_toArray, List.set_cons_zero, List.set_cons_succ]
  refine wpAnyH_done (by kernel_rfl) ?_ _
  go_wp2_with fail
  go_ret
  exact ⟨rfl, Below.then_ HB4.out hSA10⟩
end Go.Proofs.Ytfloclamdpageaa
