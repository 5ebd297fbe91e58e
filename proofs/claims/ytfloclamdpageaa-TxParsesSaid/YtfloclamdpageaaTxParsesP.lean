import Derived.Test.YtfloclamdpageaaPk10
import Derived.Test.YtfloclamdpageaaPk11
import Derived.Test.YtfloclamdpageaaPk3
/-
  TxParses: the law's walk.
-/
namespace Go.Proofs.Ytfloclamdpageaa
open Go.RowKit

attribute [local go_sem ↓] mkTx_fold loadTx_fold
attribute [local go_sem] mkTx_zero
set_option maxHeartbeats 8000000 in
set_option maxRecDepth 100000 in
theorem txparses_any (w : World) (A : Option Addr) (n c : Nat) (bs : List Int) (hB0 : Bys w A n bs) (hc : n ≤ c) :
    Calls Try.prog 9 #[.slice A n c] w fun e w' => e = .returned (.bool true) ∧ Below w.heap.size w w' := by
  have HB := hide hB0
  have hI := isTx
  have HC := hide hc
  clear hB0 hc
  go_enter Try.func9, Try.ntmps9
  go_wp2_with fail
  refine (txAlive_any _).mono ?_
  rintro e w1 ⟨rfl, b1⟩
  have B1 := hide b1
  clear b1
  by_cases hn : n ≤ 3000
  · have hn1 : (n : Int) ≤ 3000 := by omega
    have HN := hide hn
    clear hn
    go_wp2_with fail
    refine (TParse_any w1 A n c bs (HB.out.below B1.out) (by have := HN.out; omega)).mono ?_
    rintro e w2 ⟨V1, rfl, hd1, hf1, hs1, b2⟩
    obtain ⟨p3, hp3⟩ : ∃ p, p = w2.heap.size := ⟨_, rfl⟩
    obtain ⟨wa, hwa⟩ : ∃ x, x = w2.alloc (.cells zeroV.cells.toArray 65) := ⟨_, rfl⟩
    have TA := hide (show Blk wa p3 65 zeroV.cells by rw [hwa, hp3]; exact Blk.new w2 65 zeroV.cells)
    have BA := hide (show Below w2.heap.size w2 wa by rw [hwa]; exact below_alloc (Below.refl _ _) _)
    have HP3 := hide hp3
    obtain ⟨E, hE⟩ : ∃ E, (parseT bs).2 = E := ⟨_, rfl⟩
    rw [hE]
    have HB2 := hide (Below.then_ B1.out b2)
    clear b2
    go_wp2_with (first
      | (refine wpList_alloc_agg rfl 65 rfl zeroV.cells zeroTx_info ?_; simp only [Act.put, List.setIfInBounds_toArray, List.set_cons_zero, List.set_cons_succ])
      | (rw [← hwa, ← hp3]; refine wpList_store_blk rfl 65 _ _ rfl p3 0 65 zeroV.cells V1.cells (by rfl) (by rfl) TA.out (Nat.le_refl _) (by exact hI) (TxV.one V1) ?_; intro w3 o3 z3 b3; simp only [Act.put]))
    rw [lay_all zeroV.cells V1.cells (by rfl)] at b3
    have HB3 := hide (show Below w2.heap.size w2 w3 from BA.out.trans (o3.below BA.out.size (fun i hi e => by have h9 : i = p3 := e; have := HP3.out; omega)))
    have T3 := hide b3
    have F1 := hide (hf1.below HB3.out)
    have BW3 := hide (Below.then_ HB2.out HB3.out)
    clear hwa hp3 o3 z3 b3 TA BA hf1
    refine (refTParse_any w3 A n c bs (HB.out.below BW3.out) HC.out (by have := HN.out; omega)).mono ?_
    rintro e w4 ⟨V2, rfl, hd2, hf2, hs2, b4⟩
    rw [hE]
    obtain ⟨p5, hp5⟩ : ∃ p, p = w4.heap.size := ⟨_, rfl⟩
    obtain ⟨wa, hwa⟩ : ∃ x, x = w4.alloc (.cells zeroV.cells.toArray 65) := ⟨_, rfl⟩
    have TA := hide (show Blk wa p5 65 zeroV.cells by rw [hwa, hp5]; exact Blk.new w4 65 zeroV.cells)
    have BA := hide (show Below w4.heap.size w4 wa by rw [hwa]; exact below_alloc (Below.refl _ _) _)
    have HP5 := hide hp5
    have HB4 := hide b4
    have hS12 : decide (V1.d.bytes = V2.d.bytes) = true := by rw [hd1, hd2]; simp
    clear b4 hd1 hd2 hE
    go_wp2_with (first
      | (refine wpList_alloc_agg rfl 65 rfl zeroV.cells zeroTx_info ?_; simp only [Act.put, List.setIfInBounds_toArray, List.set_cons_zero, List.set_cons_succ])
      | (rw [← hwa, ← hp5]; refine wpList_store_blk rfl 65 _ _ rfl p5 0 65 zeroV.cells V2.cells (by rfl) (by rfl) TA.out (Nat.le_refl _) (by exact hI) (TxV.one V2) ?_; intro w5 o5 z5 b5; rw [lay_all zeroV.cells V2.cells (by rfl)] at b5; have HB5 := hide (show Below w4.heap.size w4 w5 from BA.out.trans (o5.below BA.out.size (fun i hi e => by have h9 : i = p5 := e; have := HP5.out; omega))); have l5 := loadTx_run w5 p5 0 V2 b5.whole; have l3 := loadTx_run w5 p3 0 V1 (range_under T3.out.whole (Below.then_ HB4.out HB5.out)); clear hwa hp5 o5 z5 b5 TA BA; simp only [Act.put]))
    have BW5 := hide (Below.then_ BW3.out (Below.then_ HB4.out HB5.out))
    refine (refTSame_any w5 V1 V2 (F1.out.below (Below.then_ HB4.out HB5.out)) (hf2.below HB5.out) hs1 hs2).mono ?_
    rintro e w6 ⟨rfl, b6⟩
    rw [hS12]
    have BW6 := hide (Below.then_ BW5.out b6)
    clear b6 l3 l5 hS12 hs1 hs2 F1 hf2 T3 HB3 HB4 HB5 HP3 HP5 BW3 BW5 HB2
    go_wp2_with fail
    refine (New_any w6 A n c bs (HB.out.below BW6.out) (by have := HN.out; omega)).mono ?_
    rintro e w7 ⟨g9, h9, rfl, RD7, hg9, hh9, b7⟩
    have BW7 := hide (Below.then_ BW6.out b7)
    obtain ⟨q, hq⟩ : ∃ q, q = w7.heap.size := ⟨_, rfl⟩
    obtain ⟨k, SC8, hk⟩ := scan_new w w7 A n c bs HB.out HC.out (by have := HN.out; omega) BW7.out
    obtain ⟨w8, hw8⟩ : ∃ w8, w8 = w7.alloc (.cells #[.slice A n c, .int .i64 0] 55) := ⟨_, rfl⟩
    have b8 := hide (show Below w7.heap.size w7 w8 by rw [hw8]; exact below_alloc (Below.refl _ _) _)
    have hs8 := hide (show w8.heap.size = q + 1 by rw [hw8, hq]; simp [World.size_alloc])
    rw [← hw8, ← hq] at SC8
    rw [← hq] at hk
    have RDlt := RD7.lt
    have RD8 := RD7.below b8.out
    have BW8 := hide (Below.then_ BW7.out b8.out)
    have hgs := hide (show w6.heap.size ≤ g9 ∧ w6.heap.size ≤ h9 ∧ g9 < q ∧ h9 < q ∧ w.heap.size ≤ g9 ∧ w.heap.size ≤ h9 by have := BW6.out.size; rw [← hq] at RDlt; omega)
    have HK := hide hk
    have hqw := hide (show w.heap.size ≤ q by rw [hq]; exact BW7.out.size)
    have hqk := hide SC8.lt
    have HSC8 := hide SC8
    clear RD7 b7 hg9 hh9 RDlt hk SC8
    obtain ⟨d, r, hdr⟩ : ∃ d r, Rd.tx ⟨bs, 0⟩ = (d, r) := ⟨_, _, rfl⟩
    go_wp2_with fail
    rw [← hw8, ← hq]
    clear hw8 hq
    refine (TRead_any w8 g9 h9 _ RD8).mono ?_
    rintro e w9 ⟨V3, rfl, hd3, hf3, hs3, hR9, o9⟩
    rw [hdr] at hd3 hR9
    simp only at hd3 hR9
    have SC9 := HSC8.out.keep o9 (fun e => by have h9 : q = g9 := e; have := hgs.out; omega) (fun e => by have h8 : k = g9 := e; have := hgs.out; have := HK.out; omega)
    have BW9 := hide (show Below w.heap.size w w9 from BW8.out.trans (o9.below BW8.out.size (fun i hi e => by have h8 : i = g9 := e; have := hgs.out; omega)))
    have hs89 := hide o9.size
    have HF3 := hide hf3
    have HR9 := hide hR9
    clear RD8 o9 hf3 hR9
    go_wp2_with fail
    refine (refTRead_any w9 q k _ SC9).mono ?_
    rintro e w10 ⟨V4, rfl, hd4, hf4, hs4, hR10, o10⟩
    rw [hdr] at hd4 hR10
    simp only at hd4 hR10
    have RD10 := hide (HR9.out.keep o10 (fun e => by have h8 : g9 = q := e; have := hgs.out; omega) (fun e => by have h8 : h9 = q := e; have := hgs.out; omega))
    have SC10 := hide hR10
    have HF4 := hide hf4
    have BW10 := hide (show Below w.heap.size w w10 from BW9.out.trans (o10.below BW9.out.size (fun i hi e => by have h8 : i = q := e; have := hqw.out; omega)))
    have O10 := hide o10
    have hS34 : decide (V3.d.bytes = V4.d.bytes) = true := by rw [hd3, hd4]; simp
    clear hR10 hf4 o10 hd3 hd4 hdr HR9 SC9
    obtain ⟨p9, hp9⟩ : ∃ p, p = w10.heap.size := ⟨_, rfl⟩
    obtain ⟨p10, hp10⟩ : ∃ p, p = w10.heap.size + 1 := ⟨_, rfl⟩
    obtain ⟨wa, hwa⟩ : ∃ x, x = (w10.alloc (.cells zeroV.cells.toArray 65)).alloc (.cells zeroV.cells.toArray 65) := ⟨_, rfl⟩
    have TA := hide (show Blk wa p9 65 zeroV.cells by rw [hwa, hp9]; exact (Blk.new w10 65 zeroV.cells).alloc _)
    have TB := hide (show Blk wa p10 65 zeroV.cells by rw [hwa, hp10]; exact Blk.new1 w10 _ 65 zeroV.cells)
    have BA := hide (show Below w10.heap.size w10 wa by rw [hwa]; exact below_alloc (below_alloc (Below.refl _ _) _) _)
    have HP := hide (show p9 = w10.heap.size ∧ p10 = w10.heap.size + 1 from ⟨hp9, hp10⟩)
    go_wp2_with (first
      | (refine wpList_alloc_agg rfl 65 rfl zeroV.cells zeroTx_info ?_; simp only [Act.put, List.setIfInBounds_toArray, List.set_cons_zero, List.set_cons_succ, World.size_alloc])
      | (rw [← hwa, ← hp10, ← hp9]; refine wpList_store_blk rfl 65 _ _ rfl p9 0 65 zeroV.cells V3.cells (by rfl) (by rfl) TA.out (Nat.le_refl _) (by exact hI) (TxV.one V3) ?_; intro w11 o11 z11 b11; rw [lay_all zeroV.cells V3.cells (by rfl)] at b11; have TB11 := hide (o11.blk TB.out (by have := HP.out; omega)); have P11 := hide b11; have BW11 := hide (show Below w10.heap.size w10 w11 from BA.out.trans (o11.below BA.out.size (fun i hi e => by have h9 : i = p9 := e; have := HP.out; omega))); clear hwa o11 z11 b11 TA TB BA; simp only [Act.put])
      | (refine wpList_store_blk rfl 65 _ _ rfl p10 0 65 zeroV.cells V4.cells (by rfl) (by rfl) TB11.out (Nat.le_refl _) (by exact hI) (TxV.one V4) ?_; intro w12 o12 z12 b12; rw [lay_all zeroV.cells V4.cells (by rfl)] at b12; have P10 := hide b12; have P9 := hide (o12.blk P11.out (by have := HP.out; omega)); have BX := hide (show Below w10.heap.size w10 w12 from BW11.out.trans (o12.below BW11.out.size (fun i hi e => by have h9 : i = p10 := e; have := HP.out; omega))); clear o12 z12 b12 TB11 P11 BW11; simp only [Act.put]))
    have F3 := hide (HF3.out w12 ((O10.out.mono (fun i _ h => by have h8 : i = q := h; have := hs8.out; omega)).trans (Only.of_below BX.out (fun i => i < w8.heap.size)) (fun _ _ h => h)))
    have F4 := hide (HF4.out w12 (Only.of_below BX.out _))
    have R12 := hide (RD10.out.below BX.out)
    have Q12 := hide (SC10.out.below BX.out)
    have BW12 := hide (Below.then_ BW10.out BX.out)
    clear hp9 hp10
    refine wp_region_held_drew (S := fun w' => Below w12.heap.size w12 w') (by kernel_rfl) (by exact (Below.refl _ _).drew) (fun hSZ0 => ?_)
    obtain ⟨w12d, hwZ⟩ : ∃ x, x = w12.drew := ⟨_, rfl⟩
    rw [← hwZ] at hSZ0 ⊢
    have hDZ : Below w12.heap.size w12 w12d := by rw [hwZ]; exact (Below.refl _ _).drew
    clear hwZ
    (refine wpAnyH_take (i := 0) (oi := { dst := Option.some 44, op := Go.Op.load 65 (Go.Operand.tmp 9), type := 65, pos := "law.go:85", after := #[], guard := Option.none }) (v := ?_) rfl (by kernel_rfl) (by kernel_rfl) (by kernel_rfl) (fun _ _ _ h => h) (Or.inl ⟨by rfl, fun w' hSw => ?_⟩) hSZ0 ?_; rotate_left; focus (have hl := loadTx_run w' p9 0 V3 (range_under P9.out.whole hSw); go_simp; try with_reducible rfl))
    simp only [Act.put, List.setIfInBounds_toArray, List.set_cons_zero, List.set_cons_succ]
    (refine wpAnyH_take (i := 1) (oi := { dst := Option.some 45, op := Go.Op.load 65 (Go.Operand.tmp 10), type := 65, pos := "law.go:85", after := #[], guard := Option.none }) (v := ?_) rfl (by kernel_rfl) (by kernel_rfl) (by kernel_rfl) (fun _ _ _ h => h) (Or.inl ⟨by rfl, fun w' hSw => ?_⟩) hSZ0 ?_; rotate_left; focus (have hl := loadTx_run w' p10 0 V4 (range_under P10.out.whole hSw); go_simp; try with_reducible rfl))
    simp only [Act.put, List.setIfInBounds_toArray, List.set_cons_zero, List.set_cons_succ]
    refine wpAnyH_ready (rs := [2]) (by kernel_rfl) (by simp) ?_
    refine AllReadyH.cons rfl (fun K hK => ?_) AllReadyH.nil
    go_simp
    go_wp2_with (go_at_call 46; refine (refTSame_any w12d V3 V4 (F3.out.below hDZ) (F4.out.below hDZ) hs3 hs4).mono ?_; rintro e w13 ⟨rfl, b13⟩; rw [hS34]); have bz := Below.then_ hDZ b13; have RZ := hide (R12.out.below bz); obtain ⟨AQ, nQ, cQ, bQ, BQ, cQ', aQ, kQ, mQ⟩ := Q12.out.below bz; have q0 := bQ.c0; have q1 := bQ.c1; have hlQ := hide BQ.1; have hlQ' : (r.rest.length : Int) = (nQ : Int) := (by rw [hlQ.out])
    refine hK.out _ _ (Below.then_ hSZ0 b13) (fun hSZ1 => ?_)
    clear hK K
    refine held_lex (k := 3) [{ dst := Option.some 47, op := Go.Op.move (Go.Operand.tmp 46), type := 4, pos := "law.go:85", after := #[{ on := 2, ground := Go.Ground.data }, { on := 2, ground := Go.Ground.chain }], guard := Option.none }, { dst := Option.some 48, op := Go.Op.move (Go.Operand.tmp 7), type := 51, pos := "law.go:85", after := #[{ on := 3, ground := Go.Ground.guard }], guard := Option.some (3, Bool.true) }, { dst := Option.some 49, op := Go.Op.call { callee := Go.Callee.value (Go.Operand.func 35), args := #[Go.Operand.tmp 48], argTypes := #[51] }, type := 28, pos := "law.go:85", after := #[{ on := 4, ground := Go.Ground.data }, { on := 3, ground := Go.Ground.chain }, { on := 3, ground := Go.Ground.guard }], guard := Option.some (3, Bool.true) }, { dst := Option.some 50, op := Go.Op.move (Go.Operand.tmp 8), type := 53, pos := "law.go:85", after := #[{ on := 3, ground := Go.Ground.guard }], guard := Option.some (3, Bool.true) }, { dst := Option.some 51, op := Go.Op.nilCheck (Go.Operand.tmp 50), type := 0, pos := "law.go:85", after := #[{ on := 6, ground := Go.Ground.data }, { on := 3, ground := Go.Ground.guard }], guard := Option.some (3, Bool.true) }, { dst := Option.some 52, op := Go.Op.fieldAddr 55 (Go.Operand.tmp 51) 1, type := 0, pos := "law.go:85", after := #[{ on := 7, ground := Go.Ground.data }, { on := 3, ground := Go.Ground.guard }], guard := Option.some (3, Bool.true) }, { dst := Option.some 53, op := Go.Op.load 3 (Go.Operand.tmp 52), type := 3, pos := "law.go:85", after := #[{ on := 8, ground := Go.Ground.data }, { on := 3, ground := Go.Ground.guard }], guard := Option.some (3, Bool.true) }, { dst := Option.some 54, op := Go.Op.binOp Go.BinOp.eql 3 (Go.Operand.tmp 49) (Go.Operand.tmp 53) 3, type := 4, pos := "law.go:85", after := #[{ on := 5, ground := Go.Ground.data }, { on := 9, ground := Go.Ground.data }, { on := 3, ground := Go.Ground.guard }], guard := Option.some (3, Bool.true) }, { dst := Option.some 55, op := Go.Op.pick (Go.Operand.tmp 47) (Go.Operand.tmp 54) (Go.Operand.const (Go.Value.bool Bool.false)), type := 4, pos := "law.go:85", after := #[{ on := 3, ground := Go.Ground.data }, { on := 10, ground := Go.Ground.data }], guard := Option.none }, { dst := Option.some 56, op := Go.Op.move (Go.Operand.tmp 55), type := 4, pos := "law.go:85", after := #[{ on := 11, ground := Go.Ground.data }, { on := 5, ground := Go.Ground.chain }], guard := Option.none }, { dst := Option.some 57, op := Go.Op.move (Go.Operand.tmp 7), type := 51, pos := "law.go:85", after := #[{ on := 12, ground := Go.Ground.guard }], guard := Option.some (12, Bool.true) }, { dst := Option.some 58, op := Go.Op.call { callee := Go.Callee.value (Go.Operand.func 34), args := #[Go.Operand.tmp 57], argTypes := #[51] }, type := 3, pos := "law.go:85", after := #[{ on := 13, ground := Go.Ground.data }, { on := 12, ground := Go.Ground.chain }, { on := 12, ground := Go.Ground.guard }], guard := Option.some (12, Bool.true) }, { dst := Option.some 59, op := Go.Op.move (Go.Operand.tmp 8), type := 53, pos := "law.go:85", after := #[{ on := 12, ground := Go.Ground.guard }], guard := Option.some (12, Bool.true) }, { dst := Option.some 60, op := Go.Op.nilCheck (Go.Operand.tmp 59), type := 0, pos := "law.go:85", after := #[{ on := 15, ground := Go.Ground.data }, { on := 12, ground := Go.Ground.guard }], guard := Option.some (12, Bool.true) }, { dst := Option.some 61, op := Go.Op.fieldAddr 55 (Go.Operand.tmp 60) 0, type := 0, pos := "law.go:85", after := #[{ on := 16, ground := Go.Ground.data }, { on := 12, ground := Go.Ground.guard }], guard := Option.some (12, Bool.true) }, { dst := Option.some 62, op := Go.Op.load 22 (Go.Operand.tmp 61), type := 22, pos := "law.go:85", after := #[{ on := 17, ground := Go.Ground.data }, { on := 12, ground := Go.Ground.guard }], guard := Option.some (12, Bool.true) }, { dst := Option.some 63, op := Go.Op.call { callee := Go.Callee.builtin Go.Builtin.len, args := #[Go.Operand.tmp 62], argTypes := #[22] }, type := 3, pos := "law.go:85", after := #[{ on := 18, ground := Go.Ground.data }, { on := 12, ground := Go.Ground.guard }], guard := Option.some (12, Bool.true) }, { dst := Option.some 64, op := Go.Op.binOp Go.BinOp.eql 3 (Go.Operand.tmp 58) (Go.Operand.tmp 63) 3, type := 4, pos := "law.go:85", after := #[{ on := 14, ground := Go.Ground.data }, { on := 19, ground := Go.Ground.data }, { on := 12, ground := Go.Ground.guard }], guard := Option.some (12, Bool.true) }, { dst := Option.some 65, op := Go.Op.pick (Go.Operand.tmp 56) (Go.Operand.tmp 64) (Go.Operand.const (Go.Value.bool Bool.false)), type := 4, pos := "law.go:85", after := #[{ on := 12, ground := Go.Ground.data }, { on := 20, ground := Go.Ground.data }], guard := Option.none }, { dst := Option.some 2, op := Go.Op.assign (Go.Operand.tmp 65), type := 4, pos := "law.go:85", after := #[{ on := 21, ground := Go.Ground.data }, { on := 14, ground := Go.Ground.chain }, { on := 0, ground := Go.Ground.phase }, { on := 1, ground := Go.Ground.phase }, { on := 2, ground := Go.Ground.phase }, { on := 3, ground := Go.Ground.phase }, { on := 4, ground := Go.Ground.phase }, { on := 5, ground := Go.Ground.phase }, { on := 6, ground := Go.Ground.phase }, { on := 7, ground := Go.Ground.phase }, { on := 8, ground := Go.Ground.phase }, { on := 9, ground := Go.Ground.phase }, { on := 10, ground := Go.Ground.phase }, { on := 11, ground := Go.Ground.phase }, { on := 12, ground := Go.Ground.phase }, { on := 13, ground := Go.Ground.phase }, { on := 14, ground := Go.Ground.phase }, { on := 15, ground := Go.Ground.phase }, { on := 16, ground := Go.Ground.phase }, { on := 17, ground := Go.Ground.phase }, { on := 18, ground := Go.Ground.phase }, { on := 19, ground := Go.Ground.phase }, { on := 20, ground := Go.Ground.phase }, { on := 21, ground := Go.Ground.phase }], guard := Option.none }] rfl (by kernel_rfl) (by kernel_rfl) (by kernel_rfl) (fun n => below_drewN' hSZ1 n) ?_
    iterate 20 quiet_step (first | (go_at_call 34; exact Calls.quiet_of_same ((Left_any _ g9 h9 r (show RdAt 99 (World.drewN _ _) g9 h9 r from RZ.out)).mono fun _ _ h => ⟨h.1, h.2.symm⟩)) | (go_at_call 35; exact Calls.quiet_of_same ((Err_any _ g9 h9 r (show RdAt 99 (World.drewN _ _) g9 h9 r from RZ.out)).mono fun _ _ h => ⟨h.1, h.2.symm⟩)))
    refine wpQuiet_nil ?_
    intro _ hw'
    obtain ⟨nq, hw''⟩ := hw'
    subst hw''
    have hfin := hide (Below.then_ BW12.out (below_drewN' hSZ1 nq))
    go_wp2_with fail
    go_ret
    exact ⟨rfl, hfin.out⟩
  · have hn1 : 3000 < (n : Int) := by omega
    go_wp2_with fail
    go_ret
    exact ⟨rfl, B1.out⟩
end Go.Proofs.Ytfloclamdpageaa
