/-
  CoinRefs: the law's walk.
-/
import Derived.Test.YtfloclamdpageaaCoinT
import Derived.Test.YtfloclamdpageaaCoinF
import Derived.Test.YtfloclamdpageaaQuiet
namespace Go.Proofs.Ytfloclamdpageaa
open Go.RowKit

theorem out_refl (d : OutD) : d.same d = true := by simp [OutD.same]
theorem OutV.Fine.only {F : Nat → Prop} {w w' : World} {a : OutV} (h : a.Fine w) (ho : Only F w w') (ha : Apart a.A a.n F) : a.Fine w' := ⟨h.v, h.bys.keep ho ha, h.cap⟩
attribute [local go_sem ↓] loadRef_fold eqlRef_fold neqRef_fold
attribute [local go_sem] guardRef
set_option maxHeartbeats 8000000 in
set_option maxRecDepth 100000 in
theorem coinrefs_any (w : World) (r : RefD) (hr0 : r.Fine) (o : OutV) (ho0 : o.Fine w) (A : Option Addr) (n c : Nat) (bs : List Int) (hB0 : Bys w A n bs) (hc0 : n ≤ c) (hn0 : (n : Int) ≤ 2500) (hon0 : (o.n : Int) ≤ 2500) :
    Calls Try.prog 7 #[.agg r.cells.toArray, .agg #[.int .i64 o.v, .slice o.A o.n o.c], .slice A n c] w fun e w' => e = .returned (.bool true) ∧ Below w.heap.size w w' := by
  obtain ⟨ov, oA, on, oc, ob⟩ := o
  have hr := hide hr0
  have hoA := hide (show 0 < on → ∀ ad, oA = some ad → ad.block < w.heap.size from fun hn ad e => ho0.bys.lt hn ad e)
  have OF0 := hide ho0
  have HB := hide hB0
  have hc := hide hc0
  have hon := hide (show on ≤ 1000000 by simp only at hon0; omega)
  simp only at hon0
  obtain ⟨w0, hw0⟩ : ∃ w0, w0 = (w.alloc (.cells r.cells.toArray 47)).alloc (.cells #[.int .i64 ov, .slice oA on oc] 24) := ⟨_, rfl⟩
  have R0 := hide (show Blk w0 w.heap.size 47 r.cells by rw [hw0]; exact (Blk.new w _ _).alloc _)
  have O0 := hide (show Blk w0 (w.heap.size + 1) 24 [.int .i64 ov, .slice oA on oc] by rw [hw0]; exact Blk.new1 w _ _ _)
  have B0 := hide (show Below w.heap.size w w0 by rw [hw0]; exact below_alloc (below_alloc (Below.refl _ _) _) _)
  have hsz0 : w0.heap.size = w.heap.size + 2 := by rw [hw0]; simp [World.size_alloc]
  clear hr0 ho0 hB0 hc0
  go_enter Try.func7, Try.ntmps7
  go_wp2_with fail
  rw [← hw0]
  clear hw0
  refine (coinalive_any _).mono ?_
  rintro e w1 ⟨rfl, b1⟩
  have B1 := hide (Below.then_ B0.out b1)
  have R1 := hide (Blk.under R0.out b1)
  have O1 := hide (Blk.under O0.out b1)
  have OF := hide (OF0.out.below B1.out)
  have hsz1 := hide (show w.heap.size + 2 ≤ w1.heap.size by have := b1.size; omega)
  have o0 := O1.out.c0
  have o1 := O1.out.c1
  clear b1 R0 O0 B0 OF0
  go_wp2_with fail
  refine wp_region_held_drew (S := fun w' => Below w1.heap.size w1 w') (by kernel_rfl) (by exact (Below.refl _ _).drew) (fun hSA0 => ?_)
  obtain ⟨w1d, hwA⟩ : ∃ x, x = w1.drew := ⟨_, rfl⟩
  rw [← hwA] at hSA0 ⊢
  have hDA : Below w1.heap.size w1 w1d := by rw [hwA]; exact (Below.refl _ _).drew
  clear hwA
  (refine wpAnyH_take (i := 0) (oi := { dst := some 23, op := Go.Op.load 47 (Go.Operand.tmp 3), type := 47, pos := "law.go:55", after := #[], guard := none }) (v := ?_) rfl (by kernel_rfl) (by kernel_rfl) (by kernel_rfl) (fun _ _ _ h => h) (Or.inl ⟨by rfl, fun w' hSw => ?_⟩) hSA0 ?_; rotate_left; focus (have lr := loadRef_run w' w.heap.size 0 r (range_under R1.out.whole hSw) hr.out; go_simp; try with_reducible rfl))
  simp only [Act.put, List.setIfInBounds_toArray, List.set_cons_zero, List.set_cons_succ]
  (refine wpAnyH_take (i := 2) (oi := { dst := some 25, op := Go.Op.load 24 (Go.Operand.tmp 4), type := 24, pos := "law.go:55", after := #[], guard := none }) (v := ?_) rfl (by kernel_rfl) (by kernel_rfl) (by kernel_rfl) (fun _ _ _ h => h) (Or.inl ⟨by rfl, fun w' hSw => ?_⟩) hSA0 ?_; rotate_left; focus (have l0 := cell_under hSw o0; have l1 := cell_under hSw o1; go_simp; try with_reducible rfl))
  simp only [Act.put, List.setIfInBounds_toArray, List.set_cons_zero, List.set_cons_succ]
  refine wpAnyH_ready (rs := [1]) (by kernel_rfl) (by simp) ?_
  refine AllReadyH.cons rfl (fun K hK => ?_) AllReadyH.nil
  go_simp
  go_wp2_with (go_at_call 26; refine (RefBytes_any w1d r hr.out).mono ?_; rintro e w2 ⟨A2, n2, c2, rfl, t2, f2⟩)
  refine hK.out _ _ (Below.then_ hSA0 t2.below) (fun hSA1 => ?_)
  clear hK K
  refine wpAnyH_ready (rs := [3]) (by kernel_rfl) (by simp) ?_
  refine AllReadyH.cons rfl (fun K hK => ?_) AllReadyH.nil
  go_simp
  go_wp2_with (go_at_call 27; refine (OutBytes_any w2 ⟨ov, oA, on, oc, ob⟩ (OF.out.below hSA1) hon.out).mono ?_; rintro e w3 ⟨A3, n3, c3, rfl, t3, f3⟩)
  refine hK.out _ _ (Below.then_ hSA1 t3.below) (fun hSA2 => ?_)
  clear hK K
  (refine wpAnyH_take (i := 4) (oi := { dst := some 7, op := Go.Op.assign (Go.Operand.tmp 24), type := 22, pos := "law.go:55", after := #[{ on := 1, ground := Go.Ground.data }, { on := 3, ground := Go.Ground.chain }, { on := 0, ground := Go.Ground.phase }, { on := 1, ground := Go.Ground.phase }, { on := 2, ground := Go.Ground.textOnly Go.Departure.lateStores }, { on := 3, ground := Go.Ground.textOnly Go.Departure.lateStoresUnsure }], guard := none }) (v := ?_) rfl (by kernel_rfl) (by kernel_rfl) (by kernel_rfl) (fun _ _ _ h => h) (Or.inl ⟨by rfl, fun w' hSw => ?_⟩) hSA2 ?_; rotate_left; focus (go_simp; try with_reducible rfl))
  simp only [Act.put, List.setIfInBounds_toArray, List.set_cons_zero, List.set_cons_succ]
  (refine wpAnyH_take (i := 5) (oi := { dst := some 8, op := Go.Op.assign (Go.Operand.tmp 26), type := 22, pos := "law.go:55", after := #[{ on := 3, ground := Go.Ground.data }, { on := 4, ground := Go.Ground.chain }, { on := 0, ground := Go.Ground.phase }, { on := 1, ground := Go.Ground.phase }, { on := 2, ground := Go.Ground.phase }, { on := 3, ground := Go.Ground.phase }, { on := 4, ground := Go.Ground.phase }], guard := none }) (v := ?_) rfl (by kernel_rfl) (by kernel_rfl) (by kernel_rfl) (fun _ _ _ h => h) (Or.inl ⟨by rfl, fun w' hSw => ?_⟩) hSA2 ?_; rotate_left; focus (go_simp; try with_reducible rfl))
  simp only [Act.put, List.setIfInBounds_toArray, List.set_cons_zero, List.set_cons_succ]
  refine wpAnyH_done (by kernel_rfl) ?_ _
  have X3 := hide (t2.bys.below t3.below)
  have Y3 := hide t3.bys
  have MX := hide (t2.keep t3.below)
  have hl2 := hide t2.len
  have hl3 := hide t3.len
  have R3 := hide (Blk.under R1.out hSA2)
  have O3 := hide (Blk.under O1.out hSA2)
  have OF3 := hide (OF.out.below hSA2)
  have B3 := hide (Below.then_ B1.out hSA2)
  have hsz3 := hide (show w.heap.size + 2 ≤ w3.heap.size by have := hSA2.size; have := hsz1.out; omega)
  clear o0 o1 t2 f2 t3 f3 hSA2 hSA1 hSA0
  have o0 := O3.out.c0
  have o1 := O3.out.c1
  obtain ⟨XS, hXS⟩ : ∃ XS, XS = ba r.bytes := ⟨_, rfl⟩
  have hxs := hide (show ∀ (w' : World) (A' : Option Addr) (n' c' : Nat) (xs : List Int), Bys w' A' n' xs → xs = r.bytes → (convert 22 9 (.slice A' n' c')).run Try.prog w' = .ok (.string XS) w' from fun w' A' n' c' xs h e => by rw [hXS, ← e]; exact run_str w' A' n' c' xs h)
  obtain ⟨YS, hYS⟩ : ∃ YS, YS = ba (OutV.d ⟨ov, oA, on, oc, ob⟩).bytes := ⟨_, rfl⟩
  have hys := hide (show ∀ (w' : World) (A' : Option Addr) (n' c' : Nat) (xs : List Int), Bys w' A' n' xs → xs = (OutV.d ⟨ov, oA, on, oc, ob⟩).bytes → (convert 22 9 (.slice A' n' c')).run Try.prog w' = .ok (.string YS) w' from fun w' A' n' c' xs h e => by rw [hYS, ← e]; exact run_str w' A' n' c' xs h)
  clear hXS hYS
  go_wp2_with fail
  refine wp_region_held_drew (S := fun w' => Below w3.heap.size w3 w') (by kernel_rfl) (by exact (Below.refl _ _).drew) (fun hSB0 => ?_)
  obtain ⟨w3d, hwB⟩ : ∃ x, x = w3.drew := ⟨_, rfl⟩
  rw [← hwB] at hSB0 ⊢
  have hDB : Below w3.heap.size w3 w3d := by rw [hwB]; exact (Below.refl _ _).drew
  clear hwB
  (refine wpAnyH_take (i := 0) (oi := { dst := some 27, op := Go.Op.move (Go.Operand.tmp 7), type := 22, pos := "law.go:56", after := #[], guard := none }) (v := ?_) rfl (by kernel_rfl) (by kernel_rfl) (by kernel_rfl) (fun _ _ _ h => h) (Or.inl ⟨by rfl, fun w' hSw => ?_⟩) hSB0 ?_; rotate_left; focus (go_simp; try with_reducible rfl))
  simp only [Act.put, List.setIfInBounds_toArray, List.set_cons_zero, List.set_cons_succ]
  (refine wpAnyH_take (i := 1) (oi := { dst := some 28, op := Go.Op.convert 22 9 (Go.Operand.tmp 27), type := 9, pos := "law.go:56", after := #[{ on := 0, ground := Go.Ground.data }], guard := none }) (v := ?_) rfl (by kernel_rfl) (by kernel_rfl) (by kernel_rfl) (fun _ _ _ h => h) (Or.inl ⟨by rfl, fun w' hSw => ?_⟩) hSB0 ?_; rotate_left; focus (have s1 := hxs.out w' A2 n2 c2 _ (X3.out.below hSw) rfl; go_simp; try with_reducible rfl))
  simp only [Act.put, List.setIfInBounds_toArray, List.set_cons_zero, List.set_cons_succ]
  (refine wpAnyH_take (i := 2) (oi := { dst := some 29, op := Go.Op.load 47 (Go.Operand.tmp 3), type := 47, pos := "law.go:56", after := #[], guard := none }) (v := ?_) rfl (by kernel_rfl) (by kernel_rfl) (by kernel_rfl) (fun _ _ _ h => h) (Or.inl ⟨by rfl, fun w' hSw => ?_⟩) hSB0 ?_; rotate_left; focus (have lr := loadRef_run w' w.heap.size 0 r (range_under R3.out.whole hSw) hr.out; go_simp; try with_reducible rfl))
  simp only [Act.put, List.setIfInBounds_toArray, List.set_cons_zero, List.set_cons_succ]
  refine wpAnyH_ready (rs := [3]) (by kernel_rfl) (by simp) ?_
  refine AllReadyH.cons rfl (fun K hK => ?_) AllReadyH.nil
  go_simp
  go_wp2_with (go_at_call 28; refine (refRefBytes_any w3d r hr.out).mono ?_; rintro e w4 ⟨A4, n4, c4, rfl, t4, f4⟩)
  refine hK.out _ _ (Below.then_ hSB0 t4.below) (fun hSB1 => ?_)
  clear hK K
  refine wpAnyH_ready (rs := [4]) (by kernel_rfl) (by simp) ?_
  refine AllReadyH.cons rfl (fun K hK => ?_) AllReadyH.nil
  have s4 := hxs.out w4 A4 n4 c4 _ t4.bys rfl
  go_simp
  refine hK.out _ _ (hSB1) (fun hSB2 => ?_)
  clear hK K
  (refine wpAnyH_take (i := 5) (oi := { dst := some 32, op := Go.Op.binOp Go.BinOp.neq 9 (Go.Operand.tmp 28) (Go.Operand.tmp 31) 9, type := 4, pos := "law.go:56", after := #[{ on := 1, ground := Go.Ground.data }, { on := 4, ground := Go.Ground.data }], guard := none }) (v := ?_) rfl (by kernel_rfl) (by kernel_rfl) (by kernel_rfl) (fun _ _ _ h => h) (Or.inl ⟨by rfl, fun w' hSw => ?_⟩) hSB2 ?_; rotate_left; focus (go_simp; try with_reducible rfl))
  simp only [Act.put, List.setIfInBounds_toArray, List.set_cons_zero, List.set_cons_succ]
  (refine wpAnyH_take (i := 6) (oi := { dst := some 33, op := Go.Op.move (Go.Operand.tmp 32), type := 4, pos := "law.go:56", after := #[{ on := 5, ground := Go.Ground.data }, { on := 3, ground := Go.Ground.chain }], guard := none }) (v := ?_) rfl (by kernel_rfl) (by kernel_rfl) (by kernel_rfl) (fun _ _ _ h => h) (Or.inl ⟨by rfl, fun w' hSw => ?_⟩) hSB2 ?_; rotate_left; focus (go_simp; try with_reducible rfl))
  simp only [Act.put, List.setIfInBounds_toArray, List.set_cons_zero, List.set_cons_succ]
  (refine wpAnyH_take (i := 7) (oi := { dst := some 34, op := Go.Op.move (Go.Operand.tmp 8), type := 22, pos := "law.go:56", after := #[{ on := 6, ground := Go.Ground.guard }], guard := some (6, false) }) (v := ?_) rfl (by kernel_rfl) (by kernel_rfl) (by kernel_rfl) (fun _ _ _ h => h) (Or.inl ⟨by rfl, fun w' hSw => ?_⟩) hSB2 ?_; rotate_left; focus (go_simp; try with_reducible rfl))
  simp only [Act.put, List.setIfInBounds_toArray, List.set_cons_zero, List.set_cons_succ]
  (refine wpAnyH_take (i := 8) (oi := { dst := some 35, op := Go.Op.convert 22 9 (Go.Operand.tmp 34), type := 9, pos := "law.go:56", after := #[{ on := 7, ground := Go.Ground.data }, { on := 6, ground := Go.Ground.guard }], guard := some (6, false) }) (v := ?_) rfl (by kernel_rfl) (by kernel_rfl) (by kernel_rfl) (fun _ _ _ h => h) (Or.inl ⟨by rfl, fun w' hSw => ?_⟩) hSB2 ?_; rotate_left; focus (have s2 := hys.out w' A3 n3 c3 _ (Y3.out.below hSw) rfl; go_simp; try with_reducible rfl))
  simp only [Act.put, List.setIfInBounds_toArray, List.set_cons_zero, List.set_cons_succ]
  (refine wpAnyH_take (i := 9) (oi := { dst := some 36, op := Go.Op.load 24 (Go.Operand.tmp 4), type := 24, pos := "law.go:56", after := #[{ on := 6, ground := Go.Ground.guard }], guard := some (6, false) }) (v := ?_) rfl (by kernel_rfl) (by kernel_rfl) (by kernel_rfl) (fun _ _ _ h => h) (Or.inl ⟨by rfl, fun w' hSw => ?_⟩) hSB2 ?_; rotate_left; focus (have l0 := cell_under hSw o0; have l1 := cell_under hSw o1; go_simp; try with_reducible rfl))
  simp only [Act.put, List.setIfInBounds_toArray, List.set_cons_zero, List.set_cons_succ]
  refine wpAnyH_ready (rs := [10]) (by kernel_rfl) (by simp) ?_
  refine AllReadyH.cons rfl (fun K hK => ?_) AllReadyH.nil
  go_simp
  go_wp2_with (go_at_call 29; refine (refOutBytes_any w4 ⟨ov, oA, on, oc, ob⟩ (OF3.out.below hSB1) hon.out).mono ?_; rintro e w5 ⟨A5, n5, c5, rfl, t5, f5⟩)
  refine hK.out _ _ (Below.then_ hSB2 t5.below) (fun hSB3 => ?_)
  clear hK K
  refine wpAnyH_ready (rs := [11]) (by kernel_rfl) (by simp) ?_
  refine AllReadyH.cons rfl (fun K hK => ?_) AllReadyH.nil
  have s5 := hys.out w5 A5 n5 c5 _ t5.bys rfl
  go_simp
  refine hK.out _ _ (hSB3) (fun hSB4 => ?_)
  clear hK K
  (refine wpAnyH_take (i := 12) (oi := { dst := some 39, op := Go.Op.binOp Go.BinOp.neq 9 (Go.Operand.tmp 35) (Go.Operand.tmp 38) 9, type := 4, pos := "law.go:56", after := #[{ on := 8, ground := Go.Ground.data }, { on := 11, ground := Go.Ground.data }, { on := 6, ground := Go.Ground.guard }], guard := some (6, false) }) (v := ?_) rfl (by kernel_rfl) (by kernel_rfl) (by kernel_rfl) (fun _ _ _ h => h) (Or.inl ⟨by rfl, fun w' hSw => ?_⟩) hSB4 ?_; rotate_left; focus (go_simp; try with_reducible rfl))
  simp only [Act.put, List.setIfInBounds_toArray, List.set_cons_zero, List.set_cons_succ]
  (refine wpAnyH_take (i := 13) (oi := { dst := some 40, op := Go.Op.pick (Go.Operand.tmp 33) (Go.Operand.const (Go.Value.bool true)) (Go.Operand.tmp 39), type := 4, pos := "law.go:56", after := #[{ on := 6, ground := Go.Ground.data }, { on := 12, ground := Go.Ground.data }], guard := none }) (v := ?_) rfl (by kernel_rfl) (by kernel_rfl) (by kernel_rfl) (fun _ _ _ h => h) (Or.inl ⟨by rfl, fun w' hSw => ?_⟩) hSB4 ?_; rotate_left; focus (go_simp; try with_reducible rfl))
  simp only [Act.put, List.setIfInBounds_toArray, List.set_cons_zero, List.set_cons_succ]
  (refine wpAnyH_take (i := 14) (oi := { dst := some 41, op := Go.Op.move (Go.Operand.tmp 40), type := 4, pos := "law.go:56", after := #[{ on := 13, ground := Go.Ground.data }, { on := 10, ground := Go.Ground.chain }], guard := none }) (v := ?_) rfl (by kernel_rfl) (by kernel_rfl) (by kernel_rfl) (fun _ _ _ h => h) (Or.inl ⟨by rfl, fun w' hSw => ?_⟩) hSB4 ?_; rotate_left; focus (go_simp; try with_reducible rfl))
  simp only [Act.put, List.setIfInBounds_toArray, List.set_cons_zero, List.set_cons_succ]
  (refine wpAnyH_take (i := 15) (oi := { dst := some 42, op := Go.Op.load 24 (Go.Operand.tmp 4), type := 24, pos := "law.go:56", after := #[{ on := 14, ground := Go.Ground.guard }], guard := some (14, false) }) (v := ?_) rfl (by kernel_rfl) (by kernel_rfl) (by kernel_rfl) (fun _ _ _ h => h) (Or.inl ⟨by rfl, fun w' hSw => ?_⟩) hSB4 ?_; rotate_left; focus (have l0 := cell_under hSw o0; have l1 := cell_under hSw o1; go_simp; try with_reducible rfl))
  simp only [Act.put, List.setIfInBounds_toArray, List.set_cons_zero, List.set_cons_succ]
  (refine wpAnyH_take (i := 16) (oi := { dst := some 43, op := Go.Op.load 24 (Go.Operand.tmp 4), type := 24, pos := "law.go:56", after := #[{ on := 14, ground := Go.Ground.guard }], guard := some (14, false) }) (v := ?_) rfl (by kernel_rfl) (by kernel_rfl) (by kernel_rfl) (fun _ _ _ h => h) (Or.inl ⟨by rfl, fun w' hSw => ?_⟩) hSB4 ?_; rotate_left; focus (have l0 := cell_under hSw o0; have l1 := cell_under hSw o1; go_simp; try with_reducible rfl))
  simp only [Act.put, List.setIfInBounds_toArray, List.set_cons_zero, List.set_cons_succ]
  refine wpAnyH_ready (rs := [17]) (by kernel_rfl) (by simp) ?_
  refine AllReadyH.cons rfl (fun K hK => ?_) AllReadyH.nil
  go_simp
  go_wp2_with (go_at_call 30; refine (Same_any w5 ⟨ov, oA, on, oc, ob⟩ ⟨ov, oA, on, oc, ob⟩ (OF3.out.below hSB3) (OF3.out.below hSB3)).mono ?_; rintro e w6 ⟨rfl, b6⟩; rw [out_refl])
  refine hK.out _ _ (Below.then_ hSB4 b6) (fun hSB5 => ?_)
  clear hK K
  (refine wpAnyH_take (i := 18) (oi := { dst := some 45, op := Go.Op.unOp Go.UnOp.not 4 (Go.Operand.tmp 44), type := 4, pos := "law.go:56", after := #[{ on := 17, ground := Go.Ground.data }, { on := 14, ground := Go.Ground.guard }], guard := some (14, false) }) (v := ?_) rfl (by kernel_rfl) (by kernel_rfl) (by kernel_rfl) (fun _ _ _ h => h) (Or.inl ⟨by rfl, fun w' hSw => ?_⟩) hSB5 ?_; rotate_left; focus (go_simp; try with_reducible rfl))
  simp only [Act.put, List.setIfInBounds_toArray, List.set_cons_zero, List.set_cons_succ]
  (refine wpAnyH_take (i := 19) (oi := { dst := some 46, op := Go.Op.pick (Go.Operand.tmp 41) (Go.Operand.const (Go.Value.bool true)) (Go.Operand.tmp 45), type := 4, pos := "law.go:56", after := #[{ on := 14, ground := Go.Ground.data }, { on := 18, ground := Go.Ground.data }], guard := none }) (v := ?_) rfl (by kernel_rfl) (by kernel_rfl) (by kernel_rfl) (fun _ _ _ h => h) (Or.inl ⟨by rfl, fun w' hSw => ?_⟩) hSB5 ?_; rotate_left; focus (go_simp; try with_reducible rfl))
  simp only [Act.put, List.setIfInBounds_toArray, List.set_cons_zero, List.set_cons_succ]
  refine wpAnyH_done (by kernel_rfl) ?_ _
  have X6 := hide (X3.out.below hSB5)
  have Y6 := hide (Y3.out.below hSB5)
  have R6 := hide (Blk.under R3.out hSB5)
  have O6 := hide (Blk.under O3.out hSB5)
  have OF6 := hide (OF3.out.below hSB5)
  have B6 := hide (Below.then_ B3.out hSB5)
  have hsz6 := hide (show w.heap.size + 2 ≤ w6.heap.size by have := hSB5.size; have := hsz3.out; omega)
  have hxl := hide (show n2 ≤ 40 by rw [← hl2.out, RefD.bytes, List.length_append, hr.out.len, dig_length]; decide)
  have hyl := hide (show n3 ≤ 1000017 by have e1 := hl3.out; have e2 := txt_len ob; have e3 := OF6.out.bys.1; have e4 := hon.out; simp only [OutV.d, OutD.bytes, List.length_append, dig_length] at e1; simp only at e3; omega)
  clear o0 o1 X3 Y3 R3 O3 OF3 B3 hsz3 hl2 hl3 hxs hys t4 f4 t5 f5 s4 s5 b6 hSB5 hSB4 hSB3 hSB2 hSB1 hSB0 MX
  go_wp2_with (first
    | (at_builtin; refine wpList_app rfl _ _ rfl w6 _ 0 0 [] (by rfl) (Mine.nil (below_alloc (Below.refl _ _) _) _) A2 n2 c2 r.bytes (by rfl) (X6.out.alloc _) (by have := hxl.out; omega) ?_; intro A7 n7 c7 w7 t7 f7)
    | (at_builtin; refine wpList_app rfl _ _ rfl w6 A7 n7 c7 _ (by rfl) t7 A3 n3 c3 _ (by rfl) (Y6.out.below t7.below) (by have e1 := t7.len; have e2 := hxl.out; have e3 := hyl.out; rw [List.nil_append, X6.out.1] at e1; omega) ?_; intro A8 n8 c8 w8 t8 f8))
  rw [List.nil_append] at t8
  have hl8 := hide (show n8 ≤ 1000100 by have e1 := t8.len; have e2 := hxl.out; have e3 := hyl.out; rw [List.length_append, X6.out.1, Y6.out.1] at e1; omega)
  refine (New_any w8 A8 n8 c8 _ t8.bys (by have := hl8.out; omega)).mono ?_
  rintro e wa ⟨g9, h9, rfl, RDa, hg9, hh9, ba⟩
  have b68 := hide (Below.then_ t8.below ba)
  have hsza := hide (show w.heap.size + 2 ≤ g9 ∧ w.heap.size + 2 ≤ h9 by have := t8.below.size; have := hsz6.out; omega)
  have RDlt := hide RDa.lt
  obtain ⟨q, hq⟩ : ∃ q, q = wa.heap.size := ⟨_, rfl⟩
  obtain ⟨k, SCa, hk⟩ := scan_new w wa A n c bs HB.out hc.out (by omega) (Below.then_ B6.out b68.out)
  obtain ⟨w9, hw9⟩ : ∃ w9, w9 = wa.alloc (.cells #[.slice A n c, .int .i64 0] 55) := ⟨_, rfl⟩
  have ba9 := hide (show Below wa.heap.size wa w9 by rw [hw9]; exact below_alloc (Below.refl _ _) _)
  rw [← hw9, ← hq] at SCa
  rw [← hq] at hk
  have SC9 := hide SCa
  have RD9 := hide (RDa.below ba9.out)
  have b69 := hide (Below.then_ b68.out ba9.out)
  have R9 := hide (Blk.under R6.out b69.out)
  have O9 := hide (Blk.under O6.out b69.out)
  have OF9 := hide (OF6.out.below b69.out)
  have B9 := hide (Below.then_ B6.out b69.out)
  have hlt9 := hide (show g9 < q ∧ h9 < q by rw [hq]; exact RDlt.out)
  have hqw := hide (show w.heap.size + 2 ≤ q by have := hlt9.out; have := hsza.out; omega)
  have hk9 := hide hk
  have hgR := hide (show ¬ w.heap.size = g9 by have := hsza.out; omega)
  have hgO := hide (show ¬ w.heap.size + 1 = g9 by have := hsza.out; omega)
  have hsq9 := hide (show q < w9.heap.size by rw [hw9, hq]; simp [World.size_alloc])
  clear t7 f7 t8 f8 RDa SCa ba b68 b69 X6 Y6 R6 O6 OF6 B6 hsz6 hxl hyl hk hl8 hg9 hh9 RDlt
  go_wp2_with fail
  rw [← hw9, ← hq]
  clear hw9 hq ba9
  by_cases hl : (on : Int) ≤ 2000
  · have hob := hide (show Rd.out ⟨(OutV.d ⟨ov, oA, on, oc, ob⟩).bytes, 0⟩ = (OutV.d ⟨ov, oA, on, oc, ob⟩, ⟨[], 0⟩) by
      have h1 := out_back (OutV.d ⟨ov, oA, on, oc, ob⟩) [] OF9.out.v.1 OF9.out.v.2 (by have := OF9.out.bys.1; simp only [OutV.d] at this ⊢; omega)
      rwa [List.append_nil] at h1)
    have hneq := hide (fun w => neqRef_run r r hr.out hr.out w)
    have hneq' : ∀ w, (neqRef (.agg r.cells.toArray) (.agg r.cells.toArray)).run Try.prog w = .ok (.bool false) w := fun w => by rw [hneq.out w]; simp
    refine wp_region_held_drew (S := fun w' => Only (fun i => i = g9) w9 w') (by kernel_rfl) (by exact (Only.refl _ _).drew) (fun hSC0 => ?_)
    obtain ⟨w9d, hwC⟩ : ∃ x, x = w9.drew := ⟨_, rfl⟩
    rw [← hwC] at hSC0 ⊢
    have hDC : Below w9.heap.size w9 w9d := by rw [hwC]; exact (Below.refl _ _).drew
    clear hwC
    (refine wpAnyH_take (i := 0) (oi := { dst := some 56, op := Go.Op.move (Go.Operand.tmp 9), type := 51, pos := "law.go:60", after := #[], guard := none }) (v := ?_) rfl (by kernel_rfl) (by kernel_rfl) (by kernel_rfl) (fun _ _ _ h => h) (Or.inl ⟨by rfl, fun w' hSw => ?_⟩) hSC0 ?_; rotate_left; focus (go_simp; try with_reducible rfl))
    simp only [Act.put, List.setIfInBounds_toArray, List.set_cons_zero, List.set_cons_succ]
    (refine wpAnyH_take (i := 2) (oi := { dst := some 58, op := Go.Op.load 47 (Go.Operand.tmp 3), type := 47, pos := "law.go:60", after := #[], guard := none }) (v := ?_) rfl (by kernel_rfl) (by kernel_rfl) (by kernel_rfl) (fun _ _ _ h => h) (Or.inl ⟨by rfl, fun w' hSw => ?_⟩) hSC0 ?_; rotate_left; focus (have lr := loadRef_run w' w.heap.size 0 r (range_only R9.out.whole hSw hgR.out) hr.out; go_simp; try with_reducible rfl))
    simp only [Act.put, List.setIfInBounds_toArray, List.set_cons_zero, List.set_cons_succ]
    refine wpAnyH_ready (rs := [1]) (by kernel_rfl) (by simp) ?_
    refine AllReadyH.cons rfl (fun K hK => ?_) AllReadyH.nil
    go_simp
    go_wp2_with (go_at_call 32; refine (RefRead_any w9d g9 h9 _ (RD9.out.below hDC)).mono ?_; rintro e w10 ⟨rfl, _, hR10, o10⟩; rw [ref_back r hr.out])
    refine hK.out _ _ (Only.trans hSC0 o10 (fun _ _ h => h)) (fun hSC1 => ?_)
    clear hK K
    (refine wpAnyH_take (i := 3) (oi := { dst := some 59, op := Go.Op.binOp Go.BinOp.neq 47 (Go.Operand.tmp 57) (Go.Operand.tmp 58) 47, type := 4, pos := "law.go:60", after := #[{ on := 1, ground := Go.Ground.data }, { on := 2, ground := Go.Ground.data }], guard := none }) (v := ?_) rfl (by kernel_rfl) (by kernel_rfl) (by kernel_rfl) (fun _ _ _ h => h) (Or.inl ⟨by rfl, fun w' hSw => ?_⟩) hSC1 ?_; rotate_left; focus (go_simp; try with_reducible rfl))
    simp only [Act.put, List.setIfInBounds_toArray, List.set_cons_zero, List.set_cons_succ]
    (refine wpAnyH_take (i := 4) (oi := { dst := some 60, op := Go.Op.move (Go.Operand.tmp 59), type := 4, pos := "law.go:60", after := #[{ on := 3, ground := Go.Ground.data }, { on := 1, ground := Go.Ground.chain }], guard := none }) (v := ?_) rfl (by kernel_rfl) (by kernel_rfl) (by kernel_rfl) (fun _ _ _ h => h) (Or.inl ⟨by rfl, fun w' hSw => ?_⟩) hSC1 ?_; rotate_left; focus (go_simp; try with_reducible rfl))
    simp only [Act.put, List.setIfInBounds_toArray, List.set_cons_zero, List.set_cons_succ]
    (refine wpAnyH_take (i := 5) (oi := { dst := some 61, op := Go.Op.fieldAddr 24 (Go.Operand.tmp 4) 1, type := 0, pos := "law.go:60", after := #[{ on := 4, ground := Go.Ground.guard }], guard := some (4, false) }) (v := ?_) rfl (by kernel_rfl) (by kernel_rfl) (by kernel_rfl) (fun _ _ _ h => h) (Or.inl ⟨by rfl, fun w' hSw => ?_⟩) hSC1 ?_; rotate_left; focus (go_simp; try with_reducible rfl))
    simp only [Act.put, List.setIfInBounds_toArray, List.set_cons_zero, List.set_cons_succ]
    (refine wpAnyH_take (i := 6) (oi := { dst := some 62, op := Go.Op.load 22 (Go.Operand.tmp 61), type := 22, pos := "law.go:60", after := #[{ on := 5, ground := Go.Ground.data }, { on := 4, ground := Go.Ground.guard }], guard := some (4, false) }) (v := ?_) rfl (by kernel_rfl) (by kernel_rfl) (by kernel_rfl) (fun _ _ _ h => h) (Or.inl ⟨by rfl, fun w' hSw => ?_⟩) hSC1 ?_; rotate_left; focus (have l0 := (Only.blk hSw O9.out hgO.out).c0; have l1 := (Only.blk hSw O9.out hgO.out).c1; go_simp; try with_reducible rfl))
    simp only [Act.put, List.setIfInBounds_toArray, List.set_cons_zero, List.set_cons_succ]
    (refine wpAnyH_take (i := 7) (oi := { dst := some 63, op := Go.Op.call { callee := Go.Callee.builtin Go.Builtin.len, args := #[Go.Operand.tmp 62], argTypes := #[22] }, type := 3, pos := "law.go:60", after := #[{ on := 6, ground := Go.Ground.data }, { on := 4, ground := Go.Ground.guard }], guard := some (4, false) }) (v := ?_) rfl (by kernel_rfl) (by kernel_rfl) (by kernel_rfl) (fun _ _ _ h => h) (Or.inl ⟨by rfl, fun w' hSw => ?_⟩) hSC1 ?_; rotate_left; focus (go_simp; try with_reducible rfl))
    simp only [Act.put, List.setIfInBounds_toArray, List.set_cons_zero, List.set_cons_succ]
    (refine wpAnyH_take (i := 8) (oi := { dst := some 64, op := Go.Op.binOp Go.BinOp.leq 3 (Go.Operand.tmp 63) (Go.Operand.const (Go.Value.int Go.IntKind.i64 2000)) 3, type := 4, pos := "law.go:60", after := #[{ on := 7, ground := Go.Ground.data }, { on := 4, ground := Go.Ground.guard }], guard := some (4, false) }) (v := ?_) rfl (by kernel_rfl) (by kernel_rfl) (by kernel_rfl) (fun _ _ _ h => h) (Or.inl ⟨by rfl, fun w' hSw => ?_⟩) hSC1 ?_; rotate_left; focus (go_simp; try with_reducible rfl))
    simp only [Act.put, List.setIfInBounds_toArray, List.set_cons_zero, List.set_cons_succ]
    (refine wpAnyH_take (i := 9) (oi := { dst := some 65, op := Go.Op.move (Go.Operand.tmp 64), type := 4, pos := "law.go:60", after := #[{ on := 8, ground := Go.Ground.data }, { on := 4, ground := Go.Ground.chain }, { on := 4, ground := Go.Ground.guard }], guard := some (4, false) }) (v := ?_) rfl (by kernel_rfl) (by kernel_rfl) (by kernel_rfl) (fun _ _ _ h => h) (Or.inl ⟨by rfl, fun w' hSw => ?_⟩) hSC1 ?_; rotate_left; focus (go_simp; try with_reducible rfl))
    simp only [Act.put, List.setIfInBounds_toArray, List.set_cons_zero, List.set_cons_succ]
    (refine wpAnyH_take (i := 10) (oi := { dst := some 66, op := Go.Op.move (Go.Operand.tmp 9), type := 51, pos := "law.go:60", after := #[{ on := 9, ground := Go.Ground.guard }], guard := some (9, true) }) (v := ?_) rfl (by kernel_rfl) (by kernel_rfl) (by kernel_rfl) (fun _ _ _ h => h) (Or.inl ⟨by rfl, fun w' hSw => ?_⟩) hSC1 ?_; rotate_left; focus (go_simp; try with_reducible rfl))
    simp only [Act.put, List.setIfInBounds_toArray, List.set_cons_zero, List.set_cons_succ]
    (refine wpAnyH_take (i := 12) (oi := { dst := some 68, op := Go.Op.load 24 (Go.Operand.tmp 4), type := 24, pos := "law.go:60", after := #[{ on := 9, ground := Go.Ground.guard }], guard := some (9, true) }) (v := ?_) rfl (by kernel_rfl) (by kernel_rfl) (by kernel_rfl) (fun _ _ _ h => h) (Or.inl ⟨by rfl, fun w' hSw => ?_⟩) hSC1 ?_; rotate_left; focus (have l0 := (Only.blk hSw O9.out hgO.out).c0; have l1 := (Only.blk hSw O9.out hgO.out).c1; go_simp; try with_reducible rfl))
    simp only [Act.put, List.setIfInBounds_toArray, List.set_cons_zero, List.set_cons_succ]
    refine wpAnyH_ready (rs := [11]) (by kernel_rfl) (by simp) ?_
    refine AllReadyH.cons rfl (fun K hK => ?_) AllReadyH.nil
    go_simp
    go_wp2_with (go_at_call 33; rw [ref_back r hr.out] at hR10; refine (OutRead_any w10 g9 h9 _ hR10).mono ?_; rintro e w11 ⟨⟨v11, A11, n11, c11, xs11⟩, rfl, hd11, F11, _, hR11, o11⟩)
    refine hK.out _ _ (Only.trans hSC1 o11 (fun _ _ h => h)) (fun hSC2 => ?_)
    clear hK K
    refine wpAnyH_ready (rs := [13]) (by kernel_rfl) (by simp) ?_
    refine AllReadyH.cons rfl (fun K hK => ?_) AllReadyH.nil
    go_simp
    have hR11' := hR11; rw [hob.out] at hd11 hR11'; have hR12 := hide (hR11'); go_wp2_with (go_at_call 30; refine (Same_any w11 ⟨v11, A11, n11, c11, xs11⟩ ⟨ov, oA, on, oc, ob⟩ F11 (OF9.out.only hSC2 (fun hn ad e h => by have h1 := hoA.out hn ad e; have h2 := hsza.out; have h3 : ad.block = g9 := h; omega))).mono ?_; rintro e w12 ⟨rfl, b12⟩; rw [hd11, out_refl]; have hR12 := hide (hR11'.below b12))
    refine hK.out _ _ (Only.trans hSC2 (Only.of_below b12 _) (fun _ _ h => h)) (fun hSC3 => ?_)
    clear hK K
    (refine wpAnyH_take (i := 14) (oi := { dst := some 70, op := Go.Op.unOp Go.UnOp.not 4 (Go.Operand.tmp 69), type := 4, pos := "law.go:60", after := #[{ on := 13, ground := Go.Ground.data }, { on := 9, ground := Go.Ground.guard }], guard := some (9, true) }) (v := ?_) rfl (by kernel_rfl) (by kernel_rfl) (by kernel_rfl) (fun _ _ _ h => h) (Or.inl ⟨by rfl, fun w' hSw => ?_⟩) hSC3 ?_; rotate_left; focus (go_simp; try with_reducible rfl))
    simp only [Act.put, List.setIfInBounds_toArray, List.set_cons_zero, List.set_cons_succ]
    (refine wpAnyH_take (i := 15) (oi := { dst := some 71, op := Go.Op.move (Go.Operand.tmp 70), type := 4, pos := "law.go:60", after := #[{ on := 14, ground := Go.Ground.data }, { on := 13, ground := Go.Ground.chain }, { on := 9, ground := Go.Ground.guard }], guard := some (9, true) }) (v := ?_) rfl (by kernel_rfl) (by kernel_rfl) (by kernel_rfl) (fun _ _ _ h => h) (Or.inl ⟨by rfl, fun w' hSw => ?_⟩) hSC3 ?_; rotate_left; focus (go_simp; try with_reducible rfl))
    simp only [Act.put, List.setIfInBounds_toArray, List.set_cons_zero, List.set_cons_succ]
    refine held_lex (k := 16) [{ dst := some 72, op := Go.Op.move (Go.Operand.tmp 9), type := 51, pos := "law.go:60", after := #[{ on := 15, ground := Go.Ground.guard }], guard := some (15, false) }, { dst := some 73, op := Go.Op.call { callee := Go.Callee.value (Go.Operand.func 34), args := #[Go.Operand.tmp 72], argTypes := #[51] }, type := 3, pos := "law.go:60", after := #[{ on := 16, ground := Go.Ground.data }, { on := 15, ground := Go.Ground.chain }, { on := 15, ground := Go.Ground.guard }], guard := some (15, false) }, { dst := some 74, op := Go.Op.binOp Go.BinOp.neq 3 (Go.Operand.tmp 73) (Go.Operand.const (Go.Value.int Go.IntKind.i64 0)) 3, type := 4, pos := "law.go:60", after := #[{ on := 17, ground := Go.Ground.data }, { on := 15, ground := Go.Ground.guard }], guard := some (15, false) }, { dst := some 75, op := Go.Op.pick (Go.Operand.tmp 71) (Go.Operand.const (Go.Value.bool true)) (Go.Operand.tmp 74), type := 4, pos := "law.go:60", after := #[{ on := 15, ground := Go.Ground.data }, { on := 18, ground := Go.Ground.data }, { on := 9, ground := Go.Ground.guard }], guard := some (9, true) }, { dst := some 76, op := Go.Op.move (Go.Operand.tmp 75), type := 4, pos := "law.go:60", after := #[{ on := 19, ground := Go.Ground.data }, { on := 17, ground := Go.Ground.chain }, { on := 9, ground := Go.Ground.guard }], guard := some (9, true) }, { dst := some 77, op := Go.Op.move (Go.Operand.tmp 9), type := 51, pos := "law.go:60", after := #[{ on := 20, ground := Go.Ground.guard }], guard := some (20, false) }, { dst := some 78, op := Go.Op.call { callee := Go.Callee.value (Go.Operand.func 35), args := #[Go.Operand.tmp 77], argTypes := #[51] }, type := 28, pos := "law.go:60", after := #[{ on := 21, ground := Go.Ground.data }, { on := 20, ground := Go.Ground.chain }, { on := 20, ground := Go.Ground.guard }], guard := some (20, false) }, { dst := some 79, op := Go.Op.binOp Go.BinOp.neq 28 (Go.Operand.tmp 78) (Go.Operand.const (Go.Value.int Go.IntKind.i64 0)) 28, type := 4, pos := "law.go:60", after := #[{ on := 22, ground := Go.Ground.data }, { on := 20, ground := Go.Ground.guard }], guard := some (20, false) }, { dst := some 80, op := Go.Op.pick (Go.Operand.tmp 76) (Go.Operand.const (Go.Value.bool true)) (Go.Operand.tmp 79), type := 4, pos := "law.go:60", after := #[{ on := 20, ground := Go.Ground.data }, { on := 23, ground := Go.Ground.data }, { on := 9, ground := Go.Ground.guard }], guard := some (9, true) }, { dst := some 81, op := Go.Op.pick (Go.Operand.tmp 65) (Go.Operand.tmp 80) (Go.Operand.const (Go.Value.bool false)), type := 4, pos := "law.go:60", after := #[{ on := 9, ground := Go.Ground.data }, { on := 24, ground := Go.Ground.data }, { on := 4, ground := Go.Ground.guard }], guard := some (4, false) }, { dst := some 82, op := Go.Op.pick (Go.Operand.tmp 60) (Go.Operand.const (Go.Value.bool true)) (Go.Operand.tmp 81), type := 4, pos := "law.go:60", after := #[{ on := 4, ground := Go.Ground.data }, { on := 25, ground := Go.Ground.data }], guard := none }] rfl (by kernel_rfl) (by kernel_rfl) (by kernel_rfl) (fun n => only_drewN hSC3 n) ?_
    iterate 11 quiet_step (first | (go_at_call 34; exact Calls.quiet_of_same ((Left_any _ g9 h9 ⟨[], 0⟩ (show RdAt 99 (World.drewN _ _) g9 h9 ⟨[], 0⟩ from hR12.out)).mono fun _ _ h => ⟨h.1, h.2.symm⟩)) | (go_at_call 35; exact Calls.quiet_of_same ((Err_any _ g9 h9 ⟨[], 0⟩ (show RdAt 99 (World.drewN _ _) g9 h9 ⟨[], 0⟩ from hR12.out)).mono fun _ _ h => ⟨h.1, h.2.symm⟩)))
    refine wpQuiet_nil ?_
    intro _ hw'
    obtain ⟨nq, hw''⟩ := hw'
    subst hw''
    obtain ⟨wE, hwE⟩ : ∃ wE, wE = World.drewN w12 nq := ⟨_, rfl⟩
    have hSE9 : Only (fun i => i = g9) w9 wE := by rw [hwE]; exact only_drewN hSC3 nq
    rw [← hwE]
    clear hwE hR12 hR11' hR11 hR10 o10 o11 b12 F11 hd11
    have BE := hide (Below.trans B9.out (hSE9.below B9.out.size (fun i hi e => by have := hsza.out; have h2 : i = g9 := e; omega)))
    have QE := hide (SC9.out.keep hSE9 (fun e => by have := hlt9.out; omega) (fun e => by have h1 := hlt9.out; have h2 := hk9.out; have h3 := hsza.out; have h4 : k = g9 := e; omega))
    have hsE := hide hSE9.size
    clear R9 O9 OF9 RD9 SC9
    go_wp2_with fail
    refine (New_any wE A n c bs (HB.out.below BE.out) (by omega)).mono ?_
    rintro e w13 ⟨gz, hz, rfl, RZ0, hgz, hhz, b13⟩
    have RZ := hide RZ0
    have QZ := hide (QE.out.below b13)
    have B13 := hide (Below.then_ BE.out b13)
    have hqz := hide (show q ≠ gz ∧ q ≠ hz ∧ k ≠ gz ∧ q < w13.heap.size by
      have h1 := hsE.out
      have h2 := hsq9.out
      have h3 := hk9.out
      have h4 := b13.size
      have h5 := BE.out.size
      have h6 := hqw.out
      omega)
    have hgzw := hide (show w.heap.size ≤ gz ∧ w.heap.size ≤ q by have h1 := BE.out.size; have h2 := hqw.out; omega)
    obtain ⟨D, r14, hD⟩ : ∃ D r14, Rd.ref ⟨bs, 0⟩ = (D, r14) := ⟨_, _, rfl⟩
    clear RZ0 hgz hhz
    go_wp2_with fail
    refine wp_region_held_drew (S := fun w' => Only (fun i => i = gz ∨ i = q) w13 w') (by kernel_rfl) (by exact (Only.refl _ _).drew) (fun hSE0 => ?_)
    obtain ⟨w13d, hwE⟩ : ∃ x, x = w13.drew := ⟨_, rfl⟩
    rw [← hwE] at hSE0 ⊢
    have hDE : Below w13.heap.size w13 w13d := by rw [hwE]; exact (Below.refl _ _).drew
    clear hwE
    (refine wpAnyH_take (i := 0) (oi := { dst := some 85, op := Go.Op.move (Go.Operand.tmp 11), type := 51, pos := "law.go:64", after := #[], guard := none }) (v := ?_) rfl (by kernel_rfl) (by kernel_rfl) (by kernel_rfl) (fun _ _ _ h => h) (Or.inl ⟨by rfl, fun w' hSw => ?_⟩) hSE0 ?_; rotate_left; focus (go_simp; try with_reducible rfl))
    simp only [Act.put, List.setIfInBounds_toArray, List.set_cons_zero, List.set_cons_succ]
    (refine wpAnyH_take (i := 2) (oi := { dst := some 87, op := Go.Op.move (Go.Operand.tmp 10), type := 53, pos := "law.go:64", after := #[], guard := none }) (v := ?_) rfl (by kernel_rfl) (by kernel_rfl) (by kernel_rfl) (fun _ _ _ h => h) (Or.inl ⟨by rfl, fun w' hSw => ?_⟩) hSE0 ?_; rotate_left; focus (go_simp; try with_reducible rfl))
    simp only [Act.put, List.setIfInBounds_toArray, List.set_cons_zero, List.set_cons_succ]
    refine wpAnyH_ready (rs := [1]) (by kernel_rfl) (by simp) ?_
    refine AllReadyH.cons rfl (fun K hK => ?_) AllReadyH.nil
    go_simp
    go_wp2_with (go_at_call 32; refine (RefRead_any w13d gz hz _ (RZ.out.below hDE)).mono ?_; rintro e w14 ⟨rfl, hFD, RZ14, o14⟩; rw [hD] at RZ14 hFD; rw [hD])
    refine hK.out _ _ (Only.trans hSE0 o14 (fun _ _ h => .inl h)) (fun hSE1 => ?_)
    clear hK K
    refine wpAnyH_ready (rs := [3]) (by kernel_rfl) (by simp) ?_
    refine AllReadyH.cons rfl (fun K hK => ?_) AllReadyH.nil
    go_simp
    go_wp2_with (go_at_call 36; refine (refRefRead_any w14 q k _ ((QZ.out.below hDE).keep o14 (fun e => hqz.out.1 e) (fun e => hqz.out.2.2.1 e))).mono ?_; rintro e w15 ⟨rfl, _, Q15, o15⟩; rw [hD] at Q15; rw [hD]); have RZ15 := hide (RZ14.keep o15 (fun e => hqz.out.1 e.symm) (fun e => hqz.out.2.1 e.symm)); have hnD : ∀ w, (neqRef (.agg D.cells.toArray) (.agg D.cells.toArray)).run Try.prog w = .ok (.bool false) w := fun w => by { rw [neqRef_run D D hFD hFD w]; simp }; have HQ15 := hide Q15; obtain ⟨AQ, nQ, cQ, bQ, BQ, cQ', aQ, kQ, mQ⟩ := Q15; have q0 := bQ.c0; have q1 := bQ.c1; have hlQ := hide BQ.1; have hlQ' : (r14.rest.length : Int) = (nQ : Int) := (by rw [hlQ.out])
    refine hK.out _ _ (Only.trans hSE1 o15 (fun _ _ h => .inr h)) (fun hSE2 => ?_)
    clear hK K
    (refine wpAnyH_take (i := 4) (oi := { dst := some 89, op := Go.Op.binOp Go.BinOp.neq 47 (Go.Operand.tmp 86) (Go.Operand.tmp 88) 47, type := 4, pos := "law.go:64", after := #[{ on := 1, ground := Go.Ground.data }, { on := 3, ground := Go.Ground.data }], guard := none }) (v := ?_) rfl (by kernel_rfl) (by kernel_rfl) (by kernel_rfl) (fun _ _ _ h => h) (Or.inl ⟨by rfl, fun w' hSw => ?_⟩) hSE2 ?_; rotate_left; focus (go_simp; try with_reducible rfl))
    simp only [Act.put, List.setIfInBounds_toArray, List.set_cons_zero, List.set_cons_succ]
    (refine wpAnyH_take (i := 5) (oi := { dst := some 90, op := Go.Op.move (Go.Operand.tmp 89), type := 4, pos := "law.go:64", after := #[{ on := 4, ground := Go.Ground.data }, { on := 3, ground := Go.Ground.chain }], guard := none }) (v := ?_) rfl (by kernel_rfl) (by kernel_rfl) (by kernel_rfl) (fun _ _ _ h => h) (Or.inl ⟨by rfl, fun w' hSw => ?_⟩) hSE2 ?_; rotate_left; focus (go_simp; try with_reducible rfl))
    simp only [Act.put, List.setIfInBounds_toArray, List.set_cons_zero, List.set_cons_succ]
    refine held_lex (k := 6) [{ dst := some 91, op := Go.Op.move (Go.Operand.tmp 11), type := 51, pos := "law.go:64", after := #[{ on := 5, ground := Go.Ground.guard }], guard := some (5, false) }, { dst := some 92, op := Go.Op.call { callee := Go.Callee.value (Go.Operand.func 35), args := #[Go.Operand.tmp 91], argTypes := #[51] }, type := 28, pos := "law.go:64", after := #[{ on := 6, ground := Go.Ground.data }, { on := 5, ground := Go.Ground.chain }, { on := 5, ground := Go.Ground.guard }], guard := some (5, false) }, { dst := some 93, op := Go.Op.move (Go.Operand.tmp 10), type := 53, pos := "law.go:64", after := #[{ on := 5, ground := Go.Ground.guard }], guard := some (5, false) }, { dst := some 94, op := Go.Op.nilCheck (Go.Operand.tmp 93), type := 0, pos := "law.go:64", after := #[{ on := 8, ground := Go.Ground.data }, { on := 5, ground := Go.Ground.guard }], guard := some (5, false) }, { dst := some 95, op := Go.Op.fieldAddr 55 (Go.Operand.tmp 94) 1, type := 0, pos := "law.go:64", after := #[{ on := 9, ground := Go.Ground.data }, { on := 5, ground := Go.Ground.guard }], guard := some (5, false) }, { dst := some 96, op := Go.Op.load 3 (Go.Operand.tmp 95), type := 3, pos := "law.go:64", after := #[{ on := 10, ground := Go.Ground.data }, { on := 5, ground := Go.Ground.guard }], guard := some (5, false) }, { dst := some 97, op := Go.Op.binOp Go.BinOp.neq 3 (Go.Operand.tmp 92) (Go.Operand.tmp 96) 3, type := 4, pos := "law.go:64", after := #[{ on := 7, ground := Go.Ground.data }, { on := 11, ground := Go.Ground.data }, { on := 5, ground := Go.Ground.guard }], guard := some (5, false) }, { dst := some 98, op := Go.Op.pick (Go.Operand.tmp 90) (Go.Operand.const (Go.Value.bool true)) (Go.Operand.tmp 97), type := 4, pos := "law.go:64", after := #[{ on := 5, ground := Go.Ground.data }, { on := 12, ground := Go.Ground.data }], guard := none }, { dst := some 99, op := Go.Op.move (Go.Operand.tmp 98), type := 4, pos := "law.go:64", after := #[{ on := 13, ground := Go.Ground.data }, { on := 7, ground := Go.Ground.chain }], guard := none }, { dst := some 100, op := Go.Op.move (Go.Operand.tmp 11), type := 51, pos := "law.go:64", after := #[{ on := 14, ground := Go.Ground.guard }], guard := some (14, false) }, { dst := some 101, op := Go.Op.call { callee := Go.Callee.value (Go.Operand.func 34), args := #[Go.Operand.tmp 100], argTypes := #[51] }, type := 3, pos := "law.go:64", after := #[{ on := 15, ground := Go.Ground.data }, { on := 14, ground := Go.Ground.chain }, { on := 14, ground := Go.Ground.guard }], guard := some (14, false) }, { dst := some 102, op := Go.Op.move (Go.Operand.tmp 10), type := 53, pos := "law.go:64", after := #[{ on := 14, ground := Go.Ground.guard }], guard := some (14, false) }, { dst := some 103, op := Go.Op.nilCheck (Go.Operand.tmp 102), type := 0, pos := "law.go:64", after := #[{ on := 17, ground := Go.Ground.data }, { on := 14, ground := Go.Ground.guard }], guard := some (14, false) }, { dst := some 104, op := Go.Op.fieldAddr 55 (Go.Operand.tmp 103) 0, type := 0, pos := "law.go:64", after := #[{ on := 18, ground := Go.Ground.data }, { on := 14, ground := Go.Ground.guard }], guard := some (14, false) }, { dst := some 105, op := Go.Op.load 22 (Go.Operand.tmp 104), type := 22, pos := "law.go:64", after := #[{ on := 19, ground := Go.Ground.data }, { on := 14, ground := Go.Ground.guard }], guard := some (14, false) }, { dst := some 106, op := Go.Op.call { callee := Go.Callee.builtin Go.Builtin.len, args := #[Go.Operand.tmp 105], argTypes := #[22] }, type := 3, pos := "law.go:64", after := #[{ on := 20, ground := Go.Ground.data }, { on := 14, ground := Go.Ground.guard }], guard := some (14, false) }, { dst := some 107, op := Go.Op.binOp Go.BinOp.neq 3 (Go.Operand.tmp 101) (Go.Operand.tmp 106) 3, type := 4, pos := "law.go:64", after := #[{ on := 16, ground := Go.Ground.data }, { on := 21, ground := Go.Ground.data }, { on := 14, ground := Go.Ground.guard }], guard := some (14, false) }, { dst := some 108, op := Go.Op.pick (Go.Operand.tmp 99) (Go.Operand.const (Go.Value.bool true)) (Go.Operand.tmp 107), type := 4, pos := "law.go:64", after := #[{ on := 14, ground := Go.Ground.data }, { on := 22, ground := Go.Ground.data }], guard := none }] rfl (by kernel_rfl) (by kernel_rfl) (by kernel_rfl) (fun n => only_drewN hSE2 n) ?_
    iterate 18 quiet_step (first | (go_at_call 34; exact Calls.quiet_of_same ((Left_any _ gz hz r14 (show RdAt 99 (World.drewN _ _) gz hz r14 from RZ15.out)).mono fun _ _ h => ⟨h.1, h.2.symm⟩)) | (go_at_call 35; exact Calls.quiet_of_same ((Err_any _ gz hz r14 (show RdAt 99 (World.drewN _ _) gz hz r14 from RZ15.out)).mono fun _ _ h => ⟨h.1, h.2.symm⟩)))
    refine wpQuiet_nil ?_
    intro _ hw'
    obtain ⟨nq, hw''⟩ := hw'
    subst hw''
    obtain ⟨w16, hw16⟩ : ∃ w16, w16 = World.drewN w15 nq := ⟨_, rfl⟩
    have hS16 : Only (fun i => i = gz ∨ i = q) w13 w16 := by rw [hw16]; exact only_drewN hSE2 nq
    have RZ16 := hide (show RdAt 99 w16 gz hz r14 by rw [hw16]; exact RZ15.out)
    have Q16 := hide (show RdAt 55 w16 q k r14 by rw [hw16]; exact HQ15.out)
    have B16 := hide (Below.trans B13.out (hS16.below B13.out.size (fun i hi e => by have h1 := hgzw.out; rcases e with h | h <;> omega)))
    have hq16 := hide (show q < w16.heap.size from Nat.lt_of_lt_of_le hqz.out.2.2.2 hS16.size)
    rw [← hw16]
    clear hw16 RZ15 RZ14 hnD HQ15 bQ BQ cQ' aQ kQ mQ q0 q1 hlQ hlQ' o14 o15 hFD RZ QZ hS16
    obtain ⟨E, r17, hD2⟩ : ∃ E r17, Rd.out r14 = (E, r17) := ⟨_, _, rfl⟩
    go_wp2_with fail
    refine wp_region_held_drew (S := fun w' => Only (fun i => i = gz ∨ i = q) w16 w') (by kernel_rfl) (by exact (Only.refl _ _).drew) (fun hSG0 => ?_)
    obtain ⟨w16d, hwG⟩ : ∃ x, x = w16.drew := ⟨_, rfl⟩
    rw [← hwG] at hSG0 ⊢
    have hDG : Below w16.heap.size w16 w16d := by rw [hwG]; exact (Below.refl _ _).drew
    clear hwG
    (refine wpAnyH_take (i := 0) (oi := { dst := some 109, op := Go.Op.move (Go.Operand.tmp 11), type := 51, pos := "law.go:67", after := #[], guard := none }) (v := ?_) rfl (by kernel_rfl) (by kernel_rfl) (by kernel_rfl) (fun _ _ _ h => h) (Or.inl ⟨by rfl, fun w' hSw => ?_⟩) hSG0 ?_; rotate_left; focus (go_simp; try with_reducible rfl))
    simp only [Act.put, List.setIfInBounds_toArray, List.set_cons_zero, List.set_cons_succ]
    (refine wpAnyH_take (i := 2) (oi := { dst := some 111, op := Go.Op.move (Go.Operand.tmp 10), type := 53, pos := "law.go:67", after := #[], guard := none }) (v := ?_) rfl (by kernel_rfl) (by kernel_rfl) (by kernel_rfl) (fun _ _ _ h => h) (Or.inl ⟨by rfl, fun w' hSw => ?_⟩) hSG0 ?_; rotate_left; focus (go_simp; try with_reducible rfl))
    simp only [Act.put, List.setIfInBounds_toArray, List.set_cons_zero, List.set_cons_succ]
    refine wpAnyH_ready (rs := [1]) (by kernel_rfl) (by simp) ?_
    refine AllReadyH.cons rfl (fun K hK => ?_) AllReadyH.nil
    go_simp
    go_wp2_with (go_at_call 33; refine (OutRead_any w16d gz hz _ (RZ16.out.below hDG)).mono ?_; rintro e w17 ⟨⟨v17, A17, n17, c17, xs17⟩, rfl, hd17, F17, Fr17, RZ17, o17⟩; rw [hD2] at RZ17 hd17)
    refine hK.out _ _ (Only.trans hSG0 o17 (fun _ _ h => .inl h)) (fun hSG1 => ?_)
    clear hK K
    refine wpAnyH_ready (rs := [3]) (by kernel_rfl) (by simp) ?_
    refine AllReadyH.cons rfl (fun K hK => ?_) AllReadyH.nil
    go_simp
    go_wp2_with (go_at_call 38; refine (refOutRead_any w17 q k _ ((Q16.out.below hDG).keep o17 (fun e => hqz.out.1 e) (fun e => hqz.out.2.2.1 e))).mono ?_; rintro e w18 ⟨⟨v18, A18, n18, c18, xs18⟩, rfl, hd18, F18, Fr18, Q18, o18⟩; rw [hD2] at Q18 hd18); have RZ18 := hide (RZ17.keep o18 (fun e => hqz.out.1 e.symm) (fun e => hqz.out.2.1 e.symm)); have F17' := F17.only o18 (fun _ ad e h => (by have h1 := Fr17 ad e; have h2 : ad.block = q := h; have h3 := hDG.size; have h4 := hq16.out; omega))
    refine hK.out _ _ (Only.trans hSG1 o18 (fun _ _ h => .inr h)) (fun hSG2 => ?_)
    clear hK K
    refine wpAnyH_ready (rs := [4]) (by kernel_rfl) (by simp) ?_
    refine AllReadyH.cons rfl (fun K hK => ?_) AllReadyH.nil
    go_simp
    go_wp2_with (go_at_call 37; refine (refSame_any w18 ⟨v17, A17, n17, c17, xs17⟩ ⟨v18, A18, n18, c18, xs18⟩ F17' F18).mono ?_; rintro e w19 ⟨rfl, b19⟩; rw [hd17, hd18, out_refl]); have RZ15 := hide (RZ18.out.below b19); have Q19 := Q18.below b19; obtain ⟨AQ, nQ, cQ, bQ, BQ, cQ', aQ, kQ, mQ⟩ := Q19; have q0 := bQ.c0; have q1 := bQ.c1; have hlQ := hide BQ.1; have hlQ' : (r17.rest.length : Int) = (nQ : Int) := (by rw [hlQ.out])
    refine hK.out _ _ (Only.trans hSG2 (Only.of_below b19 _) (fun _ _ h => h)) (fun hSG3 => ?_)
    clear hK K
    (refine wpAnyH_take (i := 5) (oi := { dst := some 114, op := Go.Op.move (Go.Operand.tmp 113), type := 4, pos := "law.go:67", after := #[{ on := 4, ground := Go.Ground.data }, { on := 4, ground := Go.Ground.chain }], guard := none }) (v := ?_) rfl (by kernel_rfl) (by kernel_rfl) (by kernel_rfl) (fun _ _ _ h => h) (Or.inl ⟨by rfl, fun w' hSw => ?_⟩) hSG3 ?_; rotate_left; focus (go_simp; try with_reducible rfl))
    simp only [Act.put, List.setIfInBounds_toArray, List.set_cons_zero, List.set_cons_succ]
    refine held_lex (k := 6) [{ dst := some 115, op := Go.Op.move (Go.Operand.tmp 11), type := 51, pos := "law.go:67", after := #[{ on := 5, ground := Go.Ground.guard }], guard := some (5, true) }, { dst := some 116, op := Go.Op.call { callee := Go.Callee.value (Go.Operand.func 35), args := #[Go.Operand.tmp 115], argTypes := #[51] }, type := 28, pos := "law.go:67", after := #[{ on := 6, ground := Go.Ground.data }, { on := 5, ground := Go.Ground.chain }, { on := 5, ground := Go.Ground.guard }], guard := some (5, true) }, { dst := some 117, op := Go.Op.move (Go.Operand.tmp 10), type := 53, pos := "law.go:67", after := #[{ on := 5, ground := Go.Ground.guard }], guard := some (5, true) }, { dst := some 118, op := Go.Op.nilCheck (Go.Operand.tmp 117), type := 0, pos := "law.go:67", after := #[{ on := 8, ground := Go.Ground.data }, { on := 5, ground := Go.Ground.guard }], guard := some (5, true) }, { dst := some 119, op := Go.Op.fieldAddr 55 (Go.Operand.tmp 118) 1, type := 0, pos := "law.go:67", after := #[{ on := 9, ground := Go.Ground.data }, { on := 5, ground := Go.Ground.guard }], guard := some (5, true) }, { dst := some 120, op := Go.Op.load 3 (Go.Operand.tmp 119), type := 3, pos := "law.go:67", after := #[{ on := 10, ground := Go.Ground.data }, { on := 5, ground := Go.Ground.guard }], guard := some (5, true) }, { dst := some 121, op := Go.Op.binOp Go.BinOp.eql 3 (Go.Operand.tmp 116) (Go.Operand.tmp 120) 3, type := 4, pos := "law.go:67", after := #[{ on := 7, ground := Go.Ground.data }, { on := 11, ground := Go.Ground.data }, { on := 5, ground := Go.Ground.guard }], guard := some (5, true) }, { dst := some 122, op := Go.Op.pick (Go.Operand.tmp 114) (Go.Operand.tmp 121) (Go.Operand.const (Go.Value.bool false)), type := 4, pos := "law.go:67", after := #[{ on := 5, ground := Go.Ground.data }, { on := 12, ground := Go.Ground.data }], guard := none }, { dst := some 123, op := Go.Op.move (Go.Operand.tmp 122), type := 4, pos := "law.go:67", after := #[{ on := 13, ground := Go.Ground.data }, { on := 7, ground := Go.Ground.chain }], guard := none }, { dst := some 124, op := Go.Op.move (Go.Operand.tmp 11), type := 51, pos := "law.go:67", after := #[{ on := 14, ground := Go.Ground.guard }], guard := some (14, true) }, { dst := some 125, op := Go.Op.call { callee := Go.Callee.value (Go.Operand.func 34), args := #[Go.Operand.tmp 124], argTypes := #[51] }, type := 3, pos := "law.go:67", after := #[{ on := 15, ground := Go.Ground.data }, { on := 14, ground := Go.Ground.chain }, { on := 14, ground := Go.Ground.guard }], guard := some (14, true) }, { dst := some 126, op := Go.Op.move (Go.Operand.tmp 10), type := 53, pos := "law.go:67", after := #[{ on := 14, ground := Go.Ground.guard }], guard := some (14, true) }, { dst := some 127, op := Go.Op.nilCheck (Go.Operand.tmp 126), type := 0, pos := "law.go:67", after := #[{ on := 17, ground := Go.Ground.data }, { on := 14, ground := Go.Ground.guard }], guard := some (14, true) }, { dst := some 128, op := Go.Op.fieldAddr 55 (Go.Operand.tmp 127) 0, type := 0, pos := "law.go:67", after := #[{ on := 18, ground := Go.Ground.data }, { on := 14, ground := Go.Ground.guard }], guard := some (14, true) }, { dst := some 129, op := Go.Op.load 22 (Go.Operand.tmp 128), type := 22, pos := "law.go:67", after := #[{ on := 19, ground := Go.Ground.data }, { on := 14, ground := Go.Ground.guard }], guard := some (14, true) }, { dst := some 130, op := Go.Op.call { callee := Go.Callee.builtin Go.Builtin.len, args := #[Go.Operand.tmp 129], argTypes := #[22] }, type := 3, pos := "law.go:67", after := #[{ on := 20, ground := Go.Ground.data }, { on := 14, ground := Go.Ground.guard }], guard := some (14, true) }, { dst := some 131, op := Go.Op.binOp Go.BinOp.eql 3 (Go.Operand.tmp 125) (Go.Operand.tmp 130) 3, type := 4, pos := "law.go:67", after := #[{ on := 16, ground := Go.Ground.data }, { on := 21, ground := Go.Ground.data }, { on := 14, ground := Go.Ground.guard }], guard := some (14, true) }, { dst := some 132, op := Go.Op.pick (Go.Operand.tmp 123) (Go.Operand.tmp 131) (Go.Operand.const (Go.Value.bool false)), type := 4, pos := "law.go:67", after := #[{ on := 14, ground := Go.Ground.data }, { on := 22, ground := Go.Ground.data }], guard := none }, { dst := some 6, op := Go.Op.assign (Go.Operand.tmp 132), type := 4, pos := "law.go:67", after := #[{ on := 23, ground := Go.Ground.data }, { on := 16, ground := Go.Ground.chain }, { on := 0, ground := Go.Ground.phase }, { on := 1, ground := Go.Ground.phase }, { on := 2, ground := Go.Ground.phase }, { on := 3, ground := Go.Ground.phase }, { on := 4, ground := Go.Ground.phase }, { on := 5, ground := Go.Ground.phase }, { on := 6, ground := Go.Ground.phase }, { on := 7, ground := Go.Ground.phase }, { on := 8, ground := Go.Ground.phase }, { on := 9, ground := Go.Ground.phase }, { on := 10, ground := Go.Ground.phase }, { on := 11, ground := Go.Ground.phase }, { on := 12, ground := Go.Ground.phase }, { on := 13, ground := Go.Ground.phase }, { on := 14, ground := Go.Ground.phase }, { on := 15, ground := Go.Ground.phase }, { on := 16, ground := Go.Ground.phase }, { on := 17, ground := Go.Ground.phase }, { on := 18, ground := Go.Ground.phase }, { on := 19, ground := Go.Ground.phase }, { on := 20, ground := Go.Ground.phase }, { on := 21, ground := Go.Ground.phase }, { on := 22, ground := Go.Ground.phase }, { on := 23, ground := Go.Ground.phase }], guard := none }] rfl (by kernel_rfl) (by kernel_rfl) (by kernel_rfl) (fun n => only_drewN hSG3 n) ?_
    iterate 19 quiet_step (first | (go_at_call 34; exact Calls.quiet_of_same ((Left_any _ gz hz r17 (show RdAt 99 (World.drewN _ _) gz hz r17 from RZ15.out)).mono fun _ _ h => ⟨h.1, h.2.symm⟩)) | (go_at_call 35; exact Calls.quiet_of_same ((Err_any _ gz hz r17 (show RdAt 99 (World.drewN _ _) gz hz r17 from RZ15.out)).mono fun _ _ h => ⟨h.1, h.2.symm⟩)))
    refine wpQuiet_nil ?_
    intro _ hw'
    obtain ⟨nq, hw''⟩ := hw'
    subst hw''
    have hfin := hide (Below.trans B16.out ((only_drewN hSG3 nq).below B16.out.size (fun i hi e => by have h1 := hgzw.out; rcases e with h | h <;> omega)))
    go_wp2_with fail
    go_ret
    exact ⟨rfl, hfin.out⟩
  · have hl' : 2000 < (on : Int) := by omega
    have hld : decide ((on : Int) ≤ 2000) = false := decide_eq_false hl
    clear hl
    have hneq := hide (fun w => neqRef_run r r hr.out hr.out w)
    have hneq' : ∀ w, (neqRef (.agg r.cells.toArray) (.agg r.cells.toArray)).run Try.prog w = .ok (.bool false) w := fun w => by rw [hneq.out w]; simp
    refine wp_region_held_drew (S := fun w' => Only (fun i => i = g9) w9 w') (by kernel_rfl) (by exact (Only.refl _ _).drew) (fun hSC0 => ?_)
    obtain ⟨w9d, hwC⟩ : ∃ x, x = w9.drew := ⟨_, rfl⟩
    rw [← hwC] at hSC0 ⊢
    have hDC : Below w9.heap.size w9 w9d := by rw [hwC]; exact (Below.refl _ _).drew
    clear hwC
    (refine wpAnyH_take (i := 0) (oi := { dst := some 56, op := Go.Op.move (Go.Operand.tmp 9), type := 51, pos := "law.go:60", after := #[], guard := none }) (v := ?_) rfl (by kernel_rfl) (by kernel_rfl) (by kernel_rfl) (fun _ _ _ h => h) (Or.inl ⟨by rfl, fun w' hSw => ?_⟩) hSC0 ?_; rotate_left; focus (go_simp; try with_reducible rfl))
    simp only [Act.put, List.setIfInBounds_toArray, List.set_cons_zero, List.set_cons_succ]
    (refine wpAnyH_take (i := 2) (oi := { dst := some 58, op := Go.Op.load 47 (Go.Operand.tmp 3), type := 47, pos := "law.go:60", after := #[], guard := none }) (v := ?_) rfl (by kernel_rfl) (by kernel_rfl) (by kernel_rfl) (fun _ _ _ h => h) (Or.inl ⟨by rfl, fun w' hSw => ?_⟩) hSC0 ?_; rotate_left; focus (have lr := loadRef_run w' w.heap.size 0 r (range_only R9.out.whole hSw hgR.out) hr.out; go_simp; try with_reducible rfl))
    simp only [Act.put, List.setIfInBounds_toArray, List.set_cons_zero, List.set_cons_succ]
    refine wpAnyH_ready (rs := [1]) (by kernel_rfl) (by simp) ?_
    refine AllReadyH.cons rfl (fun K hK => ?_) AllReadyH.nil
    go_simp
    go_wp2_with (go_at_call 32; refine (RefRead_any w9d g9 h9 _ (RD9.out.below hDC)).mono ?_; rintro e w10 ⟨rfl, _, hR10, o10⟩; rw [ref_back r hr.out])
    refine hK.out _ _ (Only.trans hSC0 o10 (fun _ _ h => h)) (fun hSC1 => ?_)
    clear hK K
    (refine wpAnyH_take (i := 3) (oi := { dst := some 59, op := Go.Op.binOp Go.BinOp.neq 47 (Go.Operand.tmp 57) (Go.Operand.tmp 58) 47, type := 4, pos := "law.go:60", after := #[{ on := 1, ground := Go.Ground.data }, { on := 2, ground := Go.Ground.data }], guard := none }) (v := ?_) rfl (by kernel_rfl) (by kernel_rfl) (by kernel_rfl) (fun _ _ _ h => h) (Or.inl ⟨by rfl, fun w' hSw => ?_⟩) hSC1 ?_; rotate_left; focus (go_simp; try with_reducible rfl))
    simp only [Act.put, List.setIfInBounds_toArray, List.set_cons_zero, List.set_cons_succ]
    (refine wpAnyH_take (i := 4) (oi := { dst := some 60, op := Go.Op.move (Go.Operand.tmp 59), type := 4, pos := "law.go:60", after := #[{ on := 3, ground := Go.Ground.data }, { on := 1, ground := Go.Ground.chain }], guard := none }) (v := ?_) rfl (by kernel_rfl) (by kernel_rfl) (by kernel_rfl) (fun _ _ _ h => h) (Or.inl ⟨by rfl, fun w' hSw => ?_⟩) hSC1 ?_; rotate_left; focus (go_simp; try with_reducible rfl))
    simp only [Act.put, List.setIfInBounds_toArray, List.set_cons_zero, List.set_cons_succ]
    (refine wpAnyH_take (i := 5) (oi := { dst := some 61, op := Go.Op.fieldAddr 24 (Go.Operand.tmp 4) 1, type := 0, pos := "law.go:60", after := #[{ on := 4, ground := Go.Ground.guard }], guard := some (4, false) }) (v := ?_) rfl (by kernel_rfl) (by kernel_rfl) (by kernel_rfl) (fun _ _ _ h => h) (Or.inl ⟨by rfl, fun w' hSw => ?_⟩) hSC1 ?_; rotate_left; focus (go_simp; try with_reducible rfl))
    simp only [Act.put, List.setIfInBounds_toArray, List.set_cons_zero, List.set_cons_succ]
    (refine wpAnyH_take (i := 6) (oi := { dst := some 62, op := Go.Op.load 22 (Go.Operand.tmp 61), type := 22, pos := "law.go:60", after := #[{ on := 5, ground := Go.Ground.data }, { on := 4, ground := Go.Ground.guard }], guard := some (4, false) }) (v := ?_) rfl (by kernel_rfl) (by kernel_rfl) (by kernel_rfl) (fun _ _ _ h => h) (Or.inl ⟨by rfl, fun w' hSw => ?_⟩) hSC1 ?_; rotate_left; focus (have l0 := (Only.blk hSw O9.out hgO.out).c0; have l1 := (Only.blk hSw O9.out hgO.out).c1; go_simp; try with_reducible rfl))
    simp only [Act.put, List.setIfInBounds_toArray, List.set_cons_zero, List.set_cons_succ]
    (refine wpAnyH_take (i := 7) (oi := { dst := some 63, op := Go.Op.call { callee := Go.Callee.builtin Go.Builtin.len, args := #[Go.Operand.tmp 62], argTypes := #[22] }, type := 3, pos := "law.go:60", after := #[{ on := 6, ground := Go.Ground.data }, { on := 4, ground := Go.Ground.guard }], guard := some (4, false) }) (v := ?_) rfl (by kernel_rfl) (by kernel_rfl) (by kernel_rfl) (fun _ _ _ h => h) (Or.inl ⟨by rfl, fun w' hSw => ?_⟩) hSC1 ?_; rotate_left; focus (go_simp; try with_reducible rfl))
    simp only [Act.put, List.setIfInBounds_toArray, List.set_cons_zero, List.set_cons_succ]
    (refine wpAnyH_take (i := 8) (oi := { dst := some 64, op := Go.Op.binOp Go.BinOp.leq 3 (Go.Operand.tmp 63) (Go.Operand.const (Go.Value.int Go.IntKind.i64 2000)) 3, type := 4, pos := "law.go:60", after := #[{ on := 7, ground := Go.Ground.data }, { on := 4, ground := Go.Ground.guard }], guard := some (4, false) }) (v := ?_) rfl (by kernel_rfl) (by kernel_rfl) (by kernel_rfl) (fun _ _ _ h => h) (Or.inl ⟨by rfl, fun w' hSw => ?_⟩) hSC1 ?_; rotate_left; focus (go_simp; try with_reducible rfl))
    simp only [Act.put, List.setIfInBounds_toArray, List.set_cons_zero, List.set_cons_succ]
    (refine wpAnyH_take (i := 9) (oi := { dst := some 65, op := Go.Op.move (Go.Operand.tmp 64), type := 4, pos := "law.go:60", after := #[{ on := 8, ground := Go.Ground.data }, { on := 4, ground := Go.Ground.chain }, { on := 4, ground := Go.Ground.guard }], guard := some (4, false) }) (v := ?_) rfl (by kernel_rfl) (by kernel_rfl) (by kernel_rfl) (fun _ _ _ h => h) (Or.inl ⟨by rfl, fun w' hSw => ?_⟩) hSC1 ?_; rotate_left; focus (go_simp; try with_reducible rfl))
    simp only [Act.put, List.setIfInBounds_toArray, List.set_cons_zero, List.set_cons_succ]
    refine wpAnyH_take (i := 10) (oi := { dst := some 66, op := Go.Op.move (Go.Operand.tmp 9), type := 51, pos := "law.go:60", after := #[{ on := 9, ground := Go.Ground.guard }], guard := some (9, true) }) (v := undef) rfl (by kernel_rfl) (by kernel_rfl) (by kernel_rfl) (fun _ _ _ h => h) (Or.inr ⟨by rfl, rfl⟩) hSC1 ?_
    simp only [Act.put, List.setIfInBounds_toArray, List.set_cons_zero, List.set_cons_succ]
    refine wpAnyH_take (i := 11) (oi := { dst := some 67, op := Go.Op.call { callee := Go.Callee.value (Go.Operand.func 33), args := #[Go.Operand.tmp 66], argTypes := #[51] }, type := 24, pos := "law.go:60", after := #[{ on := 10, ground := Go.Ground.data }, { on := 9, ground := Go.Ground.chain }, { on := 9, ground := Go.Ground.guard }], guard := some (9, true) }) (v := undef) rfl (by kernel_rfl) (by kernel_rfl) (by kernel_rfl) (fun _ _ _ h => h) (Or.inr ⟨by rfl, rfl⟩) hSC1 ?_
    simp only [Act.put, List.setIfInBounds_toArray, List.set_cons_zero, List.set_cons_succ]
    refine wpAnyH_take (i := 12) (oi := { dst := some 68, op := Go.Op.load 24 (Go.Operand.tmp 4), type := 24, pos := "law.go:60", after := #[{ on := 9, ground := Go.Ground.guard }], guard := some (9, true) }) (v := undef) rfl (by kernel_rfl) (by kernel_rfl) (by kernel_rfl) (fun _ _ _ h => h) (Or.inr ⟨by rfl, rfl⟩) hSC1 ?_
    simp only [Act.put, List.setIfInBounds_toArray, List.set_cons_zero, List.set_cons_succ]
    refine wpAnyH_take (i := 13) (oi := { dst := some 69, op := Go.Op.call { callee := Go.Callee.value (Go.Operand.func 30), args := #[Go.Operand.tmp 67, Go.Operand.tmp 68], argTypes := #[24, 24] }, type := 4, pos := "law.go:60", after := #[{ on := 11, ground := Go.Ground.data }, { on := 12, ground := Go.Ground.data }, { on := 11, ground := Go.Ground.chain }, { on := 9, ground := Go.Ground.guard }], guard := some (9, true) }) (v := undef) rfl (by kernel_rfl) (by kernel_rfl) (by kernel_rfl) (fun _ _ _ h => h) (Or.inr ⟨by rfl, rfl⟩) hSC1 ?_
    simp only [Act.put, List.setIfInBounds_toArray, List.set_cons_zero, List.set_cons_succ]
    refine wpAnyH_take (i := 14) (oi := { dst := some 70, op := Go.Op.unOp Go.UnOp.not 4 (Go.Operand.tmp 69), type := 4, pos := "law.go:60", after := #[{ on := 13, ground := Go.Ground.data }, { on := 9, ground := Go.Ground.guard }], guard := some (9, true) }) (v := undef) rfl (by kernel_rfl) (by kernel_rfl) (by kernel_rfl) (fun _ _ _ h => h) (Or.inr ⟨by rfl, rfl⟩) hSC1 ?_
    simp only [Act.put, List.setIfInBounds_toArray, List.set_cons_zero, List.set_cons_succ]
    refine wpAnyH_take (i := 15) (oi := { dst := some 71, op := Go.Op.move (Go.Operand.tmp 70), type := 4, pos := "law.go:60", after := #[{ on := 14, ground := Go.Ground.data }, { on := 13, ground := Go.Ground.chain }, { on := 9, ground := Go.Ground.guard }], guard := some (9, true) }) (v := undef) rfl (by kernel_rfl) (by kernel_rfl) (by kernel_rfl) (fun _ _ _ h => h) (Or.inr ⟨by rfl, rfl⟩) hSC1 ?_
    simp only [Act.put, List.setIfInBounds_toArray, List.set_cons_zero, List.set_cons_succ]
    refine wpAnyH_take (i := 16) (oi := { dst := some 72, op := Go.Op.move (Go.Operand.tmp 9), type := 51, pos := "law.go:60", after := #[{ on := 15, ground := Go.Ground.guard }], guard := some (15, false) }) (v := undef) rfl (by kernel_rfl) (by kernel_rfl) (by kernel_rfl) (fun _ _ _ h => h) (Or.inr ⟨by rfl, rfl⟩) hSC1 ?_
    simp only [Act.put, List.setIfInBounds_toArray, List.set_cons_zero, List.set_cons_succ]
    refine wpAnyH_take (i := 17) (oi := { dst := some 73, op := Go.Op.call { callee := Go.Callee.value (Go.Operand.func 34), args := #[Go.Operand.tmp 72], argTypes := #[51] }, type := 3, pos := "law.go:60", after := #[{ on := 16, ground := Go.Ground.data }, { on := 15, ground := Go.Ground.chain }, { on := 15, ground := Go.Ground.guard }], guard := some (15, false) }) (v := undef) rfl (by kernel_rfl) (by kernel_rfl) (by kernel_rfl) (fun _ _ _ h => h) (Or.inr ⟨by rfl, rfl⟩) hSC1 ?_
    simp only [Act.put, List.setIfInBounds_toArray, List.set_cons_zero, List.set_cons_succ]
    refine wpAnyH_take (i := 18) (oi := { dst := some 74, op := Go.Op.binOp Go.BinOp.neq 3 (Go.Operand.tmp 73) (Go.Operand.const (Go.Value.int Go.IntKind.i64 0)) 3, type := 4, pos := "law.go:60", after := #[{ on := 17, ground := Go.Ground.data }, { on := 15, ground := Go.Ground.guard }], guard := some (15, false) }) (v := undef) rfl (by kernel_rfl) (by kernel_rfl) (by kernel_rfl) (fun _ _ _ h => h) (Or.inr ⟨by rfl, rfl⟩) hSC1 ?_
    simp only [Act.put, List.setIfInBounds_toArray, List.set_cons_zero, List.set_cons_succ]
    refine wpAnyH_take (i := 19) (oi := { dst := some 75, op := Go.Op.pick (Go.Operand.tmp 71) (Go.Operand.const (Go.Value.bool true)) (Go.Operand.tmp 74), type := 4, pos := "law.go:60", after := #[{ on := 15, ground := Go.Ground.data }, { on := 18, ground := Go.Ground.data }, { on := 9, ground := Go.Ground.guard }], guard := some (9, true) }) (v := undef) rfl (by kernel_rfl) (by kernel_rfl) (by kernel_rfl) (fun _ _ _ h => h) (Or.inr ⟨by rfl, rfl⟩) hSC1 ?_
    simp only [Act.put, List.setIfInBounds_toArray, List.set_cons_zero, List.set_cons_succ]
    refine wpAnyH_take (i := 20) (oi := { dst := some 76, op := Go.Op.move (Go.Operand.tmp 75), type := 4, pos := "law.go:60", after := #[{ on := 19, ground := Go.Ground.data }, { on := 17, ground := Go.Ground.chain }, { on := 9, ground := Go.Ground.guard }], guard := some (9, true) }) (v := undef) rfl (by kernel_rfl) (by kernel_rfl) (by kernel_rfl) (fun _ _ _ h => h) (Or.inr ⟨by rfl, rfl⟩) hSC1 ?_
    simp only [Act.put, List.setIfInBounds_toArray, List.set_cons_zero, List.set_cons_succ]
    refine wpAnyH_take (i := 21) (oi := { dst := some 77, op := Go.Op.move (Go.Operand.tmp 9), type := 51, pos := "law.go:60", after := #[{ on := 20, ground := Go.Ground.guard }], guard := some (20, false) }) (v := undef) rfl (by kernel_rfl) (by kernel_rfl) (by kernel_rfl) (fun _ _ _ h => h) (Or.inr ⟨by rfl, rfl⟩) hSC1 ?_
    simp only [Act.put, List.setIfInBounds_toArray, List.set_cons_zero, List.set_cons_succ]
    refine wpAnyH_take (i := 22) (oi := { dst := some 78, op := Go.Op.call { callee := Go.Callee.value (Go.Operand.func 35), args := #[Go.Operand.tmp 77], argTypes := #[51] }, type := 28, pos := "law.go:60", after := #[{ on := 21, ground := Go.Ground.data }, { on := 20, ground := Go.Ground.chain }, { on := 20, ground := Go.Ground.guard }], guard := some (20, false) }) (v := undef) rfl (by kernel_rfl) (by kernel_rfl) (by kernel_rfl) (fun _ _ _ h => h) (Or.inr ⟨by rfl, rfl⟩) hSC1 ?_
    simp only [Act.put, List.setIfInBounds_toArray, List.set_cons_zero, List.set_cons_succ]
    refine wpAnyH_take (i := 23) (oi := { dst := some 79, op := Go.Op.binOp Go.BinOp.neq 28 (Go.Operand.tmp 78) (Go.Operand.const (Go.Value.int Go.IntKind.i64 0)) 28, type := 4, pos := "law.go:60", after := #[{ on := 22, ground := Go.Ground.data }, { on := 20, ground := Go.Ground.guard }], guard := some (20, false) }) (v := undef) rfl (by kernel_rfl) (by kernel_rfl) (by kernel_rfl) (fun _ _ _ h => h) (Or.inr ⟨by rfl, rfl⟩) hSC1 ?_
    simp only [Act.put, List.setIfInBounds_toArray, List.set_cons_zero, List.set_cons_succ]
    refine wpAnyH_take (i := 24) (oi := { dst := some 80, op := Go.Op.pick (Go.Operand.tmp 76) (Go.Operand.const (Go.Value.bool true)) (Go.Operand.tmp 79), type := 4, pos := "law.go:60", after := #[{ on := 20, ground := Go.Ground.data }, { on := 23, ground := Go.Ground.data }, { on := 9, ground := Go.Ground.guard }], guard := some (9, true) }) (v := undef) rfl (by kernel_rfl) (by kernel_rfl) (by kernel_rfl) (fun _ _ _ h => h) (Or.inr ⟨by rfl, rfl⟩) hSC1 ?_
    simp only [Act.put, List.setIfInBounds_toArray, List.set_cons_zero, List.set_cons_succ]
    (refine wpAnyH_take (i := 25) (oi := { dst := some 81, op := Go.Op.pick (Go.Operand.tmp 65) (Go.Operand.tmp 80) (Go.Operand.const (Go.Value.bool false)), type := 4, pos := "law.go:60", after := #[{ on := 9, ground := Go.Ground.data }, { on := 24, ground := Go.Ground.data }, { on := 4, ground := Go.Ground.guard }], guard := some (4, false) }) (v := ?_) rfl (by kernel_rfl) (by kernel_rfl) (by kernel_rfl) (fun _ _ _ h => h) (Or.inl ⟨by rfl, fun w' hSw => ?_⟩) hSC1 ?_; rotate_left; focus (go_simp; try with_reducible rfl))
    simp only [Act.put, List.setIfInBounds_toArray, List.set_cons_zero, List.set_cons_succ]
    (refine wpAnyH_take (i := 26) (oi := { dst := some 82, op := Go.Op.pick (Go.Operand.tmp 60) (Go.Operand.const (Go.Value.bool true)) (Go.Operand.tmp 81), type := 4, pos := "law.go:60", after := #[{ on := 4, ground := Go.Ground.data }, { on := 25, ground := Go.Ground.data }], guard := none }) (v := ?_) rfl (by kernel_rfl) (by kernel_rfl) (by kernel_rfl) (fun _ _ _ h => h) (Or.inl ⟨by rfl, fun w' hSw => ?_⟩) hSC1 ?_; rotate_left; focus (go_simp; try with_reducible rfl))
    simp only [Act.put, List.setIfInBounds_toArray, List.set_cons_zero, List.set_cons_succ]
    refine wpAnyH_done (by kernel_rfl) ?_ _
    obtain ⟨wE, hwE⟩ : ∃ wE, wE = w10 := ⟨_, rfl⟩
    have hSE9 : Only (fun i => i = g9) w9 wE := by rw [hwE]; exact hSC1
    rw [← hwE]
    clear hwE hR10 o10
    have BE := hide (Below.trans B9.out (hSE9.below B9.out.size (fun i hi e => by have := hsza.out; have h2 : i = g9 := e; omega)))
    have QE := hide (SC9.out.keep hSE9 (fun e => by have := hlt9.out; omega) (fun e => by have h1 := hlt9.out; have h2 := hk9.out; have h3 := hsza.out; have h4 : k = g9 := e; omega))
    have hsE := hide hSE9.size
    clear R9 O9 OF9 RD9 SC9
    go_wp2_with fail
    refine (New_any wE A n c bs (HB.out.below BE.out) (by omega)).mono ?_
    rintro e w13 ⟨gz, hz, rfl, RZ0, hgz, hhz, b13⟩
    have RZ := hide RZ0
    have QZ := hide (QE.out.below b13)
    have B13 := hide (Below.then_ BE.out b13)
    have hqz := hide (show q ≠ gz ∧ q ≠ hz ∧ k ≠ gz ∧ q < w13.heap.size by
      have h1 := hsE.out
      have h2 := hsq9.out
      have h3 := hk9.out
      have h4 := b13.size
      have h5 := BE.out.size
      have h6 := hqw.out
      omega)
    have hgzw := hide (show w.heap.size ≤ gz ∧ w.heap.size ≤ q by have h1 := BE.out.size; have h2 := hqw.out; omega)
    obtain ⟨D, r14, hD⟩ : ∃ D r14, Rd.ref ⟨bs, 0⟩ = (D, r14) := ⟨_, _, rfl⟩
    clear RZ0 hgz hhz
    go_wp2_with fail
    refine wp_region_held_drew (S := fun w' => Only (fun i => i = gz ∨ i = q) w13 w') (by kernel_rfl) (by exact (Only.refl _ _).drew) (fun hSE0 => ?_)
    obtain ⟨w13d, hwE⟩ : ∃ x, x = w13.drew := ⟨_, rfl⟩
    rw [← hwE] at hSE0 ⊢
    have hDE : Below w13.heap.size w13 w13d := by rw [hwE]; exact (Below.refl _ _).drew
    clear hwE
    (refine wpAnyH_take (i := 0) (oi := { dst := some 85, op := Go.Op.move (Go.Operand.tmp 11), type := 51, pos := "law.go:64", after := #[], guard := none }) (v := ?_) rfl (by kernel_rfl) (by kernel_rfl) (by kernel_rfl) (fun _ _ _ h => h) (Or.inl ⟨by rfl, fun w' hSw => ?_⟩) hSE0 ?_; rotate_left; focus (go_simp; try with_reducible rfl))
    simp only [Act.put, List.setIfInBounds_toArray, List.set_cons_zero, List.set_cons_succ]
    (refine wpAnyH_take (i := 2) (oi := { dst := some 87, op := Go.Op.move (Go.Operand.tmp 10), type := 53, pos := "law.go:64", after := #[], guard := none }) (v := ?_) rfl (by kernel_rfl) (by kernel_rfl) (by kernel_rfl) (fun _ _ _ h => h) (Or.inl ⟨by rfl, fun w' hSw => ?_⟩) hSE0 ?_; rotate_left; focus (go_simp; try with_reducible rfl))
    simp only [Act.put, List.setIfInBounds_toArray, List.set_cons_zero, List.set_cons_succ]
    refine wpAnyH_ready (rs := [1]) (by kernel_rfl) (by simp) ?_
    refine AllReadyH.cons rfl (fun K hK => ?_) AllReadyH.nil
    go_simp
    go_wp2_with (go_at_call 32; refine (RefRead_any w13d gz hz _ (RZ.out.below hDE)).mono ?_; rintro e w14 ⟨rfl, hFD, RZ14, o14⟩; rw [hD] at RZ14 hFD; rw [hD])
    refine hK.out _ _ (Only.trans hSE0 o14 (fun _ _ h => .inl h)) (fun hSE1 => ?_)
    clear hK K
    refine wpAnyH_ready (rs := [3]) (by kernel_rfl) (by simp) ?_
    refine AllReadyH.cons rfl (fun K hK => ?_) AllReadyH.nil
    go_simp
    go_wp2_with (go_at_call 36; refine (refRefRead_any w14 q k _ ((QZ.out.below hDE).keep o14 (fun e => hqz.out.1 e) (fun e => hqz.out.2.2.1 e))).mono ?_; rintro e w15 ⟨rfl, _, Q15, o15⟩; rw [hD] at Q15; rw [hD]); have RZ15 := hide (RZ14.keep o15 (fun e => hqz.out.1 e.symm) (fun e => hqz.out.2.1 e.symm)); have hnD : ∀ w, (neqRef (.agg D.cells.toArray) (.agg D.cells.toArray)).run Try.prog w = .ok (.bool false) w := fun w => by { rw [neqRef_run D D hFD hFD w]; simp }; have HQ15 := hide Q15; obtain ⟨AQ, nQ, cQ, bQ, BQ, cQ', aQ, kQ, mQ⟩ := Q15; have q0 := bQ.c0; have q1 := bQ.c1; have hlQ := hide BQ.1; have hlQ' : (r14.rest.length : Int) = (nQ : Int) := (by rw [hlQ.out])
    refine hK.out _ _ (Only.trans hSE1 o15 (fun _ _ h => .inr h)) (fun hSE2 => ?_)
    clear hK K
    (refine wpAnyH_take (i := 4) (oi := { dst := some 89, op := Go.Op.binOp Go.BinOp.neq 47 (Go.Operand.tmp 86) (Go.Operand.tmp 88) 47, type := 4, pos := "law.go:64", after := #[{ on := 1, ground := Go.Ground.data }, { on := 3, ground := Go.Ground.data }], guard := none }) (v := ?_) rfl (by kernel_rfl) (by kernel_rfl) (by kernel_rfl) (fun _ _ _ h => h) (Or.inl ⟨by rfl, fun w' hSw => ?_⟩) hSE2 ?_; rotate_left; focus (go_simp; try with_reducible rfl))
    simp only [Act.put, List.setIfInBounds_toArray, List.set_cons_zero, List.set_cons_succ]
    (refine wpAnyH_take (i := 5) (oi := { dst := some 90, op := Go.Op.move (Go.Operand.tmp 89), type := 4, pos := "law.go:64", after := #[{ on := 4, ground := Go.Ground.data }, { on := 3, ground := Go.Ground.chain }], guard := none }) (v := ?_) rfl (by kernel_rfl) (by kernel_rfl) (by kernel_rfl) (fun _ _ _ h => h) (Or.inl ⟨by rfl, fun w' hSw => ?_⟩) hSE2 ?_; rotate_left; focus (go_simp; try with_reducible rfl))
    simp only [Act.put, List.setIfInBounds_toArray, List.set_cons_zero, List.set_cons_succ]
    refine held_lex (k := 6) [{ dst := some 91, op := Go.Op.move (Go.Operand.tmp 11), type := 51, pos := "law.go:64", after := #[{ on := 5, ground := Go.Ground.guard }], guard := some (5, false) }, { dst := some 92, op := Go.Op.call { callee := Go.Callee.value (Go.Operand.func 35), args := #[Go.Operand.tmp 91], argTypes := #[51] }, type := 28, pos := "law.go:64", after := #[{ on := 6, ground := Go.Ground.data }, { on := 5, ground := Go.Ground.chain }, { on := 5, ground := Go.Ground.guard }], guard := some (5, false) }, { dst := some 93, op := Go.Op.move (Go.Operand.tmp 10), type := 53, pos := "law.go:64", after := #[{ on := 5, ground := Go.Ground.guard }], guard := some (5, false) }, { dst := some 94, op := Go.Op.nilCheck (Go.Operand.tmp 93), type := 0, pos := "law.go:64", after := #[{ on := 8, ground := Go.Ground.data }, { on := 5, ground := Go.Ground.guard }], guard := some (5, false) }, { dst := some 95, op := Go.Op.fieldAddr 55 (Go.Operand.tmp 94) 1, type := 0, pos := "law.go:64", after := #[{ on := 9, ground := Go.Ground.data }, { on := 5, ground := Go.Ground.guard }], guard := some (5, false) }, { dst := some 96, op := Go.Op.load 3 (Go.Operand.tmp 95), type := 3, pos := "law.go:64", after := #[{ on := 10, ground := Go.Ground.data }, { on := 5, ground := Go.Ground.guard }], guard := some (5, false) }, { dst := some 97, op := Go.Op.binOp Go.BinOp.neq 3 (Go.Operand.tmp 92) (Go.Operand.tmp 96) 3, type := 4, pos := "law.go:64", after := #[{ on := 7, ground := Go.Ground.data }, { on := 11, ground := Go.Ground.data }, { on := 5, ground := Go.Ground.guard }], guard := some (5, false) }, { dst := some 98, op := Go.Op.pick (Go.Operand.tmp 90) (Go.Operand.const (Go.Value.bool true)) (Go.Operand.tmp 97), type := 4, pos := "law.go:64", after := #[{ on := 5, ground := Go.Ground.data }, { on := 12, ground := Go.Ground.data }], guard := none }, { dst := some 99, op := Go.Op.move (Go.Operand.tmp 98), type := 4, pos := "law.go:64", after := #[{ on := 13, ground := Go.Ground.data }, { on := 7, ground := Go.Ground.chain }], guard := none }, { dst := some 100, op := Go.Op.move (Go.Operand.tmp 11), type := 51, pos := "law.go:64", after := #[{ on := 14, ground := Go.Ground.guard }], guard := some (14, false) }, { dst := some 101, op := Go.Op.call { callee := Go.Callee.value (Go.Operand.func 34), args := #[Go.Operand.tmp 100], argTypes := #[51] }, type := 3, pos := "law.go:64", after := #[{ on := 15, ground := Go.Ground.data }, { on := 14, ground := Go.Ground.chain }, { on := 14, ground := Go.Ground.guard }], guard := some (14, false) }, { dst := some 102, op := Go.Op.move (Go.Operand.tmp 10), type := 53, pos := "law.go:64", after := #[{ on := 14, ground := Go.Ground.guard }], guard := some (14, false) }, { dst := some 103, op := Go.Op.nilCheck (Go.Operand.tmp 102), type := 0, pos := "law.go:64", after := #[{ on := 17, ground := Go.Ground.data }, { on := 14, ground := Go.Ground.guard }], guard := some (14, false) }, { dst := some 104, op := Go.Op.fieldAddr 55 (Go.Operand.tmp 103) 0, type := 0, pos := "law.go:64", after := #[{ on := 18, ground := Go.Ground.data }, { on := 14, ground := Go.Ground.guard }], guard := some (14, false) }, { dst := some 105, op := Go.Op.load 22 (Go.Operand.tmp 104), type := 22, pos := "law.go:64", after := #[{ on := 19, ground := Go.Ground.data }, { on := 14, ground := Go.Ground.guard }], guard := some (14, false) }, { dst := some 106, op := Go.Op.call { callee := Go.Callee.builtin Go.Builtin.len, args := #[Go.Operand.tmp 105], argTypes := #[22] }, type := 3, pos := "law.go:64", after := #[{ on := 20, ground := Go.Ground.data }, { on := 14, ground := Go.Ground.guard }], guard := some (14, false) }, { dst := some 107, op := Go.Op.binOp Go.BinOp.neq 3 (Go.Operand.tmp 101) (Go.Operand.tmp 106) 3, type := 4, pos := "law.go:64", after := #[{ on := 16, ground := Go.Ground.data }, { on := 21, ground := Go.Ground.data }, { on := 14, ground := Go.Ground.guard }], guard := some (14, false) }, { dst := some 108, op := Go.Op.pick (Go.Operand.tmp 99) (Go.Operand.const (Go.Value.bool true)) (Go.Operand.tmp 107), type := 4, pos := "law.go:64", after := #[{ on := 14, ground := Go.Ground.data }, { on := 22, ground := Go.Ground.data }], guard := none }] rfl (by kernel_rfl) (by kernel_rfl) (by kernel_rfl) (fun n => only_drewN hSE2 n) ?_
    iterate 18 quiet_step (first | (go_at_call 34; exact Calls.quiet_of_same ((Left_any _ gz hz r14 (show RdAt 99 (World.drewN _ _) gz hz r14 from RZ15.out)).mono fun _ _ h => ⟨h.1, h.2.symm⟩)) | (go_at_call 35; exact Calls.quiet_of_same ((Err_any _ gz hz r14 (show RdAt 99 (World.drewN _ _) gz hz r14 from RZ15.out)).mono fun _ _ h => ⟨h.1, h.2.symm⟩)))
    refine wpQuiet_nil ?_
    intro _ hw'
    obtain ⟨nq, hw''⟩ := hw'
    subst hw''
    obtain ⟨w16, hw16⟩ : ∃ w16, w16 = World.drewN w15 nq := ⟨_, rfl⟩
    have hS16 : Only (fun i => i = gz ∨ i = q) w13 w16 := by rw [hw16]; exact only_drewN hSE2 nq
    have RZ16 := hide (show RdAt 99 w16 gz hz r14 by rw [hw16]; exact RZ15.out)
    have Q16 := hide (show RdAt 55 w16 q k r14 by rw [hw16]; exact HQ15.out)
    have B16 := hide (Below.trans B13.out (hS16.below B13.out.size (fun i hi e => by have h1 := hgzw.out; rcases e with h | h <;> omega)))
    have hq16 := hide (show q < w16.heap.size from Nat.lt_of_lt_of_le hqz.out.2.2.2 hS16.size)
    rw [← hw16]
    clear hw16 RZ15 RZ14 hnD HQ15 bQ BQ cQ' aQ kQ mQ q0 q1 hlQ hlQ' o14 o15 hFD RZ QZ hS16
    obtain ⟨E, r17, hD2⟩ : ∃ E r17, Rd.out r14 = (E, r17) := ⟨_, _, rfl⟩
    go_wp2_with fail
    refine wp_region_held_drew (S := fun w' => Only (fun i => i = gz ∨ i = q) w16 w') (by kernel_rfl) (by exact (Only.refl _ _).drew) (fun hSG0 => ?_)
    obtain ⟨w16d, hwG⟩ : ∃ x, x = w16.drew := ⟨_, rfl⟩
    rw [← hwG] at hSG0 ⊢
    have hDG : Below w16.heap.size w16 w16d := by rw [hwG]; exact (Below.refl _ _).drew
    clear hwG
    (refine wpAnyH_take (i := 0) (oi := { dst := some 109, op := Go.Op.move (Go.Operand.tmp 11), type := 51, pos := "law.go:67", after := #[], guard := none }) (v := ?_) rfl (by kernel_rfl) (by kernel_rfl) (by kernel_rfl) (fun _ _ _ h => h) (Or.inl ⟨by rfl, fun w' hSw => ?_⟩) hSG0 ?_; rotate_left; focus (go_simp; try with_reducible rfl))
    simp only [Act.put, List.setIfInBounds_toArray, List.set_cons_zero, List.set_cons_succ]
    (refine wpAnyH_take (i := 2) (oi := { dst := some 111, op := Go.Op.move (Go.Operand.tmp 10), type := 53, pos := "law.go:67", after := #[], guard := none }) (v := ?_) rfl (by kernel_rfl) (by kernel_rfl) (by kernel_rfl) (fun _ _ _ h => h) (Or.inl ⟨by rfl, fun w' hSw => ?_⟩) hSG0 ?_; rotate_left; focus (go_simp; try with_reducible rfl))
    simp only [Act.put, List.setIfInBounds_toArray, List.set_cons_zero, List.set_cons_succ]
    refine wpAnyH_ready (rs := [1]) (by kernel_rfl) (by simp) ?_
    refine AllReadyH.cons rfl (fun K hK => ?_) AllReadyH.nil
    go_simp
    go_wp2_with (go_at_call 33; refine (OutRead_any w16d gz hz _ (RZ16.out.below hDG)).mono ?_; rintro e w17 ⟨⟨v17, A17, n17, c17, xs17⟩, rfl, hd17, F17, Fr17, RZ17, o17⟩; rw [hD2] at RZ17 hd17)
    refine hK.out _ _ (Only.trans hSG0 o17 (fun _ _ h => .inl h)) (fun hSG1 => ?_)
    clear hK K
    refine wpAnyH_ready (rs := [3]) (by kernel_rfl) (by simp) ?_
    refine AllReadyH.cons rfl (fun K hK => ?_) AllReadyH.nil
    go_simp
    go_wp2_with (go_at_call 38; refine (refOutRead_any w17 q k _ ((Q16.out.below hDG).keep o17 (fun e => hqz.out.1 e) (fun e => hqz.out.2.2.1 e))).mono ?_; rintro e w18 ⟨⟨v18, A18, n18, c18, xs18⟩, rfl, hd18, F18, Fr18, Q18, o18⟩; rw [hD2] at Q18 hd18); have RZ18 := hide (RZ17.keep o18 (fun e => hqz.out.1 e.symm) (fun e => hqz.out.2.1 e.symm)); have F17' := F17.only o18 (fun _ ad e h => (by have h1 := Fr17 ad e; have h2 : ad.block = q := h; have h3 := hDG.size; have h4 := hq16.out; omega))
    refine hK.out _ _ (Only.trans hSG1 o18 (fun _ _ h => .inr h)) (fun hSG2 => ?_)
    clear hK K
    refine wpAnyH_ready (rs := [4]) (by kernel_rfl) (by simp) ?_
    refine AllReadyH.cons rfl (fun K hK => ?_) AllReadyH.nil
    go_simp
    go_wp2_with (go_at_call 37; refine (refSame_any w18 ⟨v17, A17, n17, c17, xs17⟩ ⟨v18, A18, n18, c18, xs18⟩ F17' F18).mono ?_; rintro e w19 ⟨rfl, b19⟩; rw [hd17, hd18, out_refl]); have RZ15 := hide (RZ18.out.below b19); have Q19 := Q18.below b19; obtain ⟨AQ, nQ, cQ, bQ, BQ, cQ', aQ, kQ, mQ⟩ := Q19; have q0 := bQ.c0; have q1 := bQ.c1; have hlQ := hide BQ.1; have hlQ' : (r17.rest.length : Int) = (nQ : Int) := (by rw [hlQ.out])
    refine hK.out _ _ (Only.trans hSG2 (Only.of_below b19 _) (fun _ _ h => h)) (fun hSG3 => ?_)
    clear hK K
    (refine wpAnyH_take (i := 5) (oi := { dst := some 114, op := Go.Op.move (Go.Operand.tmp 113), type := 4, pos := "law.go:67", after := #[{ on := 4, ground := Go.Ground.data }, { on := 4, ground := Go.Ground.chain }], guard := none }) (v := ?_) rfl (by kernel_rfl) (by kernel_rfl) (by kernel_rfl) (fun _ _ _ h => h) (Or.inl ⟨by rfl, fun w' hSw => ?_⟩) hSG3 ?_; rotate_left; focus (go_simp; try with_reducible rfl))
    simp only [Act.put, List.setIfInBounds_toArray, List.set_cons_zero, List.set_cons_succ]
    refine held_lex (k := 6) [{ dst := some 115, op := Go.Op.move (Go.Operand.tmp 11), type := 51, pos := "law.go:67", after := #[{ on := 5, ground := Go.Ground.guard }], guard := some (5, true) }, { dst := some 116, op := Go.Op.call { callee := Go.Callee.value (Go.Operand.func 35), args := #[Go.Operand.tmp 115], argTypes := #[51] }, type := 28, pos := "law.go:67", after := #[{ on := 6, ground := Go.Ground.data }, { on := 5, ground := Go.Ground.chain }, { on := 5, ground := Go.Ground.guard }], guard := some (5, true) }, { dst := some 117, op := Go.Op.move (Go.Operand.tmp 10), type := 53, pos := "law.go:67", after := #[{ on := 5, ground := Go.Ground.guard }], guard := some (5, true) }, { dst := some 118, op := Go.Op.nilCheck (Go.Operand.tmp 117), type := 0, pos := "law.go:67", after := #[{ on := 8, ground := Go.Ground.data }, { on := 5, ground := Go.Ground.guard }], guard := some (5, true) }, { dst := some 119, op := Go.Op.fieldAddr 55 (Go.Operand.tmp 118) 1, type := 0, pos := "law.go:67", after := #[{ on := 9, ground := Go.Ground.data }, { on := 5, ground := Go.Ground.guard }], guard := some (5, true) }, { dst := some 120, op := Go.Op.load 3 (Go.Operand.tmp 119), type := 3, pos := "law.go:67", after := #[{ on := 10, ground := Go.Ground.data }, { on := 5, ground := Go.Ground.guard }], guard := some (5, true) }, { dst := some 121, op := Go.Op.binOp Go.BinOp.eql 3 (Go.Operand.tmp 116) (Go.Operand.tmp 120) 3, type := 4, pos := "law.go:67", after := #[{ on := 7, ground := Go.Ground.data }, { on := 11, ground := Go.Ground.data }, { on := 5, ground := Go.Ground.guard }], guard := some (5, true) }, { dst := some 122, op := Go.Op.pick (Go.Operand.tmp 114) (Go.Operand.tmp 121) (Go.Operand.const (Go.Value.bool false)), type := 4, pos := "law.go:67", after := #[{ on := 5, ground := Go.Ground.data }, { on := 12, ground := Go.Ground.data }], guard := none }, { dst := some 123, op := Go.Op.move (Go.Operand.tmp 122), type := 4, pos := "law.go:67", after := #[{ on := 13, ground := Go.Ground.data }, { on := 7, ground := Go.Ground.chain }], guard := none }, { dst := some 124, op := Go.Op.move (Go.Operand.tmp 11), type := 51, pos := "law.go:67", after := #[{ on := 14, ground := Go.Ground.guard }], guard := some (14, true) }, { dst := some 125, op := Go.Op.call { callee := Go.Callee.value (Go.Operand.func 34), args := #[Go.Operand.tmp 124], argTypes := #[51] }, type := 3, pos := "law.go:67", after := #[{ on := 15, ground := Go.Ground.data }, { on := 14, ground := Go.Ground.chain }, { on := 14, ground := Go.Ground.guard }], guard := some (14, true) }, { dst := some 126, op := Go.Op.move (Go.Operand.tmp 10), type := 53, pos := "law.go:67", after := #[{ on := 14, ground := Go.Ground.guard }], guard := some (14, true) }, { dst := some 127, op := Go.Op.nilCheck (Go.Operand.tmp 126), type := 0, pos := "law.go:67", after := #[{ on := 17, ground := Go.Ground.data }, { on := 14, ground := Go.Ground.guard }], guard := some (14, true) }, { dst := some 128, op := Go.Op.fieldAddr 55 (Go.Operand.tmp 127) 0, type := 0, pos := "law.go:67", after := #[{ on := 18, ground := Go.Ground.data }, { on := 14, ground := Go.Ground.guard }], guard := some (14, true) }, { dst := some 129, op := Go.Op.load 22 (Go.Operand.tmp 128), type := 22, pos := "law.go:67", after := #[{ on := 19, ground := Go.Ground.data }, { on := 14, ground := Go.Ground.guard }], guard := some (14, true) }, { dst := some 130, op := Go.Op.call { callee := Go.Callee.builtin Go.Builtin.len, args := #[Go.Operand.tmp 129], argTypes := #[22] }, type := 3, pos := "law.go:67", after := #[{ on := 20, ground := Go.Ground.data }, { on := 14, ground := Go.Ground.guard }], guard := some (14, true) }, { dst := some 131, op := Go.Op.binOp Go.BinOp.eql 3 (Go.Operand.tmp 125) (Go.Operand.tmp 130) 3, type := 4, pos := "law.go:67", after := #[{ on := 16, ground := Go.Ground.data }, { on := 21, ground := Go.Ground.data }, { on := 14, ground := Go.Ground.guard }], guard := some (14, true) }, { dst := some 132, op := Go.Op.pick (Go.Operand.tmp 123) (Go.Operand.tmp 131) (Go.Operand.const (Go.Value.bool false)), type := 4, pos := "law.go:67", after := #[{ on := 14, ground := Go.Ground.data }, { on := 22, ground := Go.Ground.data }], guard := none }, { dst := some 6, op := Go.Op.assign (Go.Operand.tmp 132), type := 4, pos := "law.go:67", after := #[{ on := 23, ground := Go.Ground.data }, { on := 16, ground := Go.Ground.chain }, { on := 0, ground := Go.Ground.phase }, { on := 1, ground := Go.Ground.phase }, { on := 2, ground := Go.Ground.phase }, { on := 3, ground := Go.Ground.phase }, { on := 4, ground := Go.Ground.phase }, { on := 5, ground := Go.Ground.phase }, { on := 6, ground := Go.Ground.phase }, { on := 7, ground := Go.Ground.phase }, { on := 8, ground := Go.Ground.phase }, { on := 9, ground := Go.Ground.phase }, { on := 10, ground := Go.Ground.phase }, { on := 11, ground := Go.Ground.phase }, { on := 12, ground := Go.Ground.phase }, { on := 13, ground := Go.Ground.phase }, { on := 14, ground := Go.Ground.phase }, { on := 15, ground := Go.Ground.phase }, { on := 16, ground := Go.Ground.phase }, { on := 17, ground := Go.Ground.phase }, { on := 18, ground := Go.Ground.phase }, { on := 19, ground := Go.Ground.phase }, { on := 20, ground := Go.Ground.phase }, { on := 21, ground := Go.Ground.phase }, { on := 22, ground := Go.Ground.phase }, { on := 23, ground := Go.Ground.phase }], guard := none }] rfl (by kernel_rfl) (by kernel_rfl) (by kernel_rfl) (fun n => only_drewN hSG3 n) ?_
    iterate 19 quiet_step (first | (go_at_call 34; exact Calls.quiet_of_same ((Left_any _ gz hz r17 (show RdAt 99 (World.drewN _ _) gz hz r17 from RZ15.out)).mono fun _ _ h => ⟨h.1, h.2.symm⟩)) | (go_at_call 35; exact Calls.quiet_of_same ((Err_any _ gz hz r17 (show RdAt 99 (World.drewN _ _) gz hz r17 from RZ15.out)).mono fun _ _ h => ⟨h.1, h.2.symm⟩)))
    refine wpQuiet_nil ?_
    intro _ hw'
    obtain ⟨nq, hw''⟩ := hw'
    subst hw''
    have hfin := hide (Below.trans B16.out ((only_drewN hSG3 nq).below B16.out.size (fun i hi e => by have h1 := hgzw.out; rcases e with h | h <;> omega)))
    go_wp2_with fail
    go_ret
    exact ⟨rfl, hfin.out⟩
end Go.Proofs.Ytfloclamdpageaa
