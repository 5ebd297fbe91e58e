import Derived.Test.YtbpmcnfmgaolnaaPk23
/-
  BlockHeads: the law's walk.
-/
namespace Go.Proofs.Ytbpmcnfmgaolnaa
open Go.RowKit

attribute [local go_sem ↓] loadHead_fold eqlHash_fold eqlHead_fold mkHead_fold
attribute [local go_sem] guardHash guardHead
theorem head_store {w : World} {ops : Array Oper} {rest : List Oper} {op : Oper} {a : Act} {Q : Exit → Act → World → Prop} (hgd : op.guard = none) (x y : Operand) (ho : op.op = .store 33 x y)
    (g : Nat) (c d : HeadD) (hc : c.Fine) (hd : d.Fine) (hx : a.eval x = .pointer (some ⟨g, 0, none⟩)) (hy : a.eval y = .agg d.cells.toArray) (hb : Blk w g 33 c.cells)
    (h : ∀ w', Only (fun i => i = g) w w' → Blk w' g 33 d.cells → wpList Try.prog ops Q rest (a.put op.dst undef) w') : wpList Try.prog ops Q (op :: rest) a w := by
  refine wpList_store_blk hgd 33 x y ho g 0 33 c.cells d.cells hx hy hb (by rw [HeadD.cells_len hc, HeadD.cells_len hd]; exact Nat.le_refl _) (by rw [HeadD.cells_len hd]; exact isHead) (HeadD.one d) ?_
  intro w' o z b
  rw [lay_all _ _ (by rw [HeadD.cells_len hc, HeadD.cells_len hd])] at b
  exact h w' o b
theorem head_whole {w : World} {g : Nat} {t : TypeId} {h : HeadD} (hb : Blk w g t h.cells) : w.rangeAt g 0 h.cells := hb.whole
set_option maxHeartbeats 8000000 in
set_option maxRecDepth 100000 in
theorem blockheads_any (w : World) (h : HeadD) (hf : h.Fine) : Calls Try.prog 12 #[.agg h.cells.toArray] w fun e w' => e = .returned (.bool true) ∧ Below w.heap.size w w' := by
  have B0 := hide (Blk.new w 33 h.cells)
  have b0 := hide (below_alloc (Below.refl _ w) (.cells h.cells.toArray 33))
  have HF := hide hf
  clear hf
  go_enter Try.func12, Try.ntmps12
  go_wp2_with fail
  refine (blockAlive_any _).mono ?_
  rintro e w1 ⟨rfl, b1⟩
  have B1 := hide (B0.out.under b1)
  have hb1 := hide (Below.then_ b0.out b1)
  have hl1 := loadHead_run w1 w.heap.size 0 h B1.out.whole HF.out
  clear b1 B0 b0
  go_wp2_with fail
  refine (HeadBytes_any w1 h HF.out).mono ?_
  rintro e w2 ⟨A2, n2, c2, rfl, t2, f2⟩
  have hn2 := hide (show n2 = 80 by rw [← t2.len]; exact HeadD.bytes_len HF.out)
  have Y2 := hide t2.bys
  have B2 := hide (B1.out.under t2.below)
  have hb2 := hide (Below.then_ hb1.out t2.below)
  clear t2 f2 hl1
  go_wp2_with fail
  refine (HeadParse_any w2 A2 n2 c2 h.bytes Y2.out (by have := hn2.out; omega)).mono ?_
  rintro e w3 ⟨rfl, b3⟩
  rw [parseH_back h HF.out]
  have Y3 := hide (Y2.out.below b3)
  have B3 := hide (B2.out.under b3)
  have hb3 := hide (Below.then_ hb2.out b3)
  have T0 := hide (Blk.new w3 33 zeroH.cells)
  clear b3
  go_wp2_with (first
    | (refine wpList_alloc_agg rfl 33 rfl zeroH.cells zeroHead_info ?_; simp only [Act.put, List.setIfInBounds_toArray, List.set_cons_zero, List.set_cons_succ])
    | (refine head_store rfl _ _ rfl w3.heap.size zeroH h zeroH_fine HF.out (by rfl) (by rfl) T0.out ?_; intro w4 o4 k4; have T4 := hide k4; have hb4 : Below w3.heap.size w3 w4 := Below.trans ((Below.refl _ w3).alloc (Nat.le_refl _) _) (o4.below (by simp) (fun i hi e => by have h9 : i = w3.heap.size := e; omega)); have Y4 := hide (Y3.out.below hb4); have B4 := hide (B3.out.under hb4); have HB4 := hide (Below.then_ hb3.out hb4); clear o4 k4 hb4; simp only [Act.put]))
  obtain ⟨PB, hPB⟩ : ∃ x, x = h.bytes := ⟨_, rfl⟩
  rw [← hPB] at Y4
  have HPB := hide hPB
  obtain ⟨S, hS⟩ : ∃ S, S = ba PB := ⟨_, rfl⟩
  have hpstr := hide (show ∀ (w' : World) (A' : Option Addr) (n' c' : Nat) (xs : List Int), Bys w' A' n' xs → xs = PB → (convert 56 9 (.slice A' n' c')).run Try.prog w' = .ok (.string S) w' from fun w' A' n' c' xs h e => by rw [hS, ← e]; exact run_str w' A' n' c' xs h)
  obtain ⟨L, hL⟩ : ∃ x, x = sha2 PB := ⟨_, rfl⟩
  have HL := hide (show L.length = 32 by rw [hL]; exact sha2_len _)
  have FL := hide (show sha2 h.bytes = L by rw [hL, hPB])
  have FE := hide (fun w => eqlHash_self L HL.out w)
  have FH := hide (show ∀ w, (eqlHead (.agg h.cells.toArray) (.agg h.cells.toArray)).run Try.prog w = .ok (.bool true) w from fun w => by rw [eqlHead_run h h HF.out HF.out]; simp)
  have hn8 : ((n2 : Int) == 80) = true := by have := hn2.out; simp; omega
  clear hPB hS hL
  refine wp_region_held_drew (S := fun w' => Below w4.heap.size w4 w') (by kernel_rfl) (by exact (Below.refl _ _).drew) (fun hSA0 => ?_)
  obtain ⟨w4d, hwA⟩ : ∃ x, x = w4.drew := ⟨_, rfl⟩
  rw [← hwA] at hSA0 ⊢
  have hDA : Below w4.heap.size w4 w4d := by rw [hwA]; exact (Below.refl _ _).drew
  clear hwA
  (refine wpAnyH_take (i := 0) (oi := ⟨some 15, .move (.tmp 3), 56, "law.go:42", #[], none⟩) (v := ?_) rfl (by kernel_rfl) (by kernel_rfl) (by kernel_rfl) (fun _ _ _ h => h) (Or.inl ⟨by rfl, fun w' hSw => ?_⟩) hSA0 ?_; rotate_left; focus (go_simp; try with_reducible rfl))
  simp only [Act.put, List.setIfInBounds_toArray, List.set_cons_zero, List.set_cons_succ]
  (refine wpAnyH_take (i := 1) (oi := ⟨some 16, .convert 56 9 (.tmp 15), 9, "law.go:42", #[⟨0, .data⟩], none⟩) (v := ?_) rfl (by kernel_rfl) (by kernel_rfl) (by kernel_rfl) (fun _ _ _ h => h) (Or.inl ⟨by rfl, fun w' hSw => ?_⟩) hSA0 ?_; rotate_left; focus (have sb := hpstr.out w' A2 n2 c2 _ (Y4.out.below hSw) rfl; go_simp; try with_reducible rfl))
  simp only [Act.put, List.setIfInBounds_toArray, List.set_cons_zero, List.set_cons_succ]
  (refine wpAnyH_take (i := 2) (oi := ⟨some 17, .load 33 (.tmp 1), 33, "law.go:42", #[], none⟩) (v := ?_) rfl (by kernel_rfl) (by kernel_rfl) (by kernel_rfl) (fun _ _ _ h => h) (Or.inl ⟨by rfl, fun w' hSw => ?_⟩) hSA0 ?_; rotate_left; focus (have lt := loadHead_run w' w.heap.size 0 h (range_under B4.out.whole hSw) HF.out; go_simp; try with_reducible rfl))
  simp only [Act.put, List.setIfInBounds_toArray, List.set_cons_zero, List.set_cons_succ]
  refine wpAnyH_ready (rs := [3]) (by kernel_rfl) (by simp) ?_
  refine AllReadyH.cons rfl (fun K hK => ?_) AllReadyH.nil
  go_simp
  go_wp2_with (go_at_call 45; refine (refHeadBytes_any w4d h HF.out).mono ?_; rintro e w5 ⟨A5, n5, c5, rfl, t5, f5⟩)
  refine hK.out _ _ (Below.then_ hSA0 t5.below) (fun hSA1 => ?_)
  clear hK K
  refine wpAnyH_ready (rs := [4]) (by kernel_rfl) (by simp) ?_
  refine AllReadyH.cons rfl (fun K hK => ?_) AllReadyH.nil
  have s5 := hpstr.out w5 A5 n5 c5 _ t5.bys HPB.out.symm
  go_simp
  refine hK.out _ _ (hSA1) (fun hSA2 => ?_)
  clear hK K
  (refine wpAnyH_take (i := 5) (oi := ⟨some 20, .binOp .eql 9 (.tmp 16) (.tmp 19) 9, 4, "law.go:42", #[⟨1, .data⟩, ⟨4, .data⟩], none⟩) (v := ?_) rfl (by kernel_rfl) (by kernel_rfl) (by kernel_rfl) (fun _ _ _ h => h) (Or.inl ⟨by rfl, fun w' hSw => ?_⟩) hSA2 ?_; rotate_left; focus (go_simp; try with_reducible rfl))
  simp only [Act.put, List.setIfInBounds_toArray, List.set_cons_zero, List.set_cons_succ]
  (refine wpAnyH_take (i := 6) (oi := ⟨some 21, .move (.tmp 20), 4, "law.go:42", #[⟨5, .data⟩, ⟨3, .chain⟩], none⟩) (v := ?_) rfl (by kernel_rfl) (by kernel_rfl) (by kernel_rfl) (fun _ _ _ h => h) (Or.inl ⟨by rfl, fun w' hSw => ?_⟩) hSA2 ?_; rotate_left; focus (go_simp; try with_reducible rfl))
  simp only [Act.put, List.setIfInBounds_toArray, List.set_cons_zero, List.set_cons_succ]
  (refine wpAnyH_take (i := 7) (oi := ⟨some 22, .move (.tmp 3), 56, "law.go:42", #[⟨6, .guard⟩], some (6, true)⟩) (v := ?_) rfl (by kernel_rfl) (by kernel_rfl) (by kernel_rfl) (fun _ _ _ h => h) (Or.inl ⟨by rfl, fun w' hSw => ?_⟩) hSA2 ?_; rotate_left; focus (go_simp; try with_reducible rfl))
  simp only [Act.put, List.setIfInBounds_toArray, List.set_cons_zero, List.set_cons_succ]
  (refine wpAnyH_take (i := 8) (oi := ⟨some 23, .call { callee := .builtin .len, args := #[.tmp 22], argTypes := #[56] }, 3, "law.go:42", #[⟨7, .data⟩, ⟨6, .guard⟩], some (6, true)⟩) (v := ?_) rfl (by kernel_rfl) (by kernel_rfl) (by kernel_rfl) (fun _ _ _ h => h) (Or.inl ⟨by rfl, fun w' hSw => ?_⟩) hSA2 ?_; rotate_left; focus (go_simp; try with_reducible rfl))
  simp only [Act.put, List.setIfInBounds_toArray, List.set_cons_zero, List.set_cons_succ]
  (refine wpAnyH_take (i := 9) (oi := ⟨some 24, .binOp .eql 3 (.tmp 23) (.const (.int .i64 80)) 3, 4, "law.go:42", #[⟨8, .data⟩, ⟨6, .guard⟩], some (6, true)⟩) (v := ?_) rfl (by kernel_rfl) (by kernel_rfl) (by kernel_rfl) (fun _ _ _ h => h) (Or.inl ⟨by rfl, fun w' hSw => ?_⟩) hSA2 ?_; rotate_left; focus (go_simp; try with_reducible rfl))
  simp only [Act.put, List.setIfInBounds_toArray, List.set_cons_zero, List.set_cons_succ]
  (refine wpAnyH_take (i := 10) (oi := ⟨some 25, .pick (.tmp 21) (.tmp 24) (.const (.bool Bool.false)), 4, "law.go:42", #[⟨6, .data⟩, ⟨9, .data⟩], none⟩) (v := ?_) rfl (by kernel_rfl) (by kernel_rfl) (by kernel_rfl) (fun _ _ _ h => h) (Or.inl ⟨by rfl, fun w' hSw => ?_⟩) hSA2 ?_; rotate_left; focus (go_simp; try with_reducible rfl))
  simp only [Act.put, List.setIfInBounds_toArray, List.set_cons_zero, List.set_cons_succ]
  (refine wpAnyH_take (i := 11) (oi := ⟨some 26, .move (.tmp 25), 4, "law.go:42", #[⟨10, .data⟩, ⟨6, .chain⟩], none⟩) (v := ?_) rfl (by kernel_rfl) (by kernel_rfl) (by kernel_rfl) (fun _ _ _ h => h) (Or.inl ⟨by rfl, fun w' hSw => ?_⟩) hSA2 ?_; rotate_left; focus (go_simp; try with_reducible rfl))
  simp only [Act.put, List.setIfInBounds_toArray, List.set_cons_zero, List.set_cons_succ]
  (refine wpAnyH_take (i := 12) (oi := ⟨some 27, .move (.tmp 5), 69, "law.go:42", #[⟨11, .guard⟩], some (11, true)⟩) (v := ?_) rfl (by kernel_rfl) (by kernel_rfl) (by kernel_rfl) (fun _ _ _ h => h) (Or.inl ⟨by rfl, fun w' hSw => ?_⟩) hSA2 ?_; rotate_left; focus (go_simp; try with_reducible rfl))
  simp only [Act.put, List.setIfInBounds_toArray, List.set_cons_zero, List.set_cons_succ]
  (refine wpAnyH_take (i := 13) (oi := ⟨some 28, .binOp .eql 69 (.tmp 27) (.const (.int .i64 0)) 69, 4, "law.go:42", #[⟨12, .data⟩, ⟨11, .guard⟩], some (11, true)⟩) (v := ?_) rfl (by kernel_rfl) (by kernel_rfl) (by kernel_rfl) (fun _ _ _ h => h) (Or.inl ⟨by rfl, fun w' hSw => ?_⟩) hSA2 ?_; rotate_left; focus (go_simp; try with_reducible rfl))
  simp only [Act.put, List.setIfInBounds_toArray, List.set_cons_zero, List.set_cons_succ]
  (refine wpAnyH_take (i := 14) (oi := ⟨some 29, .pick (.tmp 26) (.tmp 28) (.const (.bool Bool.false)), 4, "law.go:42", #[⟨11, .data⟩, ⟨13, .data⟩], none⟩) (v := ?_) rfl (by kernel_rfl) (by kernel_rfl) (by kernel_rfl) (fun _ _ _ h => h) (Or.inl ⟨by rfl, fun w' hSw => ?_⟩) hSA2 ?_; rotate_left; focus (go_simp; try with_reducible rfl))
  simp only [Act.put, List.setIfInBounds_toArray, List.set_cons_zero, List.set_cons_succ]
  (refine wpAnyH_take (i := 15) (oi := ⟨some 30, .move (.tmp 29), 4, "law.go:42", #[⟨14, .data⟩, ⟨11, .chain⟩], none⟩) (v := ?_) rfl (by kernel_rfl) (by kernel_rfl) (by kernel_rfl) (fun _ _ _ h => h) (Or.inl ⟨by rfl, fun w' hSw => ?_⟩) hSA2 ?_; rotate_left; focus (go_simp; try with_reducible rfl))
  simp only [Act.put, List.setIfInBounds_toArray, List.set_cons_zero, List.set_cons_succ]
  (refine wpAnyH_take (i := 16) (oi := ⟨some 31, .load 33 (.tmp 4), 33, "law.go:42", #[⟨15, .guard⟩], some (15, true)⟩) (v := ?_) rfl (by kernel_rfl) (by kernel_rfl) (by kernel_rfl) (fun _ _ _ h => h) (Or.inl ⟨by rfl, fun w' hSw => ?_⟩) hSA2 ?_; rotate_left; focus (have lt := loadHead_run w' w3.heap.size 0 h (range_under T4.out.whole hSw) HF.out; go_simp; try with_reducible rfl))
  simp only [Act.put, List.setIfInBounds_toArray, List.set_cons_zero, List.set_cons_succ]
  (refine wpAnyH_take (i := 17) (oi := ⟨some 32, .load 33 (.tmp 1), 33, "law.go:42", #[⟨15, .guard⟩], some (15, true)⟩) (v := ?_) rfl (by kernel_rfl) (by kernel_rfl) (by kernel_rfl) (fun _ _ _ h => h) (Or.inl ⟨by rfl, fun w' hSw => ?_⟩) hSA2 ?_; rotate_left; focus (have lt := loadHead_run w' w.heap.size 0 h (range_under B4.out.whole hSw) HF.out; go_simp; try with_reducible rfl))
  simp only [Act.put, List.setIfInBounds_toArray, List.set_cons_zero, List.set_cons_succ]
  (refine wpAnyH_take (i := 18) (oi := ⟨some 33, .binOp .eql 33 (.tmp 31) (.tmp 32) 33, 4, "law.go:42", #[⟨16, .data⟩, ⟨17, .data⟩, ⟨15, .guard⟩], some (15, true)⟩) (v := ?_) rfl (by kernel_rfl) (by kernel_rfl) (by kernel_rfl) (fun _ _ _ h => h) (Or.inl ⟨by rfl, fun w' hSw => ?_⟩) hSA2 ?_; rotate_left; focus (have le := FH.out w'; go_simp; try with_reducible rfl))
  simp only [Act.put, List.setIfInBounds_toArray, List.set_cons_zero, List.set_cons_succ]
  (refine wpAnyH_take (i := 19) (oi := ⟨some 34, .pick (.tmp 30) (.tmp 33) (.const (.bool Bool.false)), 4, "law.go:42", #[⟨15, .data⟩, ⟨18, .data⟩], none⟩) (v := ?_) rfl (by kernel_rfl) (by kernel_rfl) (by kernel_rfl) (fun _ _ _ h => h) (Or.inl ⟨by rfl, fun w' hSw => ?_⟩) hSA2 ?_; rotate_left; focus (go_simp; try with_reducible rfl))
  simp only [Act.put, List.setIfInBounds_toArray, List.set_cons_zero, List.set_cons_succ]
  (refine wpAnyH_take (i := 20) (oi := ⟨some 35, .move (.tmp 34), 4, "law.go:42", #[⟨19, .data⟩, ⟨15, .chain⟩], none⟩) (v := ?_) rfl (by kernel_rfl) (by kernel_rfl) (by kernel_rfl) (fun _ _ _ h => h) (Or.inl ⟨by rfl, fun w' hSw => ?_⟩) hSA2 ?_; rotate_left; focus (go_simp; try with_reducible rfl))
  simp only [Act.put, List.setIfInBounds_toArray, List.set_cons_zero, List.set_cons_succ]
  (refine wpAnyH_take (i := 21) (oi := ⟨some 36, .load 33 (.tmp 1), 33, "law.go:42", #[⟨20, .guard⟩], some (20, true)⟩) (v := ?_) rfl (by kernel_rfl) (by kernel_rfl) (by kernel_rfl) (fun _ _ _ h => h) (Or.inl ⟨by rfl, fun w' hSw => ?_⟩) hSA2 ?_; rotate_left; focus (have lt := loadHead_run w' w.heap.size 0 h (range_under B4.out.whole hSw) HF.out; go_simp; try with_reducible rfl))
  simp only [Act.put, List.setIfInBounds_toArray, List.set_cons_zero, List.set_cons_succ]
  (refine wpAnyH_take (i := 23) (oi := ⟨some 38, .load 33 (.tmp 1), 33, "law.go:42", #[⟨20, .guard⟩], some (20, true)⟩) (v := ?_) rfl (by kernel_rfl) (by kernel_rfl) (by kernel_rfl) (fun _ _ _ h => h) (Or.inl ⟨by rfl, fun w' hSw => ?_⟩) hSA2 ?_; rotate_left; focus (have lt := loadHead_run w' w.heap.size 0 h (range_under B4.out.whole hSw) HF.out; go_simp; try with_reducible rfl))
  simp only [Act.put, List.setIfInBounds_toArray, List.set_cons_zero, List.set_cons_succ]
  refine wpAnyH_ready (rs := [22]) (by kernel_rfl) (by simp) ?_
  refine AllReadyH.cons rfl (fun K hK => ?_) AllReadyH.nil
  go_simp
  go_wp2_with (go_at_call 41; refine (BId_any w5 h HF.out).mono ?_; rintro e w6 ⟨rfl, b6⟩; rw [FL.out])
  refine hK.out _ _ (Below.then_ hSA2 b6) (fun hSA3 => ?_)
  clear hK K
  refine wpAnyH_ready (rs := [24]) (by kernel_rfl) (by simp) ?_
  refine AllReadyH.cons rfl (fun K hK => ?_) AllReadyH.nil
  go_simp
  go_wp2_with (go_at_call 17; refine (refBId_any w6 h HF.out).mono ?_; rintro e w7 ⟨rfl, b7⟩; rw [FL.out])
  refine hK.out _ _ (Below.then_ hSA3 b7) (fun hSA4 => ?_)
  clear hK K
  (refine wpAnyH_take (i := 25) (oi := ⟨some 40, .binOp .eql 31 (.tmp 37) (.tmp 39) 31, 4, "law.go:42", #[⟨22, .data⟩, ⟨24, .data⟩, ⟨20, .guard⟩], some (20, true)⟩) (v := ?_) rfl (by kernel_rfl) (by kernel_rfl) (by kernel_rfl) (fun _ _ _ h => h) (Or.inl ⟨by rfl, fun w' hSw => ?_⟩) hSA4 ?_; rotate_left; focus (have le := FE.out w'; go_simp; try with_reducible rfl))
  simp only [Act.put, List.setIfInBounds_toArray, List.set_cons_zero, List.set_cons_succ]
  (refine wpAnyH_take (i := 26) (oi := ⟨some 41, .pick (.tmp 35) (.tmp 40) (.const (.bool Bool.false)), 4, "law.go:42", #[⟨20, .data⟩, ⟨25, .data⟩], none⟩) (v := ?_) rfl (by kernel_rfl) (by kernel_rfl) (by kernel_rfl) (fun _ _ _ h => h) (Or.inl ⟨by rfl, fun w' hSw => ?_⟩) hSA4 ?_; rotate_left; focus (go_simp; try with_reducible rfl))
  simp only [Act.put, List.setIfInBounds_toArray, List.set_cons_zero, List.set_cons_succ]
  (refine wpAnyH_take (i := 27) (oi := ⟨some 2, .assign (.tmp 41), 4, "law.go:42", #[⟨26, .data⟩, ⟨24, .chain⟩, ⟨0, .phase⟩, ⟨1, .phase⟩, ⟨2, .phase⟩, ⟨3, .phase⟩, ⟨4, .phase⟩, ⟨5, .phase⟩, ⟨6, .phase⟩, ⟨7, .phase⟩, ⟨8, .phase⟩, ⟨9, .phase⟩, ⟨10, .phase⟩, ⟨11, .phase⟩, ⟨12, .phase⟩, ⟨13, .phase⟩, ⟨14, .phase⟩, ⟨15, .phase⟩, ⟨16, .phase⟩, ⟨17, .phase⟩, ⟨18, .phase⟩, ⟨19, .phase⟩, ⟨20, .phase⟩, ⟨21, .phase⟩, ⟨22, .phase⟩, ⟨23, .phase⟩, ⟨24, .phase⟩, ⟨25, .phase⟩, ⟨26, .phase⟩], none⟩) (v := ?_) rfl (by kernel_rfl) (by kernel_rfl) (by kernel_rfl) (fun _ _ _ h => h) (Or.inl ⟨by rfl, fun w' hSw => ?_⟩) hSA4 ?_; rotate_left; focus (go_simp; try with_reducible rfl))
  simp only [Act.put, List.setIfInBounds_toArray, List.set_cons_zero, List.set_cons_succ]
  refine wpAnyH_done (by kernel_rfl) ?_ _
  go_wp2_with fail
  go_ret
  exact ⟨rfl, Below.then_ HB4.out hSA4⟩
end Go.Proofs.Ytbpmcnfmgaolnaa
