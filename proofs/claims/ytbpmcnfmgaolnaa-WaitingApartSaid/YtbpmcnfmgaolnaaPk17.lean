import Derived.Test.YtbpmcnfmgaolnaaPk16
import Derived.Test.YtbpmcnfmgaolnaaPk11
import Derived.Test.YtbpmcnfmgaolnaaPk15
/-
  Blocks as bytes, the program's and the document's.
-/
namespace Go.Proofs.Ytbpmcnfmgaolnaa
open Go.RowKit

/-! ### A new variable, filled -/
theorem hash_store {w : World} {ops : Array Oper} {rest : List Oper} {op : Oper} {a : Act} {Q : Exit → Act → World → Prop} (hgd : op.guard = none) (x y : Operand) (ho : op.op = .store 31 x y) (w0 : World) (hw : w = w0.alloc (.cells (bcs zero32).toArray 31))
    (hx : a.eval x = .pointer (some ⟨w0.heap.size, 0, none⟩)) (H : List Int) (hH : H.length = 32) (hy : a.eval y = .agg (bcs H).toArray)
    (h : ∀ w', Below w0.heap.size w0 w' → w0.heap.size < w'.heap.size → Blk w' w0.heap.size 31 (bcs H) → wpList Try.prog ops Q rest (a.put op.dst undef) w') : wpList Try.prog ops Q (op :: rest) a w := by
  subst hw
  have hI : (Try.prog.info? 31).map (·.size) = some 32 := isHash
  have lz32 : (bcs zero32).length = 32 := rfl
  have lh : (bcs H).length = 32 := by rw [bcs_length, hH]
  refine wpList_store_blk hgd 31 x y ho w0.heap.size 0 31 (bcs zero32) (bcs H) hx hy (Blk.new w0 _ _) (by rw [lz32, lh]; decide) (by rw [hI, lh]) (bcs_one _) ?_
  intro w' o z b
  rw [lay_all _ _ (by rw [lz32, lh])] at b
  have hb : Below w0.heap.size w0 (w0.alloc (.cells (bcs zero32).toArray 31)) := below_alloc (Below.refl _ _) _
  exact h w' (hb.trans (o.below hb.size (fun i hi e => by have h9 : i = w0.heap.size := e; omega))) b.lt b
theorem tx_store {w : World} {ops : Array Oper} {rest : List Oper} {op : Oper} {a : Act} {Q : Exit → Act → World → Prop} (hgd : op.guard = none) (x y : Operand) (ho : op.op = .store 37 x y) (w0 : World) (hw : w = w0.alloc (.cells zeroV.cells.toArray 37))
    (hx : a.eval x = .pointer (some ⟨w0.heap.size, 0, none⟩)) (V : TxV) (hy : a.eval y = .agg V.cells.toArray)
    (h : ∀ w', Below w0.heap.size w0 w' → w0.heap.size < w'.heap.size → Blk w' w0.heap.size 37 V.cells → wpList Try.prog ops Q rest (a.put op.dst undef) w') : wpList Try.prog ops Q (op :: rest) a w := by
  subst hw
  have hI := isTx
  refine wpList_store_blk hgd 37 x y ho w0.heap.size 0 37 zeroV.cells V.cells hx hy (Blk.new w0 _ _) (Nat.le_refl _) (by exact hI) (TxV.one V) ?_
  intro w' o z b
  rw [lay_all _ _ (by rfl)] at b
  have hb : Below w0.heap.size w0 (w0.alloc (.cells zeroV.cells.toArray 37)) := below_alloc (Below.refl _ _) _
  exact h w' (hb.trans (o.below hb.size (fun i hi e => by have h9 : i = w0.heap.size := e; omega))) b.lt b
theorem blk_head {w : World} {g : Nat} {t : TypeId} {b : BlkV} (hb : Blk w g t b.cells) : w.rangeAt g 0 b.head.cells := head_range hb
theorem blk_txs {w : World} {g : Nat} {t : TypeId} {b : BlkV} (hb : Blk w g t b.cells) (hf : b.head.Fine) : w.cell? ⟨g, 68, none⟩ = some (.slice b.A b.n b.c) := by
  rw [hb.cell, BlkV.cells, head_at hf]; rfl
theorem BlkV.some_len (b : BlkV) {w : World} (hf : b.Fine w) (hs : b.Small) (j : Nat) : ((b.txs.take j).flatMap fun t => t.d.bytes).length ≤ 100000000 * j := by
  have h2 := flatMap_len (fun t : TxV => t.d.bytes) (b.txs.take j) 100000000 (fun t ht => TxV.bytes_len (hf.txs.2.1 t (List.mem_of_mem_take ht)) (hs.txs t (List.mem_of_mem_take ht)))
  rw [List.length_take] at h2
  exact Nat.le_trans h2 (Nat.mul_le_mul_left _ (Nat.min_le_left _ _))
attribute [local go_sem ↓] loadHead_fold loadTx_fold
set_option maxHeartbeats 4000000 in
set_option maxRecDepth 100000 in
theorem BBytes_any (w : World) (b : BlkV) (hf : b.Fine w) (hs : b.Small) :
    Calls Try.prog 32 #[.agg b.cells.toArray] w (MinePost 5 w none b.d.bytes) := by
  have B0 := Blk.new w 40 b.cells
  have hb0 := hide (show Below w.heap.size w (w.alloc (.cells b.cells.toArray 40)) from below_alloc (Below.refl _ _) _)
  have E := hide (BlkD.bytes_eq b)
  have HB0 := hide B0
  have HF := hide (hf.below hb0.out)
  have HS := hide hs
  have HN := hide hs.n
  have hlen := hide hf.txs.1
  clear hf hs B0
  go_enter Try.func32, Try.ntmps32
  go_wp2_with fail
  obtain ⟨w1, hw1⟩ : ∃ w1, w1 = w.alloc (.cells b.cells.toArray 40) := ⟨_, rfl⟩
  rw [← hw1] at HF HB0 hb0 ⊢
  clear hw1
  have hn9 : (b.n : Int) ≤ 1000 := by have := HN.out; omega
  have un : IntKind.u64.wrap (b.n : Int) = (b.n : Int) := u64_small _ (by omega) (by omega)
  refine wp_region_held_drew (S := fun w' => Below w1.heap.size w1 w') (by kernel_rfl) (by exact (Below.refl _ _).drew) (fun hSA0 => ?_)
  obtain ⟨w1d, hwA⟩ : ∃ x, x = w1.drew := ⟨_, rfl⟩
  rw [← hwA] at hSA0 ⊢
  clear hwA
  (refine wpAnyH_take (i := 0) (oi := ⟨some 6, .fieldAddr 40 (.tmp 1) 0, 0, "block.go:88", #[], none⟩) (v := ?_) rfl (by kernel_rfl) (by kernel_rfl) (by kernel_rfl) (fun _ _ _ h => h) (Or.inl ⟨by rfl, fun w' hSw => ?_⟩) hSA0 ?_; rotate_left; focus (go_simp; try with_reducible rfl))
  simp only [Act.put, List.setIfInBounds_toArray, List.set_cons_zero, List.set_cons_succ]
  (refine wpAnyH_take (i := 1) (oi := ⟨some 7, .load 33 (.tmp 6), 33, "block.go:88", #[⟨0, .data⟩], none⟩) (v := ?_) rfl (by kernel_rfl) (by kernel_rfl) (by kernel_rfl) (fun _ _ _ h => h) (Or.inl ⟨by rfl, fun w' hSw => ?_⟩) hSA0 ?_; rotate_left; focus (have l1 := loadHead_run w' w.heap.size 0 b.head (range_under (blk_head HB0.out) hSw) HF.out.head; go_simp; try with_reducible rfl))
  simp only [Act.put, List.setIfInBounds_toArray, List.set_cons_zero, List.set_cons_succ]
  (refine wpAnyH_take (i := 3) (oi := ⟨some 9, .fieldAddr 40 (.tmp 1) 1, 0, "block.go:88", #[], none⟩) (v := ?_) rfl (by kernel_rfl) (by kernel_rfl) (by kernel_rfl) (fun _ _ _ h => h) (Or.inl ⟨by rfl, fun w' hSw => ?_⟩) hSA0 ?_; rotate_left; focus (go_simp; try with_reducible rfl))
  simp only [Act.put, List.setIfInBounds_toArray, List.set_cons_zero, List.set_cons_succ]
  (refine wpAnyH_take (i := 4) (oi := ⟨some 10, .load 38 (.tmp 9), 38, "block.go:88", #[⟨3, .data⟩], none⟩) (v := ?_) rfl (by kernel_rfl) (by kernel_rfl) (by kernel_rfl) (fun _ _ _ h => h) (Or.inl ⟨by rfl, fun w' hSw => ?_⟩) hSA0 ?_; rotate_left; focus (have l1 := blk_txs (HB0.out.under hSw) HF.out.head; go_simp; try with_reducible rfl))
  simp only [Act.put, List.setIfInBounds_toArray, List.set_cons_zero, List.set_cons_succ]
  (refine wpAnyH_take (i := 5) (oi := ⟨some 11, .call { callee := .builtin .len, args := #[.tmp 10], argTypes := #[38] }, 3, "block.go:88", #[⟨4, .data⟩], none⟩) (v := ?_) rfl (by kernel_rfl) (by kernel_rfl) (by kernel_rfl) (fun _ _ _ h => h) (Or.inl ⟨by rfl, fun w' hSw => ?_⟩) hSA0 ?_; rotate_left; focus (go_simp; try with_reducible rfl))
  simp only [Act.put, List.setIfInBounds_toArray, List.set_cons_zero, List.set_cons_succ]
  (refine wpAnyH_take (i := 6) (oi := ⟨some 12, .convert 3 113 (.tmp 11), 113, "block.go:88", #[⟨5, .data⟩], none⟩) (v := ?_) rfl (by kernel_rfl) (by kernel_rfl) (by kernel_rfl) (fun _ _ _ h => h) (Or.inl ⟨by rfl, fun w' hSw => ?_⟩) hSA0 ?_; rotate_left; focus (go_simp; try with_reducible rfl))
  simp only [Act.put, List.setIfInBounds_toArray, List.set_cons_zero, List.set_cons_succ]
  refine wpAnyH_ready (rs := [2]) (by kernel_rfl) (by simp) ?_
  refine AllReadyH.cons rfl (fun K hK => ?_) AllReadyH.nil
  go_simp
  refine (HeadBytes_any w1d b.head HF.out.head).mono ?_
  rintro e w2 ⟨A2, n2, c2, rfl, t2, f2⟩
  go_simp
  have T2 := hide t2
  have F2 := hide (f2 (Fr.none _))
  have g2 := t2.below
  clear t2 f2
  refine hK.out _ _ (Below.then_ hSA0 g2) (fun hSA1 => ?_)
  clear hK K
  refine wpAnyH_ready (rs := [7]) (by kernel_rfl) (by simp) ?_
  refine AllReadyH.cons rfl (fun K hK => ?_) AllReadyH.nil
  go_simp
  refine (Count_any w2 w2 A2 n2 c2 _ (b.n : Int) (Below.refl _ _) T2.out.bys T2.out.cap (by omega) (by omega) (by have h1 := T2.out.len; rw [HeadD.bytes_len HF.out.head] at h1; omega)).mono ?_
  rintro e w3 ⟨A3, n3, c3, rfl, t3, f3⟩
  go_simp
  have T3' := hide t3
  have F3' := hide (f3 (Fr.none _))
  have g3 := t3.below
  clear t3 f3
  refine hK.out _ _ (Below.then_ hSA1 g3) (fun hSA2 => ?_)
  clear hK K
  (refine wpAnyH_take (i := 8) (oi := ⟨some 3, .assign (.tmp 13), 56, "block.go:88", #[⟨7, .data⟩, ⟨7, .chain⟩, ⟨0, .phase⟩, ⟨1, .phase⟩, ⟨2, .phase⟩, ⟨3, .phase⟩, ⟨4, .phase⟩, ⟨5, .phase⟩, ⟨6, .phase⟩, ⟨7, .phase⟩], none⟩) (v := ?_) rfl (by kernel_rfl) (by kernel_rfl) (by kernel_rfl) (fun _ _ _ h => h) (Or.inl ⟨by rfl, fun w' hSw => ?_⟩) hSA2 ?_; rotate_left; focus (go_simp; try with_reducible rfl))
  simp only [Act.put, List.setIfInBounds_toArray, List.set_cons_zero, List.set_cons_succ]
  refine wpAnyH_done (by kernel_rfl) ?_ _
  have HA0 := hide hSA0
  have HA1 := hide hSA1
  clear hSA0 hSA1 hSA2 g2 g3
  obtain ⟨p0, hp0⟩ : ∃ p0, p0 = b.head.bytes ++ cnt b.n := ⟨_, rfl⟩
  have HP0 := hide hp0
  have hl0 := hide (show p0.length ≤ 89 by rw [hp0, List.length_append, HeadD.bytes_len HF.out.head]; have := (cnt_length b.n).2; omega)
  have T3 := hide (show Mine 5 w1 w3 A3 n3 c3 p0 by
    have h1 := T3'.out.older (show Below w1.heap.size w1 w2 from HA1.out)
    rw [hp0]; simpa using h1)
  have F3 := hide (show Fr w1 A3 from F3'.out.older (show Below w1.heap.size w1 w2 from HA1.out))
  clear T3' F3'
  clear hp0
  have k68 := blk_txs (HB0.out.under T3.out.below) HF.out.head
  go_wp2_with fail
  go_loopw [3, 17] (fun v i ws => ∃ (j : Nat) (A' : Option Addr) (m' c' : Nat), j ≤ b.n ∧ i = .int .i64 j ∧ v = .slice A' m' c' ∧ Mine 5 w1 ws A' m' c' (p0 ++ (b.txs.take j).flatMap fun t => t.d.bytes) ∧ Fr w1 A') (fun _ i _ => b.n - (intOf i).toNat)
  case atStart => exact ⟨0, A3, n3, c3, by omega, rfl, rfl, by simpa using T3.out, F3.out⟩
  case round =>
    obtain ⟨j, A4, n4, c4, hj, rfl, rfl, ht, hfr⟩ := hrel
    have HT := hide ht
    have HFR := hide hfr
    have hl4 := hide (show n4 ≤ 89 + 100000000 * j by
      have h1 := ht.len
      have h2 := b.some_len HF.out HS.out j
      have h3 := hl0.out
      rw [List.length_append] at h1
      omega)
    by_cases hlt : j < b.n
    · obtain ⟨t, hta⟩ : ∃ t, b.txs[j]? = some t := ⟨_, List.getElem?_eq_getElem (by have := hlen.out; omega)⟩
      obtain ⟨pb, off, hpa, hrow⟩ := HF.out.txs.2.2 (by omega)
      have hld := loadTx_run wr pb (off + j * 4) t (range_under (hrow j t hta) ht.below)
      have HTF := hide ((HF.out.txs.2.1 t (List.mem_of_getElem? hta)).below ht.below)
      have HTS := hide (HS.out.txs t (List.mem_of_getElem? hta))
      have HTA := hide (flatMap_take (fun t : TxV => t.d.bytes) b.txs j t hta)
      have i0 : (0 : Int) ≤ (j : Int) := by omega
      have i1 : (j : Int) < (b.n : Int) := by omega
      clear ht hfr hrow hta
      rw [hpa]
      go_wp2_with (first
        | (refine wpList_alloc_agg rfl 37 rfl zeroV.cells zeroTx_info ?_; simp only [Act.put, List.setIfInBounds_toArray, List.set_cons_zero, List.set_cons_succ])
        | (refine tx_store rfl _ _ rfl wr rfl (by rfl) t (by rfl) ?_; intro w5 b5 s5 k5; have l5 := loadTx_run w5 wr.heap.size 0 t k5.whole; have B5 := hide b5; clear b5 s5 k5; simp only [Act.put]))
      refine (TBytes_any w5 t (HTF.out.below B5.out) HTS.out).mono ?_
      rintro e w6 ⟨A6, n6, c6, rfl, t6, f6⟩
      have Y6 := hide t6.bys
      have h6 := hide (show n6 ≤ 100000000 by have h1 := t6.len; have h2 := TxV.bytes_len (HTF.out.below B5.out) HTS.out; omega)
      have T46 := hide ((HT.out.keep B5.out).keep t6.below)
      clear t6 f6 l5 hld
      go_wp2_with (at_builtin; refine wpList_app rfl _ _ rfl w1 A4 n4 c4 _ (by rfl) T46.out A6 n6 c6 t.d.bytes (by rfl) Y6.out (by have h1 := hl4.out; have h2 := h6.out; have h3 := HN.out; omega) ?_; intro A7 n7 c7 w7 t7 f7; have T7 := hide t7; have F7 := hide (f7 (.inl HFR.out)); clear t7 f7; simp only [Act.put, List.setIfInBounds_toArray, List.set_cons_zero, List.set_cons_succ])
      exact ⟨⟨j + 1, A7, n7, c7, by omega, by simp, rfl, by rw [HTA.out, ← List.append_assoc]; exact T7.out, F7.out⟩, by simp [intOf]; omega⟩
    · obtain rfl : j = b.n := by omega
      have hfull : b.txs.take b.n = b.txs := List.take_of_length_le (by rw [hlen.out]; exact Nat.le_refl _)
      have i1 : ¬ (b.n : Int) < (b.n : Int) := by omega
      rw [hfull] at HT
      clear ht hfr hfull
      go_wp2_with fail
      go_ret
      rw [E.out, hlen.out, ← HP0.out]
      exact MinePost.mk (HT.out.older hb0.out) (HFR.out.older hb0.out)
set_option maxHeartbeats 4000000 in
set_option maxRecDepth 100000 in
theorem refBBytes_any (w : World) (b : BlkV) (hf : b.Fine w) (hs : b.Small) :
    Calls Try.prog 27 #[.agg b.cells.toArray] w (MinePost 5 w none b.d.bytes) := by
  have B0 := Blk.new w 40 b.cells
  have hb0 := hide (show Below w.heap.size w (w.alloc (.cells b.cells.toArray 40)) from below_alloc (Below.refl _ _) _)
  have E := hide (BlkD.bytes_eq b)
  have HB0 := hide B0
  have HF := hide (hf.below hb0.out)
  have HS := hide hs
  have HN := hide hs.n
  have hlen := hide hf.txs.1
  clear hf hs B0
  go_enter Try.func27, Try.ntmps27
  go_wp2_with fail
  obtain ⟨w1, hw1⟩ : ∃ w1, w1 = w.alloc (.cells b.cells.toArray 40) := ⟨_, rfl⟩
  rw [← hw1] at HF HB0 hb0 ⊢
  clear hw1
  have hn9 : (b.n : Int) ≤ 1000 := by have := HN.out; omega
  have un : IntKind.u64.wrap (b.n : Int) = (b.n : Int) := u64_small _ (by omega) (by omega)
  refine wp_region_held_drew (S := fun w' => Below w1.heap.size w1 w') (by kernel_rfl) (by exact (Below.refl _ _).drew) (fun hSA0 => ?_)
  obtain ⟨w1d, hwA⟩ : ∃ x, x = w1.drew := ⟨_, rfl⟩
  rw [← hwA] at hSA0 ⊢
  clear hwA
  (refine wpAnyH_take (i := 0) (oi := ⟨some 6, .fieldAddr 40 (.tmp 1) 0, 0, "ref.go:75", #[], none⟩) (v := ?_) rfl (by kernel_rfl) (by kernel_rfl) (by kernel_rfl) (fun _ _ _ h => h) (Or.inl ⟨by rfl, fun w' hSw => ?_⟩) hSA0 ?_; rotate_left; focus (go_simp; try with_reducible rfl))
  simp only [Act.put, List.setIfInBounds_toArray, List.set_cons_zero, List.set_cons_succ]
  (refine wpAnyH_take (i := 1) (oi := ⟨some 7, .load 33 (.tmp 6), 33, "ref.go:75", #[⟨0, .data⟩], none⟩) (v := ?_) rfl (by kernel_rfl) (by kernel_rfl) (by kernel_rfl) (fun _ _ _ h => h) (Or.inl ⟨by rfl, fun w' hSw => ?_⟩) hSA0 ?_; rotate_left; focus (have l1 := loadHead_run w' w.heap.size 0 b.head (range_under (blk_head HB0.out) hSw) HF.out.head; go_simp; try with_reducible rfl))
  simp only [Act.put, List.setIfInBounds_toArray, List.set_cons_zero, List.set_cons_succ]
  (refine wpAnyH_take (i := 3) (oi := ⟨some 9, .fieldAddr 40 (.tmp 1) 1, 0, "ref.go:75", #[], none⟩) (v := ?_) rfl (by kernel_rfl) (by kernel_rfl) (by kernel_rfl) (fun _ _ _ h => h) (Or.inl ⟨by rfl, fun w' hSw => ?_⟩) hSA0 ?_; rotate_left; focus (go_simp; try with_reducible rfl))
  simp only [Act.put, List.setIfInBounds_toArray, List.set_cons_zero, List.set_cons_succ]
  (refine wpAnyH_take (i := 4) (oi := ⟨some 10, .load 38 (.tmp 9), 38, "ref.go:75", #[⟨3, .data⟩], none⟩) (v := ?_) rfl (by kernel_rfl) (by kernel_rfl) (by kernel_rfl) (fun _ _ _ h => h) (Or.inl ⟨by rfl, fun w' hSw => ?_⟩) hSA0 ?_; rotate_left; focus (have l1 := blk_txs (HB0.out.under hSw) HF.out.head; go_simp; try with_reducible rfl))
  simp only [Act.put, List.setIfInBounds_toArray, List.set_cons_zero, List.set_cons_succ]
  (refine wpAnyH_take (i := 5) (oi := ⟨some 11, .call { callee := .builtin .len, args := #[.tmp 10], argTypes := #[38] }, 3, "ref.go:75", #[⟨4, .data⟩], none⟩) (v := ?_) rfl (by kernel_rfl) (by kernel_rfl) (by kernel_rfl) (fun _ _ _ h => h) (Or.inl ⟨by rfl, fun w' hSw => ?_⟩) hSA0 ?_; rotate_left; focus (go_simp; try with_reducible rfl))
  simp only [Act.put, List.setIfInBounds_toArray, List.set_cons_zero, List.set_cons_succ]
  (refine wpAnyH_take (i := 6) (oi := ⟨some 12, .convert 3 113 (.tmp 11), 113, "ref.go:75", #[⟨5, .data⟩], none⟩) (v := ?_) rfl (by kernel_rfl) (by kernel_rfl) (by kernel_rfl) (fun _ _ _ h => h) (Or.inl ⟨by rfl, fun w' hSw => ?_⟩) hSA0 ?_; rotate_left; focus (go_simp; try with_reducible rfl))
  simp only [Act.put, List.setIfInBounds_toArray, List.set_cons_zero, List.set_cons_succ]
  refine wpAnyH_ready (rs := [2]) (by kernel_rfl) (by simp) ?_
  refine AllReadyH.cons rfl (fun K hK => ?_) AllReadyH.nil
  go_simp
  refine (refHeadBytes_any w1d b.head HF.out.head).mono ?_
  rintro e w2 ⟨A2, n2, c2, rfl, t2, f2⟩
  go_simp
  have T2 := hide t2
  have F2 := hide (f2 (Fr.none _))
  have g2 := t2.below
  clear t2 f2
  refine hK.out _ _ (Below.then_ hSA0 g2) (fun hSA1 => ?_)
  clear hK K
  refine wpAnyH_ready (rs := [7]) (by kernel_rfl) (by simp) ?_
  refine AllReadyH.cons rfl (fun K hK => ?_) AllReadyH.nil
  go_simp
  refine (refcount_any w2 w2 (b.n : Int) (Below.refl _ _) (by omega) (by omega)).mono ?_
  rintro e w2b ⟨Ab, nb, cb, rfl, tb, fb⟩
  go_simp
  have TB := hide tb
  have g2b := tb.below
  clear tb fb
  refine hK.out _ _ (Below.then_ hSA1 g2b) (fun hSA2 => ?_)
  clear hK K
  refine wpAnyH_ready (rs := [8]) (by kernel_rfl) (by simp) ?_
  refine AllReadyH.cons rfl (fun K hK => ?_) AllReadyH.nil
  refine step_app rfl 14 rfl _ _ rfl w1d A2 n2 c2 b.head.bytes (by rfl) (T2.out.keep TB.out.below) Ab nb cb (cnt (b.n : Int).toNat) (by rfl) TB.out.bys (by have h1 := T2.out.len; rw [HeadD.bytes_len HF.out.head] at h1; have h2 := TB.out.len; have h3 := (cnt_length (b.n : Int).toNat).2; omega) ?_
  intro A3 n3 c3 w3 t3 f3
  have T3' := hide t3
  have F3' := hide (f3 (.inl F2.out))
  clear t3 f3
  refine hK.out _ _ (Below.then_ hSA0 T3'.out.below) (fun hSA3 => ?_)
  clear hK K
  (refine wpAnyH_take (i := 9) (oi := ⟨some 3, .assign (.tmp 14), 56, "ref.go:75", #[⟨8, .data⟩, ⟨8, .chain⟩, ⟨0, .phase⟩, ⟨1, .phase⟩, ⟨2, .phase⟩, ⟨3, .phase⟩, ⟨4, .phase⟩, ⟨5, .phase⟩, ⟨6, .phase⟩, ⟨7, .phase⟩, ⟨8, .phase⟩], none⟩) (v := ?_) rfl (by kernel_rfl) (by kernel_rfl) (by kernel_rfl) (fun _ _ _ h => h) (Or.inl ⟨by rfl, fun w' hSw => ?_⟩) hSA3 ?_; rotate_left; focus (go_simp; try with_reducible rfl))
  simp only [Act.put, List.setIfInBounds_toArray, List.set_cons_zero, List.set_cons_succ]
  refine wpAnyH_done (by kernel_rfl) ?_ _
  have HA0 := hide hSA0
  clear hSA0 hSA1 hSA2 hSA3 g2 g2b
  obtain ⟨p0, hp0⟩ : ∃ p0, p0 = b.head.bytes ++ cnt b.n := ⟨_, rfl⟩
  have HP0 := hide hp0
  have hl0 := hide (show p0.length ≤ 89 by rw [hp0, List.length_append, HeadD.bytes_len HF.out.head]; have := (cnt_length b.n).2; omega)
  have T3 := hide (show Mine 5 w1 w3 A3 n3 c3 p0 by
    have h1 := T3'.out.older HA0.out
    rw [hp0]; simpa using h1)
  have F3 := hide (show Fr w1 A3 from F3'.out.older HA0.out)
  clear T3' F3'
  clear hp0
  have k68 := blk_txs (HB0.out.under T3.out.below) HF.out.head
  go_wp2_with fail
  go_loopw [3, 18] (fun v i ws => ∃ (j : Nat) (A' : Option Addr) (m' c' : Nat), j ≤ b.n ∧ i = .int .i64 j ∧ v = .slice A' m' c' ∧ Mine 5 w1 ws A' m' c' (p0 ++ (b.txs.take j).flatMap fun t => t.d.bytes) ∧ Fr w1 A') (fun _ i _ => b.n - (intOf i).toNat)
  case atStart => exact ⟨0, A3, n3, c3, by omega, rfl, rfl, by simpa using T3.out, F3.out⟩
  case round =>
    obtain ⟨j, A4, n4, c4, hj, rfl, rfl, ht, hfr⟩ := hrel
    have HT := hide ht
    have HFR := hide hfr
    have hl4 := hide (show n4 ≤ 89 + 100000000 * j by
      have h1 := ht.len
      have h2 := b.some_len HF.out HS.out j
      have h3 := hl0.out
      rw [List.length_append] at h1
      omega)
    by_cases hlt : j < b.n
    · obtain ⟨t, hta⟩ : ∃ t, b.txs[j]? = some t := ⟨_, List.getElem?_eq_getElem (by have := hlen.out; omega)⟩
      obtain ⟨pb, off, hpa, hrow⟩ := HF.out.txs.2.2 (by omega)
      have hld := loadTx_run wr pb (off + j * 4) t (range_under (hrow j t hta) ht.below)
      have HTF := hide ((HF.out.txs.2.1 t (List.mem_of_getElem? hta)).below ht.below)
      have HTS := hide (HS.out.txs t (List.mem_of_getElem? hta))
      have HTA := hide (flatMap_take (fun t : TxV => t.d.bytes) b.txs j t hta)
      have i0 : (0 : Int) ≤ (j : Int) := by omega
      have i1 : (j : Int) < (b.n : Int) := by omega
      clear ht hfr hrow hta
      rw [hpa]
      go_wp2_with (first
        | (refine wpList_alloc_agg rfl 37 rfl zeroV.cells zeroTx_info ?_; simp only [Act.put, List.setIfInBounds_toArray, List.set_cons_zero, List.set_cons_succ])
        | (refine tx_store rfl _ _ rfl wr rfl (by rfl) t (by rfl) ?_; intro w5 b5 s5 k5; have l5 := loadTx_run w5 wr.heap.size 0 t k5.whole; have B5 := hide b5; clear b5 s5 k5; simp only [Act.put]))
      refine (refTBytes_any w5 t (HTF.out.below B5.out) HTS.out).mono ?_
      rintro e w6 ⟨A6, n6, c6, rfl, t6, f6⟩
      have Y6 := hide t6.bys
      have h6 := hide (show n6 ≤ 100000000 by have h1 := t6.len; have h2 := TxV.bytes_len (HTF.out.below B5.out) HTS.out; omega)
      have T46 := hide ((HT.out.keep B5.out).keep t6.below)
      clear t6 f6 l5 hld
      go_wp2_with (at_builtin; refine wpList_app rfl _ _ rfl w1 A4 n4 c4 _ (by rfl) T46.out A6 n6 c6 t.d.bytes (by rfl) Y6.out (by have h1 := hl4.out; have h2 := h6.out; have h3 := HN.out; omega) ?_; intro A7 n7 c7 w7 t7 f7; have T7 := hide t7; have F7 := hide (f7 (.inl HFR.out)); clear t7 f7; simp only [Act.put, List.setIfInBounds_toArray, List.set_cons_zero, List.set_cons_succ])
      exact ⟨⟨j + 1, A7, n7, c7, by omega, by simp, rfl, by rw [HTA.out, ← List.append_assoc]; exact T7.out, F7.out⟩, by simp [intOf]; omega⟩
    · obtain rfl : j = b.n := by omega
      have hfull : b.txs.take b.n = b.txs := List.take_of_length_le (by rw [hlen.out]; exact Nat.le_refl _)
      have i1 : ¬ (b.n : Int) < (b.n : Int) := by omega
      rw [hfull] at HT
      clear ht hfr hfull
      go_wp2_with fail
      go_ret
      rw [E.out, hlen.out, ← HP0.out]
      exact MinePost.mk (HT.out.older hb0.out) (HFR.out.older hb0.out)
end Go.Proofs.Ytbpmcnfmgaolnaa
/-
  A block's transactions' names, the program's and the document's; rows of hashes.
-/
namespace Go.Proofs.Ytbpmcnfmgaolnaa
open Go.RowKit

def HFine (_ : World) (x : List Int) : Prop := x.length = 32 ∧ Byt x
/-- A slice of hashes that reads so. -/
abbrev HashesIn (w : World) (A : Option Addr) (n : Nat) (xs : List (List Int)) : Prop := RowsIn bcs 32 HFine w A n xs
theorem HashesIn.below' {w w' : World} {A : Option Addr} {n : Nat} {xs : List (List Int)} (h : HashesIn w A n xs) (hb : Below w.heap.size w w') : HashesIn w' A n xs := h.below hb fun _ h => h
theorem hash_infoR : (Try.prog.info? 31).map (fun i => (i.size, i.bytes, i.zero.map (fun z => z.cells.size))) = some (32, 32, some 32) := by kernel_rfl
theorem hash_zeros : (Try.prog.info? 31).map (fun i => i.zero.map (fun z => z.cells.size)) = some (some 32) := by kernel_rfl
def mkHs1 (parts : Array (Nat × Value)) : Sem Value := Instr.buildSlice 65 1 parts
theorem mkHs1_fold (parts : Array (Nat × Value)) : Instr.buildSlice 65 1 parts = mkHs1 parts := rfl
theorem mkHs1_run (w : World) (H : List Int) (h : H.length = 32) : (mkHs1 #[(0, .agg (bcs H).toArray)]).run Try.prog w = .ok (.slice (some ⟨w.heap.size, 0, none⟩) 1 1) (w.alloc (.cells (bcs H).toArray 31)) :=
  run_buildSlice_one 65 31 32 Try.underlying65 isHash hash_zeros (by decide) (by decide) (bcs H) (by rw [bcs_length, h]) w
/-- A row of hashes of one's own is handed back. -/
def HRowPost (w : World) (l : List (List Int)) (e : Ending) (w' : World) : Prop :=
  ∃ A c, e = .returned (.slice A l.length c) ∧ HashesIn w' A l.length l ∧ l.length ≤ c ∧ Below w.heap.size w w' ∧ Fr w A
theorem HRowPost.of {w w1 w' : World} {l : List (List Int)} {A : Option Addr} {n c : Nat} (hn : n = l.length) (h : MineR 31 32 w1 w' (.slice A n c) n (l.flatMap bcs)) (hb : Below w.heap.size w w1) (hf : ∀ x ∈ l, x.length = 32 ∧ Byt x) : HRowPost w l (.returned (.slice A n c)) w' := by
  subst hn
  obtain ⟨A1, c1, e1, hc, hfr, hrow⟩ := h.rows (by decide)
  injection e1 with e1 _ e3
  subst e1; subst e3
  refine ⟨A, c, rfl, rows_of rfl (fun a ha => by rw [bcs_length, (hf a ha).1]) h.2 hf, hc, Below.then_ hb h.1, fun ad e => Nat.le_trans hb.size (hfr ad e)⟩
theorem TxV.id_len (t : TxV) : (sha2 t.d.bytes).length = 32 := sha2_len _
attribute [local go_sem ↓] loadTx_fold mkHs1_fold
set_option maxHeartbeats 4000000 in
set_option maxRecDepth 100000 in
theorem BIds_any (w : World) (b : BlkV) (hf : b.Fine w) (hs : b.Small) :
    Calls Try.prog 38 #[.agg b.cells.toArray] w (HRowPost w b.d.ids) := by
  have B0 := Blk.new w 40 b.cells
  have hb0 := hide (show Below w.heap.size w (w.alloc (.cells b.cells.toArray 40)) from below_alloc (Below.refl _ _) _)
  have HB0 := hide B0
  have HF := hide (hf.below hb0.out)
  have HS := hide hs
  have HN := hide hs.n
  have hlen := hide hf.txs.1
  have E := hide (show b.d.ids = b.txs.map fun t => sha2 t.d.bytes by simp [BlkV.d, BlkD.ids])
  have k68 := blk_txs B0 hf.head
  clear hf hs B0
  go_enter Try.func38, Try.ntmps38
  go_wp2_with fail
  obtain ⟨w1, hw1⟩ : ∃ w1, w1 = w.alloc (.cells b.cells.toArray 40) := ⟨_, rfl⟩
  rw [← hw1] at HF HB0 hb0 ⊢
  clear hw1 k68
  have hn9 : (b.n : Int) ≤ 1000 := by have := HN.out; omega
  have M0 := hide (show MineR 31 32 w1 w1 (.slice none 0 0) 0 (((b.txs.take 0).map fun t => sha2 t.d.bytes).flatMap bcs) from MineR.nil (Below.refl _ _) _ _)
  go_loopw [3, 9] (fun v i ws => ∃ (j : Nat) (A' : Option Addr) (c' : Nat), j ≤ b.n ∧ i = .int .i64 j ∧ v = .slice A' j c' ∧ MineR 31 32 w1 ws (.slice A' j c') j (((b.txs.take j).map fun t => sha2 t.d.bytes).flatMap bcs)) (fun _ i _ => b.n - (intOf i).toNat)
  case atStart => exact ⟨0, _, _, by omega, rfl, rfl, M0.out⟩
  case round =>
    obtain ⟨j, A4, c4, hj, rfl, rfl, ht⟩ := hrel
    have HT := hide ht
    by_cases hlt : j < b.n
    · obtain ⟨t, hta⟩ : ∃ t, b.txs[j]? = some t := ⟨_, List.getElem?_eq_getElem (by have := hlen.out; omega)⟩
      obtain ⟨pb, off, hpa, hrow⟩ := HF.out.txs.2.2 (by omega)
      have hld := loadTx_run wr pb (off + j * 4) t (range_under (hrow j t hta) ht.below)
      have HTF := hide ((HF.out.txs.2.1 t (List.mem_of_getElem? hta)).below ht.below)
      have HTS := hide (HS.out.txs t (List.mem_of_getElem? hta))
      have HTA := hide (show ((b.txs.take (j + 1)).map fun t => sha2 t.d.bytes).flatMap bcs = ((b.txs.take j).map fun t => sha2 t.d.bytes).flatMap bcs ++ bcs (sha2 t.d.bytes) by
        rw [List.take_add_one, hta]; simp)
      have i0 : (0 : Int) ≤ (j : Int) := by omega
      have i1 : (j : Int) < (b.n : Int) := by omega
      have hj9 : j ≤ 1000 := by have := HN.out; omega
      clear ht hrow hta
      rw [hpa]
      go_wp2_with (first
        | (refine wpList_alloc_agg rfl 37 rfl zeroV.cells zeroTx_info ?_; simp only [Act.put, List.setIfInBounds_toArray, List.set_cons_zero, List.set_cons_succ])
        | (refine tx_store rfl _ _ rfl wr rfl (by rfl) t (by rfl) ?_; intro w5 b5 s5 k5; have l5 := loadTx_run w5 wr.heap.size 0 t k5.whole; have B5 := hide b5; clear b5 s5 k5; simp only [Act.put]))
      refine (TId_any w5 t (HTF.out.below B5.out) HTS.out).mono ?_
      rintro e w6 ⟨rfl, b6⟩
      obtain ⟨H, hH⟩ : ∃ H, H = sha2 t.d.bytes := ⟨_, rfl⟩
      rw [← hH] at HTA ⊢
      have HL := hide (show H.length = 32 by rw [hH]; exact sha2_len _)
      have hmk := mkHs1_run w6 H HL.out
      have NB := hide (show (w6.alloc (.cells (bcs H).toArray 31)).rangeAt w6.heap.size 0 (bcs H) from (Blk.new w6 31 (bcs H)).whole)
      have T46 := hide (((HT.out.keep B5.out).keep b6).alloc (.cells (bcs H).toArray 31))
      clear b6 l5 hld hH
      go_wp2_with (at_builtin; refine wpList_mineR rfl _ _ 65 rfl 31 32 32 Try.underlying65 hash_infoR (by decide) w1 (.slice A4 j c4) j _ (by rfl) T46.out w6.heap.size 0 1 1 (bcs H) (by rfl) (by rw [bcs_length, HL.out]) NB.out (bcs_one _) (by omega) (by decide) ?_; intro A7 c7 w7 q1 q2 q3; have T7 := hide q1; clear q1 q2 q3; simp only [Act.put, List.setIfInBounds_toArray, List.set_cons_zero, List.set_cons_succ])
      exact ⟨⟨j + 1, A7, c7, by omega, by simp, rfl, by rw [HTA.out]; exact T7.out⟩, by simp [intOf]; omega⟩
    · obtain rfl : j = b.n := by omega
      have hfull : b.txs.take b.n = b.txs := List.take_of_length_le (by rw [hlen.out]; exact Nat.le_refl _)
      have i1 : ¬ (b.n : Int) < (b.n : Int) := by omega
      rw [hfull, ← E.out] at HT
      have hl9 := hide (show b.n = b.d.ids.length by rw [E.out, List.length_map, hlen.out])
      clear ht hfull
      go_wp2_with fail
      go_ret
      refine HRowPost.of hl9.out HT.out hb0.out (fun x hx => ?_)
      rw [E.out] at hx
      obtain ⟨t, _, rfl⟩ := List.mem_map.1 hx
      exact ⟨sha2_len _, sha2_byt _⟩
set_option maxHeartbeats 4000000 in
set_option maxRecDepth 100000 in
theorem refBIds_any (w : World) (b : BlkV) (hf : b.Fine w) (hs : b.Small) :
    Calls Try.prog 39 #[.agg b.cells.toArray] w (HRowPost w b.d.ids) := by
  have B0 := Blk.new w 40 b.cells
  have hb0 := hide (show Below w.heap.size w (w.alloc (.cells b.cells.toArray 40)) from below_alloc (Below.refl _ _) _)
  have HB0 := hide B0
  have HF := hide (hf.below hb0.out)
  have HS := hide hs
  have HN := hide hs.n
  have hlen := hide hf.txs.1
  have E := hide (show b.d.ids = b.txs.map fun t => sha2 t.d.bytes by simp [BlkV.d, BlkD.ids])
  have k68 := blk_txs (B0.alloc (.cells #[] 31)) hf.head
  clear hf hs B0
  go_enter Try.func39, Try.ntmps39
  go_wp2_with fail
  obtain ⟨w1, hw1⟩ : ∃ w1, w1 = w.alloc (.cells b.cells.toArray 40) := ⟨_, rfl⟩
  have HQ : w1.heap.size = w.heap.size + 1 := by rw [hw1]; simp
  rw [← hw1] at HF HB0 hb0 ⊢
  clear hw1 k68
  have hn9 : (b.n : Int) ≤ 1000 := by have := HN.out; omega
  obtain ⟨w0, hw0⟩ : ∃ w0, w0 = w1.alloc (.cells #[] 31) := ⟨_, rfl⟩
  have M0 := hide (show MineR 31 32 w1 w0 (.slice (some ⟨w.heap.size + 1, 0, none⟩) 0 0) 0 (((b.txs.take 0).map fun t => sha2 t.d.bytes).flatMap bcs) by rw [hw0, ← HQ]; exact MineR.empty [] rfl)
  have hq := hide (show w1.heap.size = w.heap.size + 1 from HQ)
  rw [← hw0]
  clear hw0 HQ
  go_loopw [3, 10] (fun v i ws => ∃ (j : Nat) (A' : Option Addr) (c' : Nat), j ≤ b.n ∧ i = .int .i64 j ∧ v = .slice A' j c' ∧ MineR 31 32 w1 ws (.slice A' j c') j (((b.txs.take j).map fun t => sha2 t.d.bytes).flatMap bcs)) (fun _ i _ => b.n - (intOf i).toNat)
  case atStart => exact ⟨0, _, _, by omega, rfl, rfl, M0.out⟩
  case round =>
    obtain ⟨j, A4, c4, hj, rfl, rfl, ht⟩ := hrel
    have HT := hide ht
    by_cases hlt : j < b.n
    · obtain ⟨t, hta⟩ : ∃ t, b.txs[j]? = some t := ⟨_, List.getElem?_eq_getElem (by have := hlen.out; omega)⟩
      obtain ⟨pb, off, hpa, hrow⟩ := HF.out.txs.2.2 (by omega)
      have hld := loadTx_run wr pb (off + j * 4) t (range_under (hrow j t hta) ht.below)
      have HTF := hide ((HF.out.txs.2.1 t (List.mem_of_getElem? hta)).below ht.below)
      have HTS := hide (HS.out.txs t (List.mem_of_getElem? hta))
      have HTA := hide (show ((b.txs.take (j + 1)).map fun t => sha2 t.d.bytes).flatMap bcs = ((b.txs.take j).map fun t => sha2 t.d.bytes).flatMap bcs ++ bcs (sha2 t.d.bytes) by
        rw [List.take_add_one, hta]; simp)
      have i0 : (0 : Int) ≤ (j : Int) := by omega
      have i1 : (j : Int) < (b.n : Int) := by omega
      have hj9 : j ≤ 1000 := by have := HN.out; omega
      clear ht hrow hta
      rw [hpa]
      go_wp2_with (first
        | (refine wpList_alloc_agg rfl 37 rfl zeroV.cells zeroTx_info ?_; simp only [Act.put, List.setIfInBounds_toArray, List.set_cons_zero, List.set_cons_succ])
        | (refine tx_store rfl _ _ rfl wr rfl (by rfl) t (by rfl) ?_; intro w5 b5 s5 k5; have l5 := loadTx_run w5 wr.heap.size 0 t k5.whole; have B5 := hide b5; clear b5 s5 k5; simp only [Act.put]))
      refine (refTId_any w5 t (HTF.out.below B5.out) HTS.out).mono ?_
      rintro e w6 ⟨rfl, b6⟩
      obtain ⟨H, hH⟩ : ∃ H, H = sha2 t.d.bytes := ⟨_, rfl⟩
      rw [← hH] at HTA ⊢
      have HL := hide (show H.length = 32 by rw [hH]; exact sha2_len _)
      have hmk := mkHs1_run w6 H HL.out
      have NB := hide (show (w6.alloc (.cells (bcs H).toArray 31)).rangeAt w6.heap.size 0 (bcs H) from (Blk.new w6 31 (bcs H)).whole)
      have T46 := hide (((HT.out.keep B5.out).keep b6).alloc (.cells (bcs H).toArray 31))
      clear b6 l5 hld hH
      go_wp2_with (at_builtin; refine wpList_mineR rfl _ _ 65 rfl 31 32 32 Try.underlying65 hash_infoR (by decide) w1 (.slice A4 j c4) j _ (by rfl) T46.out w6.heap.size 0 1 1 (bcs H) (by rfl) (by rw [bcs_length, HL.out]) NB.out (bcs_one _) (by omega) (by decide) ?_; intro A7 c7 w7 q1 q2 q3; have T7 := hide q1; clear q1 q2 q3; simp only [Act.put, List.setIfInBounds_toArray, List.set_cons_zero, List.set_cons_succ])
      exact ⟨⟨j + 1, A7, c7, by omega, by simp, rfl, by rw [HTA.out]; exact T7.out⟩, by simp [intOf]; omega⟩
    · obtain rfl : j = b.n := by omega
      have hfull : b.txs.take b.n = b.txs := List.take_of_length_le (by rw [hlen.out]; exact Nat.le_refl _)
      have i1 : ¬ (b.n : Int) < (b.n : Int) := by omega
      rw [hfull, ← E.out] at HT
      have hl9 := hide (show b.n = b.d.ids.length by rw [E.out, List.length_map, hlen.out])
      clear ht hfull
      go_wp2_with fail
      go_ret
      refine HRowPost.of hl9.out HT.out hb0.out (fun x hx => ?_)
      rw [E.out] at hx
      obtain ⟨t, _, rfl⟩ := List.mem_map.1 hx
      exact ⟨sha2_len _, sha2_byt _⟩
end Go.Proofs.Ytbpmcnfmgaolnaa
/-
  block.headRead: the head that stands next.
-/
namespace Go.Proofs.Ytbpmcnfmgaolnaa
open Go.RowKit

/-! ### copy of bytes, nil let in -/
theorem run_copy_none {P : Program} {w : World} (dT sT ty elem : TypeId) (hu : P.underlying dT = some (.slice elem)) (n : Nat) (hsz : (P.info? elem).map (·.size) = some n) (a : Addr) (dLen dCap c : Nat) :
    (Builtin.copy_ #[dT, sT] ty #[.slice (some a) dLen dCap, .slice none 0 c]).run P w = .ok (goInt 0) w := by
  have hz : Nat.min 0 dLen = 0 := Nat.zero_min _
  simp [Builtin.copy_, run_underlying hu, run_size hsz, Builtin.lenOf, Builtin.firstCells, hz, storeCells]
theorem u8_one : (Try.prog.info? 5).map (·.size) = some 1 := by kernel_rfl
theorem run_copy_bys {w : World} (ty : TypeId) (g off dCap : Nat) (A : Option Addr) (m c : Nat) (bs : List Int) (cur : List Value) (t : TypeId) (hB : Bys w A m bs) (hm : m ≤ 32) (hg : Blk w g t cur) (hfit : off + 32 ≤ cur.length) :
    ∃ w', (Builtin.copy_ #[56, 56] ty #[.slice (some ⟨g, off, none⟩) 32 dCap, .slice A m c]).run Try.prog w = .ok (goInt m) w' ∧ Only (fun i => i = g) w w' ∧ w'.heap.size = w.heap.size ∧ Blk w' g t (lay cur off (bcs bs)) := by
  cases A with
  | none =>
    have h0 : m = 0 := by
      rcases Nat.eq_zero_or_pos m with h | h
      · exact h
      · obtain ⟨_, _, e, _⟩ := hB.2.2 h; cases e
    subst h0
    have hb : bs = [] := List.eq_nil_of_length_eq_zero hB.1
    subst hb
    exact ⟨w, run_copy_none _ _ ty 5 Try.underlying56 1 u8_one _ _ _ _, Only.refl _ _, rfl, hg⟩
  | some ad =>
    have hl : (bcs bs).length = m := by rw [bcs_length, hB.1]
    obtain ⟨w', h1, h2, h3, h4⟩ := run_copy_blk (P := Try.prog) (w := w) 56 56 ty 5 g off 32 dCap ad m c cur t (bcs bs) Try.underlying56 u8_one hg (by rw [hl]; exact (Nat.min_eq_left hm).symm) (fun j v hv => by
      have hj : j < m := by have := (List.getElem?_eq_some_iff.1 hv).1; omega
      obtain ⟨b, o, e, hc⟩ := hB.2.2 (by omega)
      injection e with e
      subst e
      rw [Addr.add_mid]
      simp only [bcs, List.getElem?_map] at hv
      rcases hx : bs[j]? with _ | x
      · rw [hx] at hv; simp at hv
      · rw [hx] at hv
        simp only [Option.map_some, Option.some.injEq] at hv
        rw [← hv]
        exact hc j x hx) (by rw [hl]; omega) (bcs_one _)
    rw [hl] at h1
    exact ⟨w', h1, h2, h3, h4⟩
theorem step_copy_bys {ops : Array Oper} {o : Oper} {a : Act} {w : World} {K : Act → World → Prop} {Q : Exit → Act → World → Prop} {E : Prop} (hgd : o.guard = none) (dd : Nat) (hdst : o.dst = some dd) (d s : Operand)
    (ho : o.op = .call { callee := .builtin .copy, args := #[d, s], argTypes := #[56, 56] })
    (g off dCap : Nat) (A : Option Addr) (m c : Nat) (hd : a.eval d = .slice (some ⟨g, off, none⟩) 32 dCap) (hs : a.eval s = .slice A m c) (bs : List Int) (cur : List Value) (t : TypeId) (hB : Bys w A m bs) (hm : m ≤ 32) (hg : Blk w g t cur) (hfit : off + 32 ≤ cur.length)
    (h : ∀ w', Only (fun i => i = g) w w' → w'.heap.size = w.heap.size → Blk w' g t (lay cur off (bcs bs)) → K (a.put (some dd) (goInt m)) w') :
    if Region.wanted o (yielded ops a.tmps) = true then Oper.wp Try.prog o a w K Q else E := by
  have hw : Region.wanted o (yielded ops a.tmps) = true := by simp [Region.wanted, hgd]
  rw [if_pos hw]
  rw [← hdst] at h
  obtain ⟨w', hrun, ho', hz', hb'⟩ := run_copy_bys (w := w) o.type g off dCap A m c bs cur t hB hm hg hfit
  unfold Oper.wp
  simp [execOp, ho, resolve, invoke, builtin, hd, hs, hrun, Result.andThen]
  exact h w' ho' hz' hb'
/-! ### A head, part by part -/
namespace HeadD
def withPrev (h : HeadD) (X : List Int) : HeadD := if X.length = 32 then { h with prev := X } else h
def withRoot (h : HeadD) (X : List Int) : HeadD := if X.length = 32 then { h with root := X } else h
def fill (h : HeadD) (vs : List Nat) : HeadD := ⟨h.version, h.prev, h.root, (vs.getD 0 0 : Nat), (vs.getD 1 0 : Nat), (vs.getD 2 0 : Nat)⟩
theorem lay_prev {h : HeadD} (hf : h.Fine) (X : List Int) (hX : X.length = 32 ∨ X = []) : lay h.cells 1 (bcs X) = (h.withPrev X).cells := by
  rcases hX with hX | rfl
  · rw [withPrev, if_pos hX, lay_eq _ _ _ (by rw [bcs_length, cells_len hf, hX]; decide), bcs_length, hX]
    have hp := hf.plen
    simp only [cells, List.take_succ_cons, List.take_zero, List.drop_succ_cons, Nat.reduceAdd]
    rw [List.drop_append_of_le_length (by rw [bcs_length, hp]; exact Nat.le_refl _), List.drop_of_length_le (by rw [bcs_length, hp]; exact Nat.le_refl _)]
    simp
  · rw [withPrev, if_neg (by decide)]; rfl
theorem lay_root {h : HeadD} (hf : h.Fine) (X : List Int) (hX : X.length = 32 ∨ X = []) : lay h.cells 33 (bcs X) = (h.withRoot X).cells := by
  rcases hX with hX | rfl
  · rw [withRoot, if_pos hX, lay_eq _ _ _ (by rw [bcs_length, cells_len hf, hX]; decide), bcs_length, hX]
    have hp := hf.plen
    have hr := hf.rlen
    have e1 : h.cells.take 33 = .int .u32 h.version :: bcs h.prev := by
      simp only [cells, List.take_succ_cons]
      rw [List.take_append_of_le_length (by rw [bcs_length, hp]; exact Nat.le_refl _), List.take_of_length_le (by rw [bcs_length, hp]; exact Nat.le_refl _)]
    have e2 : h.cells.drop (33 + 32) = [.int .u32 h.time, .int .u32 h.bits, .int .u32 h.nonce] := by
      simp only [cells, List.drop_succ_cons, Nat.reduceAdd]
      rw [show 64 = (bcs h.prev).length + 32 by rw [bcs_length, hp], List.drop_append, show 32 = (bcs h.root).length + 0 by rw [bcs_length, hr]]
      simp
    rw [e1, e2]
    simp [cells]
  · rw [withRoot, if_neg (by decide)]; rfl
theorem fill_set {h : HeadD} (hf : h.Fine) (vs : List Nat) (j v : Nat) (hj : vs.length = j) (h3 : j < 3) : (h.fill vs).cells.set (65 + j) (.int .u32 (v : Int)) = (h.fill (vs ++ [v])).cells := by
  have hp := bcs_length h.prev
  have hr := bcs_length h.root
  rw [hf.plen] at hp
  rw [hf.rlen] at hr
  have key : ∀ (a b c : Value) (l : List Value), (Value.int .u32 h.version :: (bcs h.prev ++ (bcs h.root ++ [a, b, c]))).set (65 + j) (.int .u32 (v : Int)) = Value.int .u32 h.version :: (bcs h.prev ++ (bcs h.root ++ ([a, b, c].set j (.int .u32 (v : Int))))) := fun a b c l => by
    rw [show 65 + j = (64 + j) + 1 by omega, List.set_cons_succ, List.set_append_right _ _ (by omega), hp, show 64 + j - 32 = 32 + j by omega, List.set_append_right _ _ (by omega), hr, show 32 + j - 32 = j by omega]
  simp only [cells, fill]
  rw [key _ _ _ []]
  match vs, hj with
  | [], hj => simp at hj; subst hj; rfl
  | [a], hj => simp at hj; subst hj; rfl
  | [a, b], hj => simp at hj; subst hj; rfl
  | a :: b :: c :: l, hj => simp at hj; omega
theorem fill_fine {h : HeadD} (hf : h.Fine) (vs : List Nat) (hv : ∀ v ∈ vs, v < 4294967296) : (h.fill vs).Fine := by
  have g : ∀ k, ((vs.getD k 0 : Nat) : Int) ≤ 4294967295 := fun k => by
    rw [List.getD_eq_getElem?_getD]
    rcases hx : vs[k]? with _ | x
    · simp
    · have := hv x (List.mem_of_getElem? hx); simp; omega
  exact ⟨hf.version, hf.plen, hf.pbyt, hf.rlen, hf.rbyt, ⟨by simp [fill], g 0⟩, ⟨by simp [fill], g 1⟩, ⟨by simp [fill], g 2⟩⟩
theorem withPrev_fine {h : HeadD} (hf : h.Fine) (X : List Int) (hb : Byt X) : (h.withPrev X).Fine := by
  unfold withPrev
  split
  · rename_i hX; exact ⟨hf.version, hX, hb, hf.rlen, hf.rbyt, hf.time, hf.bits, hf.nonce⟩
  · exact hf
theorem withRoot_fine {h : HeadD} (hf : h.Fine) (X : List Int) (hb : Byt X) : (h.withRoot X).Fine := by
  unfold withRoot
  split
  · rename_i hX; exact ⟨hf.version, hf.plen, hf.pbyt, hX, hb, hf.time, hf.bits, hf.nonce⟩
  · exact hf
end HeadD
def headV (v : Int) : HeadD := ⟨v, List.replicate 32 0, List.replicate 32 0, 0, 0, 0⟩
theorem headV_fine {v : Int} (h : 0 ≤ v ∧ v ≤ 4294967295) : (headV v).Fine := ⟨h, zeroH_fine.plen, zeroH_fine.pbyt, zeroH_fine.rlen, zeroH_fine.rbyt, zeroH_fine.time, zeroH_fine.bits, zeroH_fine.nonce⟩
theorem mkHead_v (v : Int) (w : World) : (mkHead #[(0, .int .u32 v)]).run Try.prog w = .ok (.agg (headV v).cells.toArray) w := by kernel_rfl
theorem indexP_run (p : Nat) (j : Nat) (hj : j < 3) (w : World) : (Instr.index 166 (.agg #[.pointer (some ⟨p, 65, none⟩), .pointer (some ⟨p, 66, none⟩), .pointer (some ⟨p, 67, none⟩)]) (.int .i64 (j : Int))).run Try.prog w = .ok (.pointer (some ⟨p, 65 + j, none⟩)) w := by
  rcases j with _ | _ | _ | j
  · show (_ : Result Value) = _
    kernel_rfl
  · show (_ : Result Value) = _
    kernel_rfl
  · show (_ : Result Value) = _
    kernel_rfl
  · omega
theorem raw_some (r : Rd) (X : List Int) (r1 : Rd) (h : r.raw 32 = (X, r1)) : X.length = 32 ∨ X = [] := by
  unfold Rd.raw at h
  split at h
  · injection h with h _; exact .inr h.symm
  · split at h
    · injection h with h _; exact .inr h.symm
    · rename_i hs
      injection h with h _
      subst h
      left
      rw [List.length_take]
      have : (32 : Int).toNat = 32 := rfl
      omega
theorem raw_err (r : Rd) (X : List Int) (r1 : Rd) (h : r.raw 32 = (X, r1)) (he : r1.err = 0) : X.length = 32 := by
  have := raw_full r 32 (by decide)
  rw [h] at this
  exact this he
end Go.Proofs.Ytbpmcnfmgaolnaa
