import Derived.Test.YtbpmcnfmgaolnaaPk24
/-
  Waiting: a block of its own; is there one; one more; all of them.
-/
namespace Go.Proofs.Ytbpmcnfmgaolnaa
open Go.RowKit

theorem loadHashW_run (w : World) (b o : Nat) (bs : List Int) (h : w.rangeAt b o (bcs bs)) (hl : bs.length = 32) : (loadHash ⟨b, o, none⟩).run Try.prog w = .ok (.agg (bcs bs).toArray) w := loadHash_run w b o bs h hl
def blkHead (v : Value) : Sem Value := Instr.field 40 v 0
theorem blkHead_fold (v : Value) : Instr.field 40 v 0 = blkHead v := rfl
theorem blkHead_run (w : World) (b : BlkV) (hf : b.head.Fine) : (blkHead (.agg b.cells.toArray)).run Try.prog w = .ok (.agg b.head.cells.toArray) w := by
  have h1 : List.take 68 b.cells = b.head.cells := by
    rw [BlkV.cells, List.take_append_of_le_length (by rw [HeadD.cells_len hf]; exact Nat.le_refl _), List.take_of_length_le (by rw [HeadD.cells_len hf]; exact Nat.le_refl _)]
  unfold blkHead Instr.field
  simp [run_underlying Try.underlying40, part, run_size isHead, isAgg, run_underlying Try.underlying33, asAgg, h1]
attribute [local go_sem ↓] loadBlk_fold loadHead_fold loadHash_fold eqlHash_fold blkHead_fold
def CopyPost (w : World) (b : BlkV) (e : Ending) (w' : World) : Prop :=
  ∃ V : BlkV, e = .returned (.agg V.cells.toArray) ∧ V.d = b.d ∧ KeepB w' V (fun i => i < w.heap.size) ∧ V.Good ∧ Below w.heap.size w w'
set_option maxHeartbeats 2000000 in
set_option maxRecDepth 100000 in
theorem copied_any (w : World) (b : BlkV) (hf : b.Fine w) (hg : b.Good) :
    Calls Try.prog 69 #[.agg b.cells.toArray] w (CopyPost w b) := by
  have HG := hide hg
  have b1 : Below w.heap.size w ((w.alloc (.cells b.cells.toArray 40)).alloc (.cells zeroB.cells.toArray 40)) := below_alloc (below_alloc (Below.refl _ _) _) _
  have HF := hide (hf.below b1)
  have B1 := hide b1
  have K0 := hide (Blk.new1 w (.cells b.cells.toArray 40) 40 zeroB.cells)
  have hld := loadBlk_run _ w.heap.size 0 b ((Blk.new w 40 b.cells).alloc (.cells zeroB.cells.toArray 40)).whole hf.head
  have HSZ := hide (show ((w.alloc (.cells b.cells.toArray 40)).alloc (.cells zeroB.cells.toArray 40)).heap.size = w.heap.size + 2 by simp)
  clear hf hg b1
  go_enter Try.func69, Try.ntmps69
  go_wp2_with (refine wpList_alloc_agg rfl 40 rfl zeroB.cells zeroBlk_info ?_; simp only [Act.put, List.setIfInBounds_toArray, List.set_cons_zero, List.set_cons_succ])
  refine (BBytes_any _ b HF.out HG.out.small).mono ?_
  rintro e w2 h2
  obtain ⟨A2, n2, c2, rfl, t2, f2⟩ := h2.fresh
  have B2 := hide (Below.then_ B1.out t2.below)
  have K2 := hide (K0.out.under t2.below)
  have T2 := hide t2.bys
  have N2 := hide (show n2 ≤ 1000000000 by rw [← t2.len]; have := HG.out.len; omega)
  clear h2 t2 f2 hld
  go_wp2_with fail
  refine (BParseK_any w2 A2 n2 c2 _ T2.out N2.out).mono ?_
  rintro e w3 ⟨V, rfl, hd, hk, hs, b3⟩
  rw [parseB_back _ HG.out.ok] at hd ⊢
  simp only at hd ⊢
  have HD := hide hd
  have HK := hide hk
  have HGV := hide (show V.Good from ⟨hs, by rw [hd]; exact HG.out.ok, by rw [hd]; exact HG.out.len⟩)
  have HVF := hide (hk w3 (Only.refl _ _)).head
  have K3 := hide (K2.out.under b3)
  have B3 := hide (Below.then_ B2.out b3)
  have S3 := hide (show w.heap.size + 2 ≤ w2.heap.size by have h9 := K2.out.lt; have h8 := HSZ.out; omega)
  have KZ := hide (Blk.new w3 40 zeroB.cells)
  clear hd hk hs b3
  go_wp2_with (first
    | (refine wpList_alloc_agg rfl 40 rfl zeroB.cells zeroBlk_info ?_; simp only [Act.put, List.setIfInBounds_toArray, List.set_cons_zero, List.set_cons_succ])
    | (refine wpList_store_bk rfl _ _ rfl w3.heap.size zeroB V zeroH_fine HVF.out (by rfl) (by rfl) KZ.out ?_; intro w4 o4 z4 b4; have O4 := hide (((Only.refl (fun i => i = w3.heap.size) w3).alloc (.cells zeroB.cells.toArray 40)).trans o4 (fun _ _ h => h)); have hld4 := loadBlk_run w4 w3.heap.size 0 V b4.whole HVF.out; have K4 := hide (O4.out.blk K3.out (fun e => by have := K3.out.lt; omega)); clear o4 z4 b4; simp only [Act.put])
    | (refine wpList_store_bk rfl _ _ rfl (w.heap.size + 1) zeroB V zeroH_fine HVF.out (by rfl) (by rfl) K4.out ?_; intro w5 o5 z5 b5; simp only [Act.put]))
  have O5 := hide ((O4.out.mono (G := fun i => i < w2.heap.size) (fun i hi h => absurd hi (by have h9 : i = w3.heap.size := h; omega))).trans o5 (fun i _ h => by have h9 : i = w.heap.size + 1 := h; have := S3.out; show i < w2.heap.size; omega))
  refine bodyPost_ret (results_cell_blk rfl _ _ (w.heap.size + 1) 40 _ _ (by rfl) b5 Try.underlying40 rfl (by rw [isBlk, BlkV.cells_len HVF.out])) rfl ⟨V, rfl, HD.out, fun w'' h => HK.out w'' (O5.out.trans h fun i _ h => by have h9 : i < w.heap.size := h; have := S3.out; show i < w2.heap.size; omega), HGV.out, ?_⟩
  exact (B3.out.trans (O4.out.below B3.out.size fun i hi e => by have h9 : i = w3.heap.size := e; have := B3.out.size; omega)).trans (o5.below (by have := O4.out.size; have := B3.out.size; omega) fun i hi e => by have h9 : i = w.heap.size + 1 := e; omega)
/-- Is there one of that name? -/
def hasL (L : List BlkV) (H : List Int) : Bool := L.any fun b => sha2 b.head.bytes == H
theorem RingAt.at_ {w : World} {g : Nat} {P : Nat → Prop} {its : List BlkV} {f m : Nat} (h : RingAt w g P its f m) (j : Nat) : ∃ x, its[(f + j) % 8]? = some x ∧ x.head.Fine := by
  have hk : (f + j) % 8 < its.length := by rw [h.len]; omega
  exact ⟨_, List.getElem?_eq_getElem hk, h.heads _ (List.getElem_mem hk)⟩
set_option maxHeartbeats 2000000 in
set_option maxRecDepth 100000 in
theorem Has_any (w : World) (g : Nat) (P : Nat → Prop) (its : List BlkV) (f m : Nat) (H : List Int) (hR : RingAt w g P its f m) (hl : H.length = 32) :
    Calls Try.prog 24 #[.pointer (some ⟨g, 0, none⟩), .agg (bcs H).toArray] w fun e w' => e = .returned (.bool (hasL (inRing its f m) H)) ∧ Below w.heap.size w w' := by
  have b1 : Below w.heap.size w (w.alloc (.cells (bcs H).toArray 31)) := below_alloc (Below.refl _ _) _
  have R1 := hide (hR.under b1)
  have B1 := hide b1
  have K1 := hide (Blk.new w 31 (bcs H))
  have HL := hide hl
  have c1 := R1.out.many
  have hm := hide hR.ml
  have m9 : (m : Int) ≤ 8 := by have := hm.out; omega
  clear hR hl b1
  go_enter Try.func24, Try.ntmps24
  go_wp2_with fail
  obtain ⟨w1, hw1⟩ : ∃ z, z = w.alloc (.cells (bcs H).toArray 31) := ⟨_, rfl⟩
  rw [← hw1] at R1 B1 K1 ⊢
  clear hw1 c1
  go_loopw [11] (fun i ws => ∃ j : Nat, j ≤ m ∧ i = .int .i64 (j : Int) ∧ (∀ k x, k < j → (inRing its f m)[k]? = some x → (sha2 x.head.bytes == H) = false) ∧ Below w1.heap.size w1 ws) (fun i _ => m - (intOf i).toNat)
  case atStart => exact ⟨0, by omega, rfl, fun k x h => by omega, Below.refl _ _⟩
  case round =>
    obtain ⟨j, hj, rfl, hno, hb⟩ := hrel
    have HRr := hide (R1.out.under hb)
    have HKr := hide (K1.out.under hb)
    have HB := hide hb
    have HNO := hide hno
    clear hno hb
    by_cases hlt : j < m
    · have i1 : (j : Int) < (m : Int) := by omega
      have i0 : (0 : Int) ≤ (j : Int) := by omega
      have hjm := hide (show j < m ∧ m ≤ 8 from ⟨hlt, hm.out⟩)
      obtain ⟨x, hx, hxf⟩ := HRr.out.at_ j
      have HXX := hide hx
      have HXF := hide hxf
      have HIX := hide (show (inRing its f m)[j]? = some x by rw [inRing_get HRr.out.len f m j hlt, hx])
      obtain ⟨X, hX⟩ : ∃ X, X = sha2 x.head.bytes := ⟨_, rfl⟩
      have HXL := hide (show X.length = 32 by rw [hX]; exact sha2_len _)
      have HXH := hide hX.symm
      clear hx hxf hlt hX
      go_wp2_with fail
      refine wp_region_held_drew (S := fun w' => Below wr.heap.size wr w') (by kernel_rfl) ((Below.refl _ wr).drew) (fun hSA0 => ?_)
      obtain ⟨wrd, hwA⟩ : ∃ x, x = wr.drew := ⟨_, rfl⟩
      rw [← hwA] at hSA0 ⊢
      clear hwA
      (refine wpAnyH_take (i := 0) (oi := ⟨some 14, .move (.tmp 0), 24, "waiting.go:49", #[], none⟩) (v := ?_) rfl (by kernel_rfl) (by kernel_rfl) (by kernel_rfl) (fun _ _ _ h => h) (Or.inl ⟨by rfl, fun w' hSw => ?_⟩) hSA0 ?_; rotate_left; focus (go_simp; try with_reducible rfl))
      simp only [Act.put, List.setIfInBounds_toArray, List.set_cons_zero, List.set_cons_succ]
      (refine wpAnyH_take (i := 1) (oi := ⟨some 15, .nilCheck (.tmp 14), 0, "waiting.go:49", #[⟨0, .data⟩], none⟩) (v := ?_) rfl (by kernel_rfl) (by kernel_rfl) (by kernel_rfl) (fun _ _ _ h => h) (Or.inl ⟨by rfl, fun w' hSw => ?_⟩) hSA0 ?_; rotate_left; focus (go_simp; try with_reducible rfl))
      simp only [Act.put, List.setIfInBounds_toArray, List.set_cons_zero, List.set_cons_succ]
      (refine wpAnyH_take (i := 2) (oi := ⟨some 16, .fieldAddr 107 (.tmp 15) 0, 0, "waiting.go:49", #[⟨1, .data⟩], none⟩) (v := ?_) rfl (by kernel_rfl) (by kernel_rfl) (by kernel_rfl) (fun _ _ _ h => h) (Or.inl ⟨by rfl, fun w' hSw => ?_⟩) hSA0 ?_; rotate_left; focus (go_simp; try with_reducible rfl))
      simp only [Act.put, List.setIfInBounds_toArray, List.set_cons_zero, List.set_cons_succ]
      (refine wpAnyH_take (i := 3) (oi := ⟨some 17, .move (.tmp 5), 3, "waiting.go:49", #[], none⟩) (v := ?_) rfl (by kernel_rfl) (by kernel_rfl) (by kernel_rfl) (fun _ _ _ h => h) (Or.inl ⟨by rfl, fun w' hSw => ?_⟩) hSA0 ?_; rotate_left; focus (go_simp; try with_reducible rfl))
      simp only [Act.put, List.setIfInBounds_toArray, List.set_cons_zero, List.set_cons_succ]
      (refine wpAnyH_take (i := 7) (oi := ⟨some 21, .load 31 (.tmp 3), 31, "waiting.go:49", #[], none⟩) (v := ?_) rfl (by kernel_rfl) (by kernel_rfl) (by kernel_rfl) (fun _ _ _ h => h) (Or.inl ⟨by rfl, fun w' hSw => ?_⟩) hSA0 ?_; rotate_left; focus (have z1 := loadHashW_run w' w.heap.size 0 H (range_under HKr.out.whole hSw) HL.out; go_simp; try with_reducible rfl))
      simp only [Act.put, List.setIfInBounds_toArray, List.set_cons_zero, List.set_cons_succ]
      refine wpAnyH_ready (rs := [4]) (by kernel_rfl) (by simp) ?_
      refine AllReadyH.cons rfl (fun K hK => ?_) AllReadyH.nil
      go_simp
      go_wp2_with (go_at_call 70; refine (at_any wrd g P its f m j x (HRr.out.under hSA0) (by have := hjm.out; omega) HXX.out).mono ?_; rintro e wa ⟨rfl, b9⟩)
      have Ba := hide (Below.then_ hSA0 b9)
      clear b9
      refine hK.out _ _ (Ba.out) (fun hSA1 => ?_)
      clear hK K
      (refine wpAnyH_take (i := 5) (oi := ⟨some 19, .field 40 (.tmp 18) 0, 33, "waiting.go:49", #[⟨4, .data⟩], none⟩) (v := ?_) rfl (by kernel_rfl) (by kernel_rfl) (by kernel_rfl) (fun _ _ _ h => h) (Or.inl ⟨by rfl, fun w' hSw => ?_⟩) hSA1 ?_; rotate_left; focus (have z1 := blkHead_run w' x HXF.out; go_simp; try with_reducible rfl))
      simp only [Act.put, List.setIfInBounds_toArray, List.set_cons_zero, List.set_cons_succ]
      refine wpAnyH_ready (rs := [6]) (by kernel_rfl) (by simp) ?_
      refine AllReadyH.cons rfl (fun K hK => ?_) AllReadyH.nil
      go_simp
      go_simp
      go_wp2_with (go_at_call 41; refine (BId_any wa x.head HXF.out).mono ?_; rintro e wi ⟨rfl, b9⟩)
      have Bi := hide (Below.then_ Ba.out b9)
      clear b9
      rw [HXH.out]
      refine hK.out _ _ (Bi.out) (fun hSA2 => ?_)
      clear hK K
      (refine wpAnyH_take (i := 8) (oi := ⟨some 22, .binOp .eql 31 (.tmp 20) (.tmp 21) 31, 4, "waiting.go:49", #[⟨6, .data⟩, ⟨7, .data⟩], none⟩) (v := ?_) rfl (by kernel_rfl) (by kernel_rfl) (by kernel_rfl) (fun _ _ _ h => h) (Or.inl ⟨by rfl, fun w' hSw => ?_⟩) hSA2 ?_; rotate_left; focus (have z1 := eqlHash_run X H HXL.out HL.out w'; go_simp; try with_reducible rfl))
      simp only [Act.put, List.setIfInBounds_toArray, List.set_cons_zero, List.set_cons_succ]
      refine wpAnyH_done (by kernel_rfl) ?_ _
      go_wp2_with fail
      · have hq : (X == H) = true := by assumption
        go_ret
        refine ⟨?_, Below.then_ B1.out (Below.then_ HB.out Bi.out)⟩
        rw [show hasL (inRing its f m) H = true from List.any_eq_true.2 ⟨x, List.mem_of_getElem? HIX.out, by rw [HXH.out]; exact hq⟩]
        rfl
      · have hq : (X == H) = false := by assumption
        have HN2 : Hid (∀ k y, k < j + 1 → (inRing its f m)[k]? = some y → (sha2 y.head.bytes == H) = false) := hide fun k y hk hy => by
          by_cases h9 : k < j
          · exact HNO.out k y h9 hy
          · obtain rfl : k = j := by omega
            rw [HIX.out] at hy
            injection hy with hy
            rw [← hy, HXH.out]
            exact hq
        exact ⟨⟨j + 1, by have := hjm.out; omega, by simp, HN2.out, Below.then_ HB.out Bi.out⟩, by have := hjm.out; simp [intOf]; omega⟩
    · have i1 : ¬ (j : Int) < (m : Int) := by omega
      have HJ := hide (show j = m by omega)
      have hl := hide (R1.out.len)
      go_wp2_with fail
      go_ret
      refine ⟨?_, Below.then_ B1.out HB.out⟩
      rw [show hasL (inRing its f m) H = false from List.any_eq_false.2 fun x hx => by
        obtain ⟨k, hk⟩ := List.mem_iff_getElem?.1 hx
        have hkm := (List.getElem?_eq_some_iff.1 hk).1
        rw [inRing_len hl.out] at hkm
        rw [HNO.out k x (by rw [HJ.out]; exact hkm) hk]; decide]
      rfl
end Go.Proofs.Ytbpmcnfmgaolnaa
/-
  Waiting: one more.
-/
namespace Go.Proofs.Ytbpmcnfmgaolnaa
open Go.RowKit

attribute [local go_sem ↓] loadBlk_fold loadHead_fold
/-! ### The document's ring: a row of blocks -/
def hasD (L : List BlkD) (H : List Int) : Bool := L.any fun b => sha2 b.head.bytes == H
theorem hasL_d (L : List BlkV) (H : List Int) : hasL L H = hasD (L.map BlkV.d) H := by rw [hasL, hasD, List.any_map]; rfl
def addD (L : List BlkD) (b : BlkD) : List BlkD × Bool :=
  if hasD L (sha2 b.head.bytes) then (L, false) else ((if L.length = 8 then L.tail else L) ++ [b], true)
/-- The ring there has these blocks. -/
def RingIs (w : World) (g : Nat) (P : Nat → Prop) (L : List BlkD) : Prop := ∃ (its : List BlkV) (f m : Nat), RingAt w g P its f m ∧ (inRing its f m).map BlkV.d = L
namespace RingIs
variable {w w' : World} {g : Nat} {P Q : Nat → Prop} {L : List BlkD}
theorem under (h : RingIs w g P L) (hb : Below w.heap.size w w') : RingIs w' g P L := by
  obtain ⟨its, f, m, h1, h2⟩ := h
  exact ⟨its, f, m, h1.under hb, h2⟩
theorem only (h : RingIs w g P L) {F : Nat → Prop} (ho : Only F w w') (hF : ∀ i, i < w.heap.size → F i → P i) (hg : ¬ F g) : RingIs w' g P L := by
  obtain ⟨its, f, m, h1, h2⟩ := h
  exact ⟨its, f, m, h1.only ho hF hg, h2⟩
theorem mono (h : RingIs w g P L) (hQ : ∀ i, i < w.heap.size → Q i → P i) : RingIs w g Q L := by
  obtain ⟨its, f, m, h1, h2⟩ := h
  exact ⟨its, f, m, h1.mono hQ, h2⟩
theorem lt (h : RingIs w g P L) : g < w.heap.size := by
  obtain ⟨its, f, m, h1, _⟩ := h
  exact h1.blk.lt
theorem len (h : RingIs w g P L) : L.length ≤ 8 := by
  obtain ⟨its, f, m, h1, h2⟩ := h
  rw [← h2, List.length_map, inRing_len h1.len]; exact h1.ml
end RingIs
theorem WHas_any (w : World) (g : Nat) (P : Nat → Prop) (L : List BlkD) (H : List Int) (hR : RingIs w g P L) (hl : H.length = 32) :
    Calls Try.prog 24 #[.pointer (some ⟨g, 0, none⟩), .agg (bcs H).toArray] w fun e w' => e = .returned (.bool (hasD L H)) ∧ Below w.heap.size w w' := by
  obtain ⟨its, f, m, h1, rfl⟩ := hR
  rw [← hasL_d]
  exact Has_any w g P its f m H h1 hl
theorem WLenD_any (w : World) (g : Nat) (P : Nat → Prop) (L : List BlkD) (hR : RingIs w g P L) :
    Calls Try.prog 23 #[.pointer (some ⟨g, 0, none⟩)] w fun e w' => e = .returned (.int .i64 (L.length : Int)) ∧ w' = w := by
  obtain ⟨its, f, m, h1, rfl⟩ := hR
  rw [List.length_map, inRing_len h1.len]
  exact WLen_any w g P its f m h1
theorem WNewD_any (w : World) :
    Calls Try.prog 16 #[] w fun e w' => ∃ g : Nat, e = .returned (.pointer (some ⟨g, 0, none⟩)) ∧ w.heap.size ≤ g ∧ Below w.heap.size w w' ∧ ∀ P : Nat → Prop, RingIs w' g P [] :=
  (WNew_any w).mono fun _ _ ⟨g, h1, h2, h3, h4⟩ => ⟨g, h1, h2, h3, fun P => ⟨ring0, 0, 0, h4 P, rfl⟩⟩
def AddPost (w : World) (g : Nat) (P : Nat → Prop) (L : List BlkD) (b : BlkD) (e : Ending) (w' : World) : Prop :=
  e = .returned (.bool (addD L b).2) ∧ RingIs w' g P (addD L b).1 ∧ Only (fun i => i = g) w w'
set_option maxHeartbeats 2000000 in
set_option maxRecDepth 100000 in
theorem Add_any (w : World) (g : Nat) (P : Nat → Prop) (L : List BlkD) (b : BlkV) (hR : RingIs w g P L) (hf : b.Fine w) (hg : b.Good) (hP : ∀ i, P i → i < w.heap.size) :
    Calls Try.prog 22 #[.pointer (some ⟨g, 0, none⟩), .agg b.cells.toArray] w (AddPost w g P L b.d) := by
  have b1 : Below w.heap.size w (w.alloc (.cells b.cells.toArray 40)) := below_alloc (Below.refl _ _) _
  have R1 := hide (hR.under b1)
  have F1 := hide (hf.below b1)
  have B1 := hide b1
  have HG := hide hg
  have HPP := hide hP
  have HLT := hide hR.lt
  have K1 := hide (Blk.new w 40 b.cells)
  have hlh := loadHead_run _ w.heap.size 0 b.head (blk_head K1.out) hf.head
  have HDH := hide (show b.d.head = b.head from rfl)
  clear hR hf hg hP b1
  go_enter Try.func22, Try.ntmps22
  go_wp2_with fail
  refine (BId_any _ b.head F1.out.head).mono ?_
  rintro e w2 ⟨rfl, b2⟩
  obtain ⟨X, hX⟩ : ∃ X, X = sha2 b.head.bytes := ⟨_, rfl⟩
  rw [← hX]
  have HX := hide hX
  have HXL := hide (show X.length = 32 by rw [hX]; exact sha2_len _)
  have R2 := hide (R1.out.under b2)
  have F2 := hide (F1.out.below b2)
  have K2 := hide (K1.out.under b2)
  have B2 := hide (Below.then_ B1.out b2)
  clear b2 hX hlh
  go_wp2_with fail
  refine (WHas_any w2 g P L X R2.out HXL.out).mono ?_
  rintro e w3 ⟨rfl, b3⟩
  have R3 := hide (R2.out.under b3)
  have F3 := hide (F2.out.below b3)
  have K3 := hide (K2.out.under b3)
  have B3 := hide (Below.then_ B2.out b3)
  clear b3 R1 R2 F1 F2 K1 K2
  by_cases hq : hasD L X = true
  · have HA := hide (show addD L b.d = (L, false) by rw [addD, HDH.out, ← HX.out, if_pos hq])
    rw [hq]
    clear hq
    go_wp2_with fail
    go_ret
    refine ⟨by rw [HA.out]; rfl, by rw [HA.out]; exact R3.out, Only.of_below B3.out _⟩
  · have HA := hide (show addD L b.d = ((if L.length = 8 then L.tail else L) ++ [b.d], true) by rw [addD, HDH.out, ← HX.out, if_neg hq])
    rw [show hasD L X = false by simpa using hq]
    clear hq
    go_wp2_with fail
    obtain ⟨its, f, m, r3, hL⟩ := R3.out
    have RR := hide r3
    have HLL := hide hL
    have HNE := hide (show ¬ w.heap.size = g by have := HLT.out; omega)
    clear r3 hL
    refine wp_region_held_drew (S := fun w' => w'.rangeAt w.heap.size 0 b.cells) (by kernel_rfl) (K3.out.whole) (fun hSA0 => ?_)
    obtain ⟨w3d, hwA⟩ : ∃ x, x = w3.drew := ⟨_, rfl⟩
    have hw3 := hide (show Below w3.heap.size w3 w3d by rw [hwA]; exact (Below.refl _ w3).drew)
    rw [← hwA] at hSA0 ⊢
    clear hwA
    (refine wpAnyH_take (i := 0) (oi := ⟨some 10, .move (.tmp 0), 24, "waiting.go:61", #[], none⟩) (v := ?_) rfl (by kernel_rfl) (by kernel_rfl) (by kernel_rfl) (fun _ _ _ h => h) (Or.inl ⟨by rfl, fun w' hSw => ?_⟩) hSA0 ?_; rotate_left; focus (go_simp; try with_reducible rfl))
    simp only [Act.put, List.setIfInBounds_toArray, List.set_cons_zero, List.set_cons_succ]
    (refine wpAnyH_take (i := 1) (oi := ⟨some 11, .nilCheck (.tmp 10), 0, "waiting.go:61", #[⟨0, .data⟩], none⟩) (v := ?_) rfl (by kernel_rfl) (by kernel_rfl) (by kernel_rfl) (fun _ _ _ h => h) (Or.inl ⟨by rfl, fun w' hSw => ?_⟩) hSA0 ?_; rotate_left; focus (go_simp; try with_reducible rfl))
    simp only [Act.put, List.setIfInBounds_toArray, List.set_cons_zero, List.set_cons_succ]
    (refine wpAnyH_take (i := 2) (oi := ⟨some 12, .fieldAddr 107 (.tmp 11) 0, 0, "waiting.go:61", #[⟨1, .data⟩], none⟩) (v := ?_) rfl (by kernel_rfl) (by kernel_rfl) (by kernel_rfl) (fun _ _ _ h => h) (Or.inl ⟨by rfl, fun w' hSw => ?_⟩) hSA0 ?_; rotate_left; focus (go_simp; try with_reducible rfl))
    simp only [Act.put, List.setIfInBounds_toArray, List.set_cons_zero, List.set_cons_succ]
    (refine wpAnyH_take (i := 3) (oi := ⟨some 13, .load 40 (.tmp 3), 40, "waiting.go:61", #[], none⟩) (v := ?_) rfl (by kernel_rfl) (by kernel_rfl) (by kernel_rfl) (fun _ _ _ h => h) (Or.inl ⟨by rfl, fun w' hSw => ?_⟩) hSA0 ?_; rotate_left; focus (have z1 := loadBlk_run w' w.heap.size 0 b hSw F3.out.head; go_simp; try with_reducible rfl))
    simp only [Act.put, List.setIfInBounds_toArray, List.set_cons_zero, List.set_cons_succ]
    refine wpAnyH_ready (rs := [4]) (by kernel_rfl) (by simp) ?_
    refine AllReadyH.cons rfl (fun K hK => ?_) AllReadyH.nil
    go_simp
    go_wp2_with (go_at_call 69; refine (copied_any w3d b (F3.out.below hw3.out) HG.out).mono ?_; rintro e w4 ⟨V, rfl, hd, hk, hv, b4⟩)
    have HD := hide hd
    have HK := hide hk
    have HV := hide hv
    have B4 := hide (Below.then_ hw3.out b4)
    have Bd4 := hide b4
    have HKK := hide (show KeepB w4 V (fun i => i = g ∨ P i) from hk.mono fun i _ h => by
      have h1 := hw3.out.size
      have h2 := B3.out.size
      rcases h with h | h
      · have := HLT.out; show i < w3d.heap.size; omega
      · have := HPP.out i h; show i < w3d.heap.size; omega)
    clear hd hk hv b4
    refine hK.out _ _ (range_under hSA0 Bd4.out) (fun hSA1 => ?_)
    clear hK K
    refine wpAnyH_ready (rs := [5]) (by kernel_rfl) (by simp) ?_
    refine AllReadyH.cons rfl (fun K hK => ?_) AllReadyH.nil
    go_simp
    go_wp2_with (go_at_call 68; refine (put_any w4 g P its f m V (RR.out.under B4.out) HKK.out HV.out).mono ?_; rintro e w5 ⟨its', f', m', rfl, r5, h5, o5⟩)
    have R5 := hide r5
    have H5 := hide h5
    have O5 := hide o5
    clear r5 h5 o5
    refine hK.out _ _ (range_only hSA1 O5.out HNE.out) (fun hSA2 => ?_)
    clear hK K
    refine wpAnyH_done (by kernel_rfl) ?_ _
    have HLM := hide (show L.length = m by rw [← HLL.out, List.length_map, inRing_len RR.out.len])
    have HFIN := hide (show (inRing its' f' m').map BlkV.d = (if L.length = 8 then L.tail else L) ++ [b.d] by
      rw [H5.out, HLM.out, ← HLL.out, ← HD.out]
      by_cases hm : m = 8
      · rw [if_pos hm, if_pos hm, List.map_append, List.map_tail]; rfl
      · rw [if_neg hm, if_neg hm, List.map_append]; rfl)
    go_wp2_with fail
    go_ret
    exact ⟨by rw [HA.out]; rfl, ⟨its', f', m', R5.out, by rw [HA.out]; exact HFIN.out⟩, (Only.of_below (Below.then_ B3.out B4.out) (fun i => i = g)).trans O5.out fun _ _ h => h⟩
end Go.Proofs.Ytbpmcnfmgaolnaa
/-
  Waiting: rows of blocks of one's own.
-/
namespace Go.Proofs.Ytbpmcnfmgaolnaa
open Go.RowKit

section
variable {P : Program}
/-- An append to a row of one's own; its base may lie below what has turned. -/
theorem wpList_rowO {w : World} {ops : Array Oper} {rest : List Oper} {o : Oper} {a : Act} {Q : Exit → Act → World → Prop} (hgd : o.guard = none) (d : Nat) (hd : o.dst = some d) (s x : Operand) (t : TypeId)
    (ho : o.op = .call { callee := .builtin .append, args := #[s, x], argTypes := #[t, t] })
    (e : TypeId) (k by_ : Nat) (ht : P.underlying t = some (.slice e)) (hi : (P.info? e).map (fun i => (i.size, i.bytes, i.zero.map (fun z => z.cells.size))) = some (k, by_, some k)) (hk : 0 < k)
    (base : Nat) (v : Value) (n : Nat) (cs : List Value) (hs : a.eval s = v) (h : w.ownsRow base e k v n cs) (hbase : base ≤ w.heap.size)
    (b off m c : Nat) (news : List Value) (hx : a.eval x = .slice (some ⟨b, off, none⟩) m c) (hl : news.length = m * k) (hnews : w.rangeAt b off news) (h1 : ∀ u ∈ news, u.oneCell' = true)
    (hbytes : (n + m) * by_ ≤ 140737488355328) (hby : 0 < by_)
    (hK : ∀ A' c' w', w'.ownsRow base e k (.slice A' (n + m) c') (n + m) (cs ++ news) → n + m ≤ c' → (∀ g, (Value.slice A' (n + m) c').ownBlock = some g → v.ownBlock = some g ∨ w.heap.size ≤ g) → Only (fun i => v.ownBlock = some i) w w' → wpList P ops Q rest (a.put (some d) (.slice A' (n + m) c')) w') : wpList P ops Q (o :: rest) a w := by
  refine wpList_plain hgd fun K hK' => ?_
  have h9 := step_row (P := P) (ops := #[]) (K := K) (Q := Q) (E := True) hgd d hd s x t ho e k by_ ht hi hk base v n cs hs h hbase b off m c news hx hl hnews h1 hbytes hby (fun A' c' w' q1 q2 q3 q4 => hK' _ _ (hK A' c' w' q1 q2 q3 q4))
  rwa [if_pos (by simp [Region.wanted, hgd])] at h9
end
abbrev BlksIn (w : World) (A : Option Addr) (n : Nat) (xs : List BlkV) : Prop := RowsIn BlkV.cells 69 BlkV.Fine w A n xs
theorem BlksIn.below' {w w' : World} {A : Option Addr} {n : Nat} {xs : List BlkV} (h : BlksIn w A n xs) (hb : Below w.heap.size w w') : BlksIn w' A n xs := h.below hb fun _ h => h.below hb
/-- A row of blocks of one's own: it, and they, are of no memory ahead of base. -/
structure BRow (base : Nat) (w : World) (A : Option Addr) (n c : Nat) (xs : List BlkV) : Prop where
  len : xs.length = n
  cap : n ≤ c
  low : base ≤ w.heap.size
  row : w.ownsRow base 40 69 (.slice A n c) n (xs.flatMap BlkV.cells)
  keep : ∀ x ∈ xs, KeepB w x (fun i => i < base ∨ (Value.slice A n c).ownBlock = some i)
  good : ∀ x ∈ xs, x.Good
namespace BRow
variable {base : Nat} {w w' : World} {A : Option Addr} {n c : Nat} {xs : List BlkV}
theorem nil (h : base ≤ w.heap.size) : BRow base w none 0 0 [] := ⟨rfl, Nat.le_refl _, h, World.ownsRow_nil _ _ _ _, by simp, by simp⟩
theorem empty (h : base ≤ w.heap.size) : BRow base (w.alloc (.cells #[] 40)) (some ⟨w.heap.size, 0, none⟩) 0 0 [] := by
  refine ⟨rfl, Nat.le_refl _, by simp; omega, ?_, by simp, by simp⟩
  have h0 := (MineR.empty (w := w) (e := 40) (k := 69) [] rfl).2
  refine ⟨h0.1, ?_⟩
  rcases h0.2 with h1 | ⟨g, cap, cur, h1, h2, h3⟩
  · exact .inl h1
  · exact .inr ⟨g, cap, cur, h1, Nat.le_trans h h2, h3⟩
theorem step (h : BRow base w A n c xs) {F : Nat → Prop} (ho : Only F w w') (hF : ∀ i, i < w.heap.size → F i → i < base) : BRow base w' A n c xs :=
  ⟨h.len, h.cap, Nat.le_trans h.low ho.size, ho.own h.row (fun g hg hf => by have := hF g (h.row.lt g hg).2 hf; have := (h.row.lt g hg).1; omega), fun x hx => (h.keep x hx).step (ho.mono fun i hi hf => .inl (hF i hi hf)) fun _ _ h => h, h.good⟩
theorem under (h : BRow base w A n c xs) (hb : Below w.heap.size w w') : BRow base w' A n c xs := h.step (Only.of_below hb fun _ => False) fun _ _ h => h.elim
theorem fine (h : BRow base w A n c xs) : ∀ x ∈ xs, x.Fine w := fun x hx => (h.keep x hx).fine
theorem in_ (h : BRow base w A n c xs) : BlksIn w A n xs := rows_of h.len (fun x hx => BlkV.cells_len (h.fine x hx).head) h.row h.fine
/-- What turns ahead of base changes nothing. -/
theorem app (h : BRow base w A n c xs) {V : BlkV} (hV : KeepB w V (fun i => i < base ∨ (Value.slice A n c).ownBlock = some i)) (hg : V.Good) {A' : Option Addr} {c' : Nat}
    (q1 : w'.ownsRow base 40 69 (.slice A' (n + 1) c') (n + 1) (xs.flatMap BlkV.cells ++ V.cells)) (q2 : n + 1 ≤ c')
    (q3 : ∀ g, (Value.slice A' (n + 1) c').ownBlock = some g → (Value.slice A n c).ownBlock = some g ∨ w.heap.size ≤ g) (q4 : Only (fun i => (Value.slice A n c).ownBlock = some i) w w') : BRow base w' A' (n + 1) c' (xs ++ [V]) := by
  have hk : ∀ x, KeepB w x (fun i => i < base ∨ (Value.slice A n c).ownBlock = some i) → KeepB w' x (fun i => i < base ∨ (Value.slice A' (n + 1) c').ownBlock = some i) := fun x hx =>
    hx.step (q4.mono fun _ _ h => .inr h) fun i hi hf => by
      rcases hf with hf | hf
      · exact .inl hf
      · rcases q3 i hf with h1 | h1
        · exact .inr h1
        · omega
  refine ⟨by rw [List.length_append, h.len]; rfl, q2, Nat.le_trans h.low q4.size, by rw [List.flatMap_append]; simpa using q1, fun x hx => ?_, fun x hx => ?_⟩
  · rcases List.mem_append.1 hx with hx | hx
    · exact hk x (h.keep x hx)
    · rw [List.mem_singleton.1 hx]; exact hk V hV
  · rcases List.mem_append.1 hx with hx | hx
    · exact h.good x hx
    · rw [List.mem_singleton.1 hx]; exact hg
end BRow
theorem blk_infoR : (Try.prog.info? 40).map (fun i => (i.size, i.bytes, i.zero.map (fun z => z.cells.size))) = some (69, 104, some 69) := by kernel_rfl
def mkBs1 (parts : Array (Nat × Value)) : Sem Value := Instr.buildSlice 26 1 parts
theorem mkBs1_fold (parts : Array (Nat × Value)) : Instr.buildSlice 26 1 parts = mkBs1 parts := rfl
theorem blk_zeros : (Try.prog.info? 40).map (fun i => i.zero.map (fun z => z.cells.size)) = some (some 69) := by kernel_rfl
theorem mkBs1_run (w : World) (b : BlkV) (hf : b.head.Fine) : (mkBs1 #[(0, .agg b.cells.toArray)]).run Try.prog w = .ok (.slice (some ⟨w.heap.size, 0, none⟩) 1 1) (w.alloc (.cells b.cells.toArray 40)) :=
  run_buildSlice_one 26 40 69 Try.underlying26 isBlk blk_zeros (by decide) (by decide) b.cells (BlkV.cells_len hf) w
end Go.Proofs.Ytbpmcnfmgaolnaa
/-
  Waiting: all of them.
-/
namespace Go.Proofs.Ytbpmcnfmgaolnaa
open Go.RowKit

attribute [local go_sem ↓] mkBs1_fold
def AllPost (w : World) (L : List BlkD) (e : Ending) (w' : World) : Prop :=
  ∃ (A : Option Addr) (c : Nat) (xs : List BlkV), e = .returned (.slice A L.length c) ∧ BRow w.heap.size w' A L.length c xs ∧ xs.map BlkV.d = L ∧ Below w.heap.size w w'
theorem RingAt.got {w : World} {g : Nat} {P : Nat → Prop} {its : List BlkV} {f m : Nat} (h : RingAt w g P its f m) (j : Nat) : ∃ x, its[(f + j) % 8]? = some x ∧ x.Fine w ∧ x.Good := by
  have hk : (f + j) % 8 < its.length := by rw [h.len]; omega
  exact ⟨_, List.getElem?_eq_getElem hk, (h.keep _ (List.getElem_mem hk)).fine, h.good _ (List.getElem_mem hk)⟩
set_option maxHeartbeats 2000000 in
set_option maxRecDepth 100000 in
theorem All_any (w : World) (g : Nat) (P : Nat → Prop) (L : List BlkD) (hR : RingIs w g P L) :
    Calls Try.prog 26 #[.pointer (some ⟨g, 0, none⟩)] w (AllPost w L) := by
  obtain ⟨its, f, m, hr, hL⟩ := hR
  have HLen := hide (show L.length = m by rw [← hL, List.length_map, inRing_len hr.len])
  have HL := hide hL
  have R1 := hide hr
  have c1 := hr.many
  have hm := hide hr.ml
  have m9 : (m : Int) ≤ 8 := by have := hm.out; omega
  clear hr hL
  go_enter Try.func26, Try.ntmps26
  go_wp2_with fail
  clear c1
  go_loopw [3, 10] (fun v i ws => ∃ (j : Nat) (A : Option Addr) (c : Nat) (xs : List BlkV), j ≤ m ∧ i = .int .i64 (j : Int) ∧ v = .slice A j c ∧ BRow w.heap.size ws A j c xs ∧ xs.map BlkV.d = ((inRing its f m).take j).map BlkV.d ∧ Below w.heap.size w ws) (fun _ i _ => m - (intOf i).toNat)
  case atStart => exact ⟨0, none, 0, [], by omega, rfl, rfl, BRow.nil (Nat.le_refl _), rfl, Below.refl _ _⟩
  case round =>
    obtain ⟨j, A, c, xs, hj, rfl, rfl, hb, hd, hw⟩ := hrel
    have HB := hide hb
    have HD := hide hd
    have HW := hide hw
    have RR := hide (R1.out.under hw)
    clear hb hd hw
    by_cases hlt : j < m
    · have i1 : (j : Int) < (m : Int) := by omega
      have i0 : (0 : Int) ≤ (j : Int) := by omega
      have hjm := hide (show j < m ∧ m ≤ 8 from ⟨hlt, hm.out⟩)
      obtain ⟨x, hx, hxf, hxg⟩ := RR.out.got j
      have HXX := hide hx
      have HXF := hide hxf
      have HXG := hide hxg
      have HIX := hide (show (inRing its f m)[j]? = some x by rw [inRing_get RR.out.len f m j hlt, hx])
      clear hx hxf hxg hlt
      go_wp2_with fail
      refine (at_any wr g P its f m j x RR.out (by have := hjm.out; omega) HXX.out).mono ?_
      rintro e wa ⟨rfl, ba⟩
      have BA := hide ba
      have XA := hide (HXF.out.below ba)
      clear ba
      go_wp2_with fail
      refine (copied_any wa x XA.out HXG.out).mono ?_
      rintro e wb ⟨V, rfl, hd, hk, hv, bb⟩
      have VF := hide hk.fine.head
      have HVD := hide hd
      have HVK := hide hk
      have HVG := hide hv
      have BB := hide bb
      have hmk := mkBs1_run wb V VF.out
      obtain ⟨wc, hwc⟩ : ∃ z, z = wb.alloc (.cells V.cells.toArray 40) := ⟨_, rfl⟩
      have BC := hide (show Below wb.heap.size wb wc by rw [hwc]; exact below_alloc (Below.refl _ _) _)
      have NB := hide (show wc.rangeAt wb.heap.size 0 V.cells by rw [hwc]; exact (Blk.new wb 40 V.cells).whole)
      rw [← hwc] at hmk
      have RC := hide (((HB.out.under BA.out).under bb).under BC.out)
      have KC := hide (show KeepB wc V (fun i => i < w.heap.size ∨ (Value.slice A j c).ownBlock = some i) from (hk.under BC.out).mono fun i _ h => by
        have h1 := HW.out.size
        have h2 := BA.out.size
        rcases h with h | h
        · show i < wa.heap.size; omega
        · have := (HB.out.row.lt i h).2; show i < wa.heap.size; omega)
      clear hwc hd hk hv bb
      go_wp2_with (at_builtin; refine wpList_rowO rfl 21 rfl _ _ 26 rfl 40 69 104 Try.underlying26 blk_infoR (by decide) w.heap.size (.slice A j c) j _ (by rfl) RC.out.row RC.out.low wb.heap.size 0 1 1 V.cells (by rfl) (by rw [BlkV.cells_len VF.out]) NB.out (BlkV.one V) (by have := hjm.out; omega) (by decide) ?_; intro A9 c9 w9 q1 q2 q3 q4; have R9 := hide (RC.out.app KC.out HVG.out q1 q2 q3 q4); have O9 := hide q4; clear q1 q2 q3 q4; simp only [Act.put, List.setIfInBounds_toArray, List.set_cons_zero, List.set_cons_succ])
      have HBC := Below.then_ HW.out (Below.then_ BA.out (Below.then_ BB.out BC.out))
      exact ⟨⟨j + 1, A9, c9, xs ++ [V], by have := hjm.out; omega, by simp, rfl, R9.out, by rw [List.map_append, HD.out, List.take_add_one, HIX.out, List.map_append]; simp [HVD.out], HBC.trans (O9.out.below HBC.size fun i hi e => by have := (RC.out.row.lt i e).1; omega)⟩, by have := hjm.out; simp [intOf]; omega⟩
    · have i1 : ¬ (j : Int) < (m : Int) := by omega
      have HJ := hide (show j = m by omega)
      have hl := hide (R1.out.len)
      go_wp2_with fail
      go_ret
      have e9 : L.length = j := by rw [HLen.out, HJ.out]
      exact ⟨A, c, xs, by rw [e9]; rfl, by rw [e9]; exact HB.out, by rw [HD.out, List.take_of_length_le (by rw [inRing_len hl.out, HJ.out]; exact Nat.le_refl _), HL.out], HW.out⟩
end Go.Proofs.Ytbpmcnfmgaolnaa
