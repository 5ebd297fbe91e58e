import Derived.Test.YtbpmcnfmgaolnaaBlkVP
/-
  BlockBytes: the law's walk.
-/
namespace Go.Proofs.Ytbpmcnfmgaolnaa
open Go.RowKit
section
variable {P : Program} {ops : Array Oper} {Q : Exit → Act → World → Prop} {md : Region.Mode} {S : World → Prop}
theorem tk {i : Nat} {oi : Oper} {v : Value} {fuel : Nat} {listed : Array Bool} {a : Act} {w : World} (hS : S w) (hv : ∀ w, S w → (execOp a.eval oi).run P w = .ok (.value v) w) (h : wpAnyH P md ops Q S fuel (listed.setIfInBounds i true) (a.put oi.dst v) w) (hi : ops[i]? = some oi := by rfl) (hw : Region.wanted oi (yielded ops a.tmps) = true := by rfl) (hs : Region.noSelect ops = true := by kernel_rfl) (hf : Region.free md ops listed i = true := by kernel_rfl) (hr : (Region.ready md ops listed).contains i = true := by kernel_rfl) (hQ : ∀ c a w, Q (.panic c) (a.put oi.dst v) w → Q (.panic c) a w := by exact fun _ _ _ h => h) : wpAnyH P md ops Q S (fuel + 1) listed a w := wpAnyH_take hi hs hf hr hQ (Or.inl ⟨hw, hv⟩) hS h
theorem sT {α : Type} (l : List α) (i : Nat) (a : α) : l.toArray.setIfInBounds i a = (l.set i a).toArray := by simp
theorem sZ {α : Type} (a b : α) (l : List α) : (a :: l).set 0 b = b :: l := rfl
theorem sS {α : Type} (a b : α) (l : List α) (n : Nat) : (a :: l).set (n + 1) b = a :: l.set n b := rfl
end

theorem sameL_eq {α : Type} {f : α → α → Bool} (h : ∀ a b, f a b = true ↔ a = b) : ∀ l m : List α, sameL f l m = true ↔ l = m
  | [], [] => by simp [sameL]
  | [], _ :: _ => by simp [sameL]
  | _ :: _, [] => by simp [sameL]
  | a :: l, b :: m => by simp [sameL, h a b, sameL_eq h l m]
theorem InD.same_eq (a b : InD) : a.same b = true ↔ a = b := by
  obtain ⟨⟨i, t⟩, u, o⟩ := a
  obtain ⟨⟨i', t'⟩, u', o'⟩ := b
  simp [InD.same, and_assoc]
theorem OutD.same_eq (a b : OutD) : a.same b = true ↔ a = b := by
  obtain ⟨v, l⟩ := a
  obtain ⟨v', l'⟩ := b
  simp [OutD.same]
theorem TxD.same_eq (a b : TxD) : a.same b = true ↔ a = b := by
  obtain ⟨v, i, o, u⟩ := a
  obtain ⟨v', i', o', u'⟩ := b
  simp [TxD.same, sameL_eq InD.same_eq, sameL_eq OutD.same_eq]
theorem BlkD.same_eq (a b : BlkD) : a.same b = true ↔ a = b := by
  obtain ⟨h, l⟩ := a
  obtain ⟨h', l'⟩ := b
  simp [BlkD.same, sameL_eq TxD.same_eq]
theorem BlkV.Fit.ok {w : World} {b : BlkV} (h : b.Fit) (hf : b.Fine w) : b.d.Ok := by
  refine ⟨hf.head, ?_, fun t ht => ?_⟩
  · have h1 : b.d.txs.length = b.n := by simp [BlkV.d, hf.txs.1]
    have := h.n
    omega
  · obtain ⟨x, hx, rfl⟩ := List.mem_map.1 ht
    have f := h.txs x hx
    exact TxV.ok (hf.txs.2.1 x hx) (by have := f.ins; omega) (by have := f.outs; omega) f.unlock f.lock
theorem BlkD.same_bytes (a b : BlkD) (ha : a.Ok) (hb : b.Ok) : a.same b = decide (a.bytes = b.bytes) := by
  rw [Bool.eq_iff_iff, BlkD.same_eq, decide_eq_true_iff]
  refine ⟨fun h => by rw [h], fun h => ?_⟩
  have h1 := parseB_back a ha
  have h2 := parseB_back b hb
  rw [h, h2] at h1
  exact (congrArg Prod.fst h1).symm
theorem TxV.Fit.bytes {w : World} {t : TxV} (h : t.Fit) (hf : t.Fine w) : t.d.bytes.length ≤ 700000 := by
  rw [TxD.bytes_eq]
  have h1 := flatMap_len (fun a : InV => a.d.bytes) t.ins 10100 (fun a ha => InV.bytes_len a (hf.ins.2.1 a ha).ref (by have h3 := (hf.ins.2.1 a ha).bys.1; have h4 := h.unlock a ha; omega))
  have h2 := flatMap_len (fun a : OutV => a.d.bytes) t.outs 10100 (fun a ha => OutV.bytes_len a (by have h3 := (hf.outs.2.1 a ha).bys.1; have h4 := h.lock a ha; omega))
  have h3 := hf.ins.1
  have h4 := hf.outs.1
  have h5 := h.ins
  have h6 := h.outs
  have h7 := (cnt_length t.ins.length).2
  have h8 := (cnt_length t.outs.length).2
  simp only [List.length_append, dig_length]
  have h9 : 10100 * t.ins.length ≤ 10100 * 30 := Nat.mul_le_mul_left _ (by omega)
  have h10 : 10100 * t.outs.length ≤ 10100 * 30 := Nat.mul_le_mul_left _ (by omega)
  omega
theorem BlkV.Fit.bytes {w : World} {b : BlkV} (h : b.Fit) (hf : b.Fine w) : b.d.bytes.length ≤ 30000000 := by
  rw [BlkD.bytes_eq]
  have h1 := flatMap_len (fun t : TxV => t.d.bytes) b.txs 700000 (fun t ht => (h.txs t ht).bytes (hf.txs.2.1 t ht))
  have h2 := hf.txs.1
  have h3 := h.n
  have h4 : 700000 * b.txs.length ≤ 700000 * 40 := Nat.mul_le_mul_left _ (by omega)
  have h5 := HeadD.bytes_len hf.head
  have h6 := (cnt_length b.txs.length).2
  simp only [List.length_append]
  omega
theorem neqHash_self (a : List Int) (ha : a.length = 32) (w : World) : (neqHash (.agg (bcs a).toArray) (.agg (bcs a).toArray)).run Try.prog w = .ok (.bool false) w := by
  rw [neqHash_run a a ha ha]; simp
attribute [local go_sem ↓] loadBlk_fold loadHash_fold neqHash_fold
attribute [local go_sem] guardHash
set_option maxHeartbeats 4000000 in
set_option maxRecDepth 100000 in
theorem blockbytes_any (w : World) (a b : BlkV) (ha : a.Fine w) (hb : b.Fine w) :
    Calls Try.prog 7 #[.agg a.cells.toArray, .agg b.cells.toArray] w fun e w' => e = .returned (.bool true) ∧ Below w.heap.size w w' := by
  have A0 := hide ((Blk.new w 40 a.cells).alloc (.cells b.cells.toArray 40))
  have B0 := hide (Blk.new1 w (.cells a.cells.toArray 40) 40 b.cells)
  have b0 := hide (below_alloc (below_alloc (Below.refl _ w) (.cells a.cells.toArray 40)) (.cells b.cells.toArray 40))
  have HA := hide ha
  have HB := hide hb
  clear ha hb
  go_enter Try.func7, Try.ntmps7
  go_wp2_with fail
  obtain ⟨pb, hpb⟩ : ∃ p, p = w.heap.size + 1 := ⟨_, rfl⟩
  rw [← hpb] at B0 ⊢
  refine (blockAlive_any _).mono ?_
  rintro e w1 ⟨rfl, b1⟩
  have HB1 := hide (Below.then_ b0.out b1)
  have KA1 := hide (A0.out.under b1)
  have KB1 := hide (B0.out.under b1)
  have la := loadBlk_run w1 w.heap.size 0 a KA1.out.whole HA.out.head
  clear b1 A0 B0 b0 hpb
  go_wp2_with fail
  refine (bgreat_any w1 a (HA.out.below HB1.out)).mono ?_
  rintro e w2 ⟨q1, rfl, hq1, b2⟩
  have HB2 := hide (Below.then_ HB1.out b2)
  have KA2 := hide (KA1.out.under b2)
  have KB2 := hide (KB1.out.under b2)
  have lb := loadBlk_run w2 pb 0 b KB2.out.whole HB.out.head
  clear b2 la
  by_cases hqa : q1 = true
  · subst hqa
    go_wp2_with fail
    go_ret
    exact ⟨rfl, HB2.out⟩
  · obtain rfl : q1 = false := by simpa using hqa
    have FA := hide (hq1 rfl)
    clear hq1 hqa
    go_wp2_with fail
    refine (bgreat_any w2 b (HB.out.below HB2.out)).mono ?_
    rintro e w3 ⟨q2, rfl, hq2, b3⟩
    have HB3 := hide (Below.then_ HB2.out b3)
    have KA3 := hide (KA2.out.under b3)
    have KB3 := hide (KB2.out.under b3)
    have la := loadBlk_run w3 w.heap.size 0 a KA3.out.whole HA.out.head
    clear b3 lb
    by_cases hqb : q2 = true
    · subst hqb
      go_wp2_with fail
      go_ret
      exact ⟨rfl, HB3.out⟩
    · obtain rfl : q2 = false := by simpa using hqb
      have FB := hide (hq2 rfl)
      clear hq2 hqb
      have OA := hide (FA.out.ok HA.out)
      have OB := hide (FB.out.ok HB.out)
      have SA := hide FA.out.small
      have SB := hide FB.out.small
      go_wp2_with fail
      refine (BBytes_any w3 a (HA.out.below HB3.out) SA.out).mono ?_
      rintro e w4 ⟨A4, n4, c4, rfl, t4, f4⟩
      have hl4 := hide (show n4 ≤ 1000000000 by rw [← t4.len]; have := FA.out.bytes HA.out; omega)
      have Y4 := hide t4.bys
      have HB4 := hide (Below.then_ HB3.out t4.below)
      have KA4 := hide (KA3.out.under t4.below)
      have KB4 := hide (KB3.out.under t4.below)
      clear t4 f4 la
      go_wp2_with fail
      refine (BParse_any w4 A4 n4 c4 a.d.bytes Y4.out hl4.out).mono ?_
      rintro e w5 ⟨V, rfl, hd, hv, hsv, b5⟩
      rw [parseB_back a.d OA.out] at hd ⊢
      have HD := hide hd
      have HV5 := hide hv
      have SV := hide hsv
      have HB5 := hide (Below.then_ HB4.out b5)
      have KA5 := hide (KA4.out.under b5)
      have KB5 := hide (KB4.out.under b5)
      have Y5 := hide (Y4.out.below b5)
      have T0 := hide (Blk.new w5 40 zeroB.cells)
      clear hd hv hsv b5
      go_wp2_with (first
        | (refine wpList_alloc_agg rfl 40 rfl zeroB.cells zeroBlk_info ?_; simp only [Act.put, sT, sZ, sS])
        | (refine blk_store rfl _ _ rfl w5.heap.size zeroB V zeroH_fine HV5.out.head (by rfl) (by rfl) T0.out ?_; intro w6 o6 k6; have KV := hide k6; have b6 := hide (show Below w5.heap.size w5 w6 from Below.trans ((Below.refl _ w5).alloc (Nat.le_refl _) _) (o6.below (by simp) (fun i hi e => by have h9 : i = w5.heap.size := e; omega))); clear o6 k6; simp only [Act.put]))
      have HB6 := hide (Below.then_ HB5.out b6.out)
      have KA6 := hide (KA5.out.under b6.out)
      have KB6 := hide (KB5.out.under b6.out)
      have Y6 := hide (Y5.out.below b6.out)
      have HV := hide (HV5.out.below b6.out)
      have HA6 := hide (HA.out.below HB6.out)
      have HB6' := hide (HB.out.below HB6.out)
      obtain ⟨PB, hPB⟩ : ∃ x, x = a.d.bytes := ⟨_, rfl⟩
      rw [← hPB] at Y6
      have HPB := hide hPB.symm
      obtain ⟨S, hS0⟩ : ∃ S, S = ba PB := ⟨_, rfl⟩
      have hpstr := hide (show ∀ (w' : World) (A' : Option Addr) (n' c' : Nat) (xs : List Int), Bys w' A' n' xs → xs = PB → (convert 56 9 (.slice A' n' c')).run Try.prog w' = .ok (.string S) w' from fun w' A' n' c' xs h e => by rw [hS0, ← e]; exact run_str w' A' n' c' xs h)
      obtain ⟨q4, hq4⟩ : ∃ q, q = a.d.same b.d := ⟨_, rfl⟩
      have HS1 := hide (show V.d.same a.d = true by rw [HD.out]; exact (BlkD.same_eq _ _).2 rfl)
      have HS2 := hide (show a.d.same b.d = q4 from hq4.symm)
      have HS3 := hide (show decide (a.d.bytes = b.d.bytes) = q4 by rw [hq4, BlkD.same_bytes _ _ OA.out OB.out])
      obtain ⟨CB, hCB⟩ : ∃ x, x = checkB a.d := ⟨_, rfl⟩
      have HCB := hide (show checkB a.d = CB from hCB.symm)
      clear hPB hS0 hq4 hCB Y4 Y5 KA4 KB4 KA5 KB5 KA3 KB3 KA2 KB2 KA1 KB1 HV5 T0 b6
      refine wp_region_held_drew (S := fun w' => Below w6.heap.size w6 w') (by kernel_rfl) (by exact (Below.refl _ _).drew) (fun hSA0 => ?_)
      obtain ⟨w6d, hwA⟩ : ∃ x, x = w6.drew := ⟨_, rfl⟩
      rw [← hwA] at hSA0 ⊢
      have hDA : Below w6.heap.size w6 w6d := by rw [hwA]; exact (Below.refl _ _).drew
      clear hwA
      (refine tk (i := 0) (oi := ⟨some 26, .move (.tmp 5), 56, "law.go:103", #[], none⟩) (v := ?_) hSA0 (fun w' hSw => ?_) ?_; rotate_left; focus (go_simp; try with_reducible rfl))
      simp only [Act.put, sT, sZ, sS]
      (refine tk (i := 1) (oi := ⟨some 27, .convert 56 9 (.tmp 26), 9, "law.go:103", #[⟨0, .data⟩], none⟩) (v := ?_) hSA0 (fun w' hSw => ?_) ?_; rotate_left; focus (have sb := hpstr.out w' A4 n4 c4 _ (Y6.out.below hSw) rfl; go_simp; try with_reducible rfl))
      simp only [Act.put, sT, sZ, sS]
      (refine tk (i := 2) (oi := ⟨some 28, .load 40 (.tmp 2), 40, "law.go:103", #[], none⟩) (v := ?_) hSA0 (fun w' hSw => ?_) ?_; rotate_left; focus (have lt := loadBlk_run w' w.heap.size 0 a (range_under KA6.out.whole hSw) HA.out.head; go_simp; try with_reducible rfl))
      simp only [Act.put, sT, sZ, sS]
      refine wpAnyH_ready (rs := [3]) (by kernel_rfl) (by simp) ?_
      refine AllReadyH.cons rfl (fun K hK => ?_) AllReadyH.nil
      go_simp
      go_wp2_with (go_at_call 27; refine (refBBytes_any w6d a (HA6.out.below hSA0) SA.out).mono ?_; rintro e x1 ⟨A7, n7, c7, rfl, t7, f7⟩)
      refine hK.out _ _ (Below.then_ hSA0 t7.below) (fun hSA1 => ?_)
      clear hK K
      refine wpAnyH_ready (rs := [4]) (by kernel_rfl) (by simp) ?_
      refine AllReadyH.cons rfl (fun K hK => ?_) AllReadyH.nil
      have s7 := hpstr.out x1 A7 n7 c7 _ t7.bys HPB.out
      go_simp
      refine hK.out _ _ (hSA1) (fun hSA2 => ?_)
      clear hK K
      (refine tk (i := 5) (oi := ⟨some 31, .binOp .neq 9 (.tmp 27) (.tmp 30) 9, 4, "law.go:103", #[⟨1, .data⟩, ⟨4, .data⟩], none⟩) (v := ?_) hSA2 (fun w' hSw => ?_) ?_; rotate_left; focus (go_simp; try with_reducible rfl))
      simp only [Act.put, sT, sZ, sS]
      (refine tk (i := 6) (oi := ⟨some 32, .move (.tmp 31), 4, "law.go:103", #[⟨5, .data⟩, ⟨3, .chain⟩], none⟩) (v := ?_) hSA2 (fun w' hSw => ?_) ?_; rotate_left; focus (go_simp; try with_reducible rfl))
      simp only [Act.put, sT, sZ, sS]
      (refine tk (i := 7) (oi := ⟨some 33, .move (.tmp 7), 69, "law.go:103", #[⟨6, .guard⟩], some (6, false)⟩) (v := ?_) hSA2 (fun w' hSw => ?_) ?_; rotate_left; focus (go_simp; try with_reducible rfl))
      simp only [Act.put, sT, sZ, sS]
      (refine tk (i := 8) (oi := ⟨some 34, .binOp .neq 69 (.tmp 33) (.const (.int .i64 0)) 69, 4, "law.go:103", #[⟨7, .data⟩, ⟨6, .guard⟩], some (6, false)⟩) (v := ?_) hSA2 (fun w' hSw => ?_) ?_; rotate_left; focus (go_simp; try with_reducible rfl))
      simp only [Act.put, sT, sZ, sS]
      (refine tk (i := 9) (oi := ⟨some 35, .pick (.tmp 32) (.const (.bool Bool.true)) (.tmp 34), 4, "law.go:103", #[⟨6, .data⟩, ⟨8, .data⟩], none⟩) (v := ?_) hSA2 (fun w' hSw => ?_) ?_; rotate_left; focus (go_simp; try with_reducible rfl))
      simp only [Act.put, sT, sZ, sS]
      (refine tk (i := 10) (oi := ⟨some 36, .move (.tmp 35), 4, "law.go:103", #[⟨9, .data⟩, ⟨6, .chain⟩], none⟩) (v := ?_) hSA2 (fun w' hSw => ?_) ?_; rotate_left; focus (go_simp; try with_reducible rfl))
      simp only [Act.put, sT, sZ, sS]
      (refine tk (i := 11) (oi := ⟨some 37, .load 40 (.tmp 6), 40, "law.go:103", #[⟨10, .guard⟩], some (10, false)⟩) (v := ?_) hSA2 (fun w' hSw => ?_) ?_; rotate_left; focus (have lt := loadBlk_run w' w5.heap.size 0 V (range_under KV.out.whole hSw) HV.out.head; go_simp; try with_reducible rfl))
      simp only [Act.put, sT, sZ, sS]
      (refine tk (i := 12) (oi := ⟨some 38, .load 40 (.tmp 2), 40, "law.go:103", #[⟨10, .guard⟩], some (10, false)⟩) (v := ?_) hSA2 (fun w' hSw => ?_) ?_; rotate_left; focus (have lt := loadBlk_run w' w.heap.size 0 a (range_under KA6.out.whole hSw) HA.out.head; go_simp; try with_reducible rfl))
      simp only [Act.put, sT, sZ, sS]
      refine wpAnyH_ready (rs := [13]) (by kernel_rfl) (by simp) ?_
      refine AllReadyH.cons rfl (fun K hK => ?_) AllReadyH.nil
      go_simp
      go_wp2_with (go_at_call 34; refine (BSame_any x1 V a (HV.out.below hSA1) (HA6.out.below hSA1) SV.out SA.out).mono ?_; rintro e x2 ⟨rfl, bx2⟩; rw [HS1.out])
      refine hK.out _ _ (Below.then_ hSA2 bx2) (fun hSA3 => ?_)
      clear hK K
      (refine tk (i := 14) (oi := ⟨some 40, .unOp .not 4 (.tmp 39), 4, "law.go:103", #[⟨13, .data⟩, ⟨10, .guard⟩], some (10, false)⟩) (v := ?_) hSA3 (fun w' hSw => ?_) ?_; rotate_left; focus (go_simp; try with_reducible rfl))
      simp only [Act.put, sT, sZ, sS]
      (refine tk (i := 15) (oi := ⟨some 41, .pick (.tmp 36) (.const (.bool Bool.true)) (.tmp 40), 4, "law.go:103", #[⟨10, .data⟩, ⟨14, .data⟩], none⟩) (v := ?_) hSA3 (fun w' hSw => ?_) ?_; rotate_left; focus (go_simp; try with_reducible rfl))
      simp only [Act.put, sT, sZ, sS]
      (refine tk (i := 16) (oi := ⟨some 42, .move (.tmp 41), 4, "law.go:103", #[⟨15, .data⟩, ⟨13, .chain⟩], none⟩) (v := ?_) hSA3 (fun w' hSw => ?_) ?_; rotate_left; focus (go_simp; try with_reducible rfl))
      simp only [Act.put, sT, sZ, sS]
      (refine tk (i := 17) (oi := ⟨some 43, .load 40 (.tmp 2), 40, "law.go:103", #[⟨16, .guard⟩], some (16, false)⟩) (v := ?_) hSA3 (fun w' hSw => ?_) ?_; rotate_left; focus (have lt := loadBlk_run w' w.heap.size 0 a (range_under KA6.out.whole hSw) HA.out.head; go_simp; try with_reducible rfl))
      simp only [Act.put, sT, sZ, sS]
      (refine tk (i := 18) (oi := ⟨some 44, .load 40 (.tmp 3), 40, "law.go:103", #[⟨16, .guard⟩], some (16, false)⟩) (v := ?_) hSA3 (fun w' hSw => ?_) ?_; rotate_left; focus (have lt := loadBlk_run w' pb 0 b (range_under KB6.out.whole hSw) HB.out.head; go_simp; try with_reducible rfl))
      simp only [Act.put, sT, sZ, sS]
      (refine tk (i := 20) (oi := ⟨some 46, .load 40 (.tmp 2), 40, "law.go:103", #[⟨16, .guard⟩], some (16, false)⟩) (v := ?_) hSA3 (fun w' hSw => ?_) ?_; rotate_left; focus (have lt := loadBlk_run w' w.heap.size 0 a (range_under KA6.out.whole hSw) HA.out.head; go_simp; try with_reducible rfl))
      simp only [Act.put, sT, sZ, sS]
      (refine tk (i := 21) (oi := ⟨some 47, .load 40 (.tmp 3), 40, "law.go:103", #[⟨16, .guard⟩], some (16, false)⟩) (v := ?_) hSA3 (fun w' hSw => ?_) ?_; rotate_left; focus (have lt := loadBlk_run w' pb 0 b (range_under KB6.out.whole hSw) HB.out.head; go_simp; try with_reducible rfl))
      simp only [Act.put, sT, sZ, sS]
      refine wpAnyH_ready (rs := [19]) (by kernel_rfl) (by simp) ?_
      refine AllReadyH.cons rfl (fun K hK => ?_) AllReadyH.nil
      go_simp
      go_wp2_with (go_at_call 34; refine (BSame_any x2 a b (HA6.out.below hSA3) (HB6'.out.below hSA3) SA.out SB.out).mono ?_; rintro e x3 ⟨rfl, bx3⟩; rw [HS2.out])
      refine hK.out _ _ (Below.then_ hSA3 bx3) (fun hSA4 => ?_)
      clear hK K
      refine wpAnyH_ready (rs := [22]) (by kernel_rfl) (by simp) ?_
      refine AllReadyH.cons rfl (fun K hK => ?_) AllReadyH.nil
      go_simp
      go_wp2_with (go_at_call 35; refine (refBSame_any x3 a b (HA6.out.below hSA4) (HB6'.out.below hSA4) SA.out SB.out).mono ?_; rintro e x4 ⟨rfl, bx4⟩; rw [HS3.out])
      refine hK.out _ _ (Below.then_ hSA4 bx4) (fun hSA5 => ?_)
      clear hK K
      (refine tk (i := 23) (oi := ⟨some 49, .binOp .neq 4 (.tmp 45) (.tmp 48) 4, 4, "law.go:103", #[⟨19, .data⟩, ⟨22, .data⟩, ⟨16, .guard⟩], some (16, false)⟩) (v := ?_) hSA5 (fun w' hSw => ?_) ?_; rotate_left; focus (go_simp; try with_reducible rfl))
      simp only [Act.put, sT, sZ, sS]
      (refine tk (i := 24) (oi := ⟨some 50, .pick (.tmp 42) (.const (.bool Bool.true)) (.tmp 49), 4, "law.go:103", #[⟨16, .data⟩, ⟨23, .data⟩], none⟩) (v := ?_) hSA5 (fun w' hSw => ?_) ?_; rotate_left; focus (go_simp; try with_reducible rfl))
      simp only [Act.put, sT, sZ, sS]
      (refine tk (i := 25) (oi := ⟨some 51, .move (.tmp 50), 4, "law.go:103", #[⟨24, .data⟩, ⟨22, .chain⟩], none⟩) (v := ?_) hSA5 (fun w' hSw => ?_) ?_; rotate_left; focus (go_simp; try with_reducible rfl))
      simp only [Act.put, sT, sZ, sS]
      (refine tk (i := 26) (oi := ⟨some 52, .load 40 (.tmp 2), 40, "law.go:103", #[⟨25, .guard⟩], some (25, false)⟩) (v := ?_) hSA5 (fun w' hSw => ?_) ?_; rotate_left; focus (have lt := loadBlk_run w' w.heap.size 0 a (range_under KA6.out.whole hSw) HA.out.head; go_simp; try with_reducible rfl))
      simp only [Act.put, sT, sZ, sS]
      (refine tk (i := 28) (oi := ⟨some 54, .load 40 (.tmp 2), 40, "law.go:103", #[⟨25, .guard⟩], some (25, false)⟩) (v := ?_) hSA5 (fun w' hSw => ?_) ?_; rotate_left; focus (have lt := loadBlk_run w' w.heap.size 0 a (range_under KA6.out.whole hSw) HA.out.head; go_simp; try with_reducible rfl))
      simp only [Act.put, sT, sZ, sS]
      refine wpAnyH_ready (rs := [27]) (by kernel_rfl) (by simp) ?_
      refine AllReadyH.cons rfl (fun K hK => ?_) AllReadyH.nil
      go_simp
      go_wp2_with (go_at_call 36; refine (BCheck_any x4 a (HA6.out.below hSA5) SA.out).mono ?_; rintro e x5 ⟨rfl, bx5⟩; rw [HCB.out])
      refine hK.out _ _ (Below.then_ hSA5 bx5) (fun hSA6 => ?_)
      clear hK K
      refine wpAnyH_ready (rs := [29]) (by kernel_rfl) (by simp) ?_
      refine AllReadyH.cons rfl (fun K hK => ?_) AllReadyH.nil
      go_simp
      go_wp2_with (go_at_call 37; refine (refBCheck_any x5 a (HA6.out.below hSA6) SA.out).mono ?_; rintro e x6 ⟨rfl, bx6⟩; rw [HCB.out])
      refine hK.out _ _ (Below.then_ hSA6 bx6) (fun hSA7 => ?_)
      clear hK K
      (refine tk (i := 30) (oi := ⟨some 56, .binOp .neq 3 (.tmp 53) (.tmp 55) 3, 4, "law.go:103", #[⟨27, .data⟩, ⟨29, .data⟩, ⟨25, .guard⟩], some (25, false)⟩) (v := ?_) hSA7 (fun w' hSw => ?_) ?_; rotate_left; focus (go_simp; try with_reducible rfl))
      simp only [Act.put, sT, sZ, sS]
      (refine tk (i := 31) (oi := ⟨some 57, .pick (.tmp 51) (.const (.bool Bool.true)) (.tmp 56), 4, "law.go:103", #[⟨25, .data⟩, ⟨30, .data⟩], none⟩) (v := ?_) hSA7 (fun w' hSw => ?_) ?_; rotate_left; focus (go_simp; try with_reducible rfl))
      simp only [Act.put, sT, sZ, sS]
      refine wpAnyH_done (by kernel_rfl) ?_ _
      go_wp2_with fail
      have HB7 := hide (Below.then_ HB6.out hSA7)
      have KA7 := hide (KA6.out.under hSA7)
      obtain ⟨w8, hw8⟩ : ∃ x, x = x6 := ⟨_, rfl⟩
      rw [← hw8] at HB7 KA7 ⊢
      have KA8 := KA7
      have HA8 := hide (HA.out.below HB7.out)
      clear hw8 KA7
      refine wp_region_held_drew (S := fun w' => Below w8.heap.size w8 w') (by kernel_rfl) (by exact (Below.refl _ _).drew) (fun hSB0 => ?_)
      obtain ⟨w8d, hwB⟩ : ∃ x, x = w8.drew := ⟨_, rfl⟩
      rw [← hwB] at hSB0 ⊢
      have hDB : Below w8.heap.size w8 w8d := by rw [hwB]; exact (Below.refl _ _).drew
      clear hwB
      (refine tk (i := 0) (oi := ⟨some 58, .load 40 (.tmp 2), 40, "law.go:106", #[], none⟩) (v := ?_) hSB0 (fun w' hSw => ?_) ?_; rotate_left; focus (have lt := loadBlk_run w' w.heap.size 0 a (range_under KA8.out.whole hSw) HA.out.head; go_simp; try with_reducible rfl))
      simp only [Act.put, sT, sZ, sS]
      (refine tk (i := 2) (oi := ⟨some 60, .load 40 (.tmp 2), 40, "law.go:106", #[], none⟩) (v := ?_) hSB0 (fun w' hSw => ?_) ?_; rotate_left; focus (have lt := loadBlk_run w' w.heap.size 0 a (range_under KA8.out.whole hSw) HA.out.head; go_simp; try with_reducible rfl))
      simp only [Act.put, sT, sZ, sS]
      refine wpAnyH_ready (rs := [1]) (by kernel_rfl) (by simp) ?_
      refine AllReadyH.cons rfl (fun K hK => ?_) AllReadyH.nil
      go_simp
      go_wp2_with (go_at_call 38; refine (BIds_any w8d a (HA8.out.below hSB0) SA.out).mono ?_; rintro e y1 ⟨Ai, ci, rfl, hi, hci, bi, fi⟩; have HI := hide hi)
      refine hK.out _ _ (Below.then_ hSB0 bi) (fun hSB1 => ?_)
      clear hK K
      refine wpAnyH_ready (rs := [3]) (by kernel_rfl) (by simp) ?_
      refine AllReadyH.cons rfl (fun K hK => ?_) AllReadyH.nil
      go_simp
      go_wp2_with (go_at_call 39; refine (refBIds_any y1 a (HA8.out.below hSB1) SA.out).mono ?_; rintro e y2 ⟨Aj, cj, rfl, hj, hcj, bj, fj⟩; have HI2 := hide (HI.out.below' bj); have HJ := hide hj)
      refine hK.out _ _ (Below.then_ hSB1 bj) (fun hSB2 => ?_)
      clear hK K
      (refine tk (i := 4) (oi := ⟨some 8, .assign (.tmp 59), 65, "law.go:106", #[⟨1, .data⟩, ⟨3, .chain⟩, ⟨0, .phase⟩, ⟨1, .phase⟩, { on := 2, ground := Go.Ground.textOnly Go.Departure.lateStores }, { on := 3, ground := Go.Ground.textOnly Go.Departure.lateStoresUnsure }], none⟩) (v := ?_) hSB2 (fun w' hSw => ?_) ?_; rotate_left; focus (go_simp; try with_reducible rfl))
      simp only [Act.put, sT, sZ, sS]
      (refine tk (i := 5) (oi := ⟨some 9, .assign (.tmp 61), 65, "law.go:106", #[⟨3, .data⟩, ⟨4, .chain⟩, ⟨0, .phase⟩, ⟨1, .phase⟩, ⟨2, .phase⟩, ⟨3, .phase⟩, ⟨4, .phase⟩], none⟩) (v := ?_) hSB2 (fun w' hSw => ?_) ?_; rotate_left; focus (go_simp; try with_reducible rfl))
      simp only [Act.put, sT, sZ, sS]
      refine wpAnyH_done (by kernel_rfl) ?_ _
      have HB9 := hide (Below.then_ HB7.out hSB2)
      obtain ⟨l, hl⟩ : ∃ z, z = a.d.ids := ⟨_, rfl⟩
      rw [← hl] at HI2 HJ ⊢
      have h8 : a.d.txs.length = a.n := by simp [BlkV.d, HA.out.txs.1]
      have hln := hide (show l.length ≤ 1000 by rw [hl, BlkD.ids, List.length_map, h8]; exact SA.out.n)
      clear hl hi hj h8
      go_wp2_with fail
      have hn9 : (l.length : Int) ≤ 1000 := by have := hln.out; omega
      go_loopw [69] (fun i ws => ∃ j : Nat, j ≤ l.length ∧ i = .int .i64 (j : Int) ∧ Below y2.heap.size y2 ws) (fun i _ => l.length - (intOf i).toNat)
      case atStart => exact ⟨0, by omega, rfl, Below.refl _ _⟩
      case round =>
        obtain ⟨j, hj, rfl, hbr⟩ := hrel
        have HBR := hide hbr
        clear hbr
        by_cases hlt : j < l.length
        · obtain ⟨x, hx⟩ : ∃ x, l[j]? = some x := ⟨_, List.getElem?_eq_getElem hlt⟩
          obtain ⟨bi9, oi9, ei, ri⟩ := HI2.out.2.2 (by omega)
          obtain ⟨bj9, oj9, ej, rj⟩ := HJ.out.2.2 (by omega)
          have hxf := hide (HI2.out.2.1 x (List.mem_of_getElem? hx))
          have HXI := hide (range_under (ri j x hx) HBR.out)
          have HXJ := hide (range_under (rj j x hx) HBR.out)
          have hnx := hide (fun w => neqHash_self x hxf.out.1 w)
          have i0 : (0 : Int) ≤ (j : Int) := by omega
          have i1 : (j : Int) < (l.length : Int) := by omega
          clear hx ri rj
          rw [ei, ej]
          go_wp2_with fail
          refine wp_region_held_drew (S := fun w' => Below wr.heap.size wr w') (by kernel_rfl) (by exact (Below.refl _ _).drew) (fun hSC0 => ?_)
          obtain ⟨wrd, hwC⟩ : ∃ x, x = wr.drew := ⟨_, rfl⟩
          rw [← hwC] at hSC0 ⊢
          clear hwC
          (refine tk (i := 0) (oi := ⟨some 72, .move (.tmp 8), 65, "law.go:111", #[], none⟩) (v := ?_) hSC0 (fun w' hSw => ?_) ?_; rotate_left; focus (go_simp; try with_reducible rfl))
          simp only [Act.put, sT, sZ, sS]
          (refine tk (i := 1) (oi := ⟨some 73, .move (.tmp 10), 3, "law.go:111", #[], none⟩) (v := ?_) hSC0 (fun w' hSw => ?_) ?_; rotate_left; focus (go_simp; try with_reducible rfl))
          simp only [Act.put, sT, sZ, sS]
          (refine tk (i := 2) (oi := ⟨some 74, .indexAddr 65 (.tmp 72) (.tmp 73), 0, "law.go:111", #[⟨0, .data⟩, ⟨1, .data⟩], none⟩) (v := ?_) hSC0 (fun w' hSw => ?_) ?_; rotate_left; focus (go_simp; try with_reducible rfl))
          simp only [Act.put, sT, sZ, sS]
          (refine tk (i := 3) (oi := ⟨some 75, .load 31 (.tmp 74), 31, "law.go:111", #[⟨2, .data⟩], none⟩) (v := ?_) hSC0 (fun w' hSw => ?_) ?_; rotate_left; focus (have h1 := loadHashB_run w' bi9 (oi9 + j * 32) x (range_under HXI.out hSw) hxf.out.1; go_simp; try with_reducible rfl))
          simp only [Act.put, sT, sZ, sS]
          (refine tk (i := 4) (oi := ⟨some 76, .move (.tmp 9), 65, "law.go:111", #[], none⟩) (v := ?_) hSC0 (fun w' hSw => ?_) ?_; rotate_left; focus (go_simp; try with_reducible rfl))
          simp only [Act.put, sT, sZ, sS]
          (refine tk (i := 5) (oi := ⟨some 77, .move (.tmp 10), 3, "law.go:111", #[], none⟩) (v := ?_) hSC0 (fun w' hSw => ?_) ?_; rotate_left; focus (go_simp; try with_reducible rfl))
          simp only [Act.put, sT, sZ, sS]
          (refine tk (i := 6) (oi := ⟨some 78, .indexAddr 65 (.tmp 76) (.tmp 77), 0, "law.go:111", #[⟨4, .data⟩, ⟨5, .data⟩], none⟩) (v := ?_) hSC0 (fun w' hSw => ?_) ?_; rotate_left; focus (go_simp; try with_reducible rfl))
          simp only [Act.put, sT, sZ, sS]
          (refine tk (i := 7) (oi := ⟨some 79, .load 31 (.tmp 78), 31, "law.go:111", #[⟨6, .data⟩], none⟩) (v := ?_) hSC0 (fun w' hSw => ?_) ?_; rotate_left; focus (have h2 := loadHashB_run w' bj9 (oj9 + j * 32) x (range_under HXJ.out hSw) hxf.out.1; go_simp; try with_reducible rfl))
          simp only [Act.put, sT, sZ, sS]
          (refine tk (i := 8) (oi := ⟨some 80, .binOp .neq 31 (.tmp 75) (.tmp 79) 31, 4, "law.go:111", #[⟨3, .data⟩, ⟨7, .data⟩], none⟩) (v := ?_) hSC0 (fun w' hSw => ?_) ?_; rotate_left; focus (have h3 := hnx.out w'; go_simp; try with_reducible rfl))
          simp only [Act.put, sT, sZ, sS]
          refine wpAnyH_done (by kernel_rfl) ?_ _
          go_wp2_with fail
          exact ⟨⟨j + 1, by omega, by simp, Below.then_ HBR.out hSC0⟩, by simp [intOf]; omega⟩
        · have i1 : ¬ (j : Int) < (l.length : Int) := by omega
          clear hlt hj
          go_wp2_with fail
          go_ret
          exact ⟨rfl, Below.then_ HB9.out HBR.out⟩
end Go.Proofs.Ytbpmcnfmgaolnaa
