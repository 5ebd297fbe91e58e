/-
  tx: Parse, Id.
-/
import Derived.Test.YtfloclamdpageaaTxB
import Derived.Test.YtfloclamdpageaaSha6
namespace Go.Proofs.Ytfloclamdpageaa
open Go.RowKit

def parseT (b : List Int) : TxD × Int :=
  if (Rd.tx ⟨b, 0⟩).2.err ≠ 0 then (zeroT, (Rd.tx ⟨b, 0⟩).2.err) else if 0 < (Rd.tx ⟨b, 0⟩).2.rest.length then (zeroT, 62) else ((Rd.tx ⟨b, 0⟩).1, 0)
theorem parseT_eq (b : List Int) (d : TxD) (r : Rd) (h : Rd.tx ⟨b, 0⟩ = (d, r)) : parseT b = if r.err ≠ 0 then (zeroT, r.err) else if 0 < r.rest.length then (zeroT, 62) else (d, 0) := by
  unfold parseT; rw [h]
theorem TxV.one (t : TxV) : ∀ v ∈ t.cells, v.oneCell' = true := by
  intro v hv
  simp only [TxV.cells, List.mem_cons, List.mem_nil_iff, or_false] at hv
  rcases hv with rfl | rfl | rfl | rfl <;> rfl
def zeroV : TxV := ⟨0, none, 0, 0, [], none, 0, 0, [], 0⟩
theorem zeroV_fine (w : World) : zeroV.Fine w := ⟨by decide, by decide, RowsIn.nil _ _ _ _ _, RowsIn.nil _ _ _ _ _, Nat.le_refl _, Nat.le_refl _⟩
theorem zeroV_small : zeroV.Small := ⟨by decide, by decide, by simp [zeroV], by simp [zeroV]⟩
theorem zeroTx_info : (Try.prog.info? 65).map (·.zero) = some (some (.agg zeroV.cells.toArray)) := by kernel_rfl
theorem isTx : (Try.prog.info? 65).map (·.size) = some 4 := by kernel_rfl
def mkTx (parts : Array (Nat × Value)) : Sem Value := Instr.build 65 parts
theorem mkTx_fold (parts : Array (Nat × Value)) : Instr.build 65 parts = mkTx parts := rfl
theorem mkTx_zero (w : World) : (mkTx #[]).run Try.prog w = .ok (.agg zeroV.cells.toArray) w := by kernel_rfl
def loadTx (a : Addr) : Sem Value := loadVar 65 a
theorem loadTx_fold (a : Addr) : loadVar 65 a = loadTx a := rfl
theorem loadTx_run (w : World) (b o : Nat) (t : TxV) (h : w.rangeAt b o t.cells) : (loadTx ⟨b, o, none⟩).run Try.prog w = .ok (.agg t.cells.toArray) w :=
  run_loadVar_mid w b o _ t.cells _ h Try.underlying65 rfl (by rw [isTx]; rfl)
attribute [local go_sem ↓] mkTx_fold loadTx_fold
attribute [local go_sem] mkTx_zero
theorem TxV.Fine.only {w w' : World} {t : TxV} (h : t.Fine w) {F : Nat → Prop} (ho : Only F w w') (hF : ∀ i, i < w.heap.size → ¬ F i) : t.Fine w' := h.below (ho.below (Nat.le_refl _) hF)
set_option maxHeartbeats 4000000 in
set_option maxRecDepth 100000 in
theorem TParse_any (w : World) (A : Option Addr) (n c : Nat) (bs : List Int) (hB : Bys w A n bs) (hn : n ≤ 1000000000) :
    Calls Try.prog 40 #[.slice A n c] w fun e w' => ∃ V : TxV, e = .returned (.tuple #[.agg V.cells.toArray, .int .i64 (parseT bs).2]) ∧ V.d = (parseT bs).1 ∧ V.Fine w' ∧ V.Small ∧ Below w.heap.size w w' := by
  have HB := hide hB
  have HN := hide hn
  have BZ := hide (Blk.new w 65 zeroV.cells)
  have b0 := hide (show Below w.heap.size w (w.alloc (.cells zeroV.cells.toArray 65)) from (Below.refl _ w).alloc (Nat.le_refl _) _)
  have HU := hide Try.underlying65
  have hI := isTx
  clear hB hn
  go_enter Try.func40, Try.ntmps40
  go_wp2_with (refine wpList_alloc_agg rfl 65 rfl zeroV.cells zeroTx_info ?_; simp only [Act.put, List.setIfInBounds_toArray, List.set_cons_zero, List.set_cons_succ])
  refine (New_any _ A n c bs (HB.out.below b0.out) HN.out).mono ?_
  rintro e w1 ⟨g, h, rfl, hR1, hg, hh, hb1⟩
  have hsz : (w.alloc (.cells zeroV.cells.toArray 65)).heap.size = w.heap.size + 1 := by simp
  rw [hsz] at hg hh
  have B1 := hide (BZ.out.under hb1)
  have hw1 := hide (Below.then_ b0.out hb1)
  have hgv := hide (show ¬ w.heap.size = g by omega)
  have hG := hide hg
  clear hsz hg hb1 BZ
  go_wp2_with fail
  refine (TRead_any w1 g h _ hR1).mono ?_
  rintro e w2 ⟨V, rfl, hd, hf, hs, hR2, o2⟩
  obtain ⟨d, r, hdr⟩ : ∃ d r, Rd.tx ⟨bs, 0⟩ = (d, r) := ⟨_, _, rfl⟩
  have HP := hide (parseT_eq bs d r hdr)
  rw [hdr] at hd hR2
  simp only at hd hR2
  have B2 := hide ((o2.blk B1.out hgv.out).alloc (.cells zeroV.cells.toArray 65))
  have T2 := hide (Blk.new w2 65 zeroV.cells)
  have hw2 := hide (show Below w.heap.size w (w2.alloc (.cells zeroV.cells.toArray 65)) from (hw1.out.trans (o2.below hw1.out.size (fun i hi e => by have h9 : i = g := e; have := hG.out; omega))).alloc (Nat.le_trans hw1.out.size o2.size) _)
  have hR2a := hide (hR2.below ((Below.refl _ w2).alloc (Nat.le_refl _) (.cells zeroV.cells.toArray 65)))
  have hwv := hide (show w.heap.size < w1.heap.size from B1.out.lt)
  have hgl := hide hR2.lt
  have hsz2 := hide (show w.heap.size < w2.heap.size from (o2.blk B1.out hgv.out).lt)
  have HF := hide hf
  clear hR1 hR2 o2 B1 hf hdr
  go_wp2_with (first
    | (refine wpList_alloc_agg rfl 65 rfl zeroV.cells zeroTx_info ?_; simp only [Act.put, List.setIfInBounds_toArray, List.set_cons_zero, List.set_cons_succ])
    | (refine wpList_store_blk rfl 65 _ _ rfl w2.heap.size 0 65 zeroV.cells V.cells (by rfl) (by rfl) T2.out (Nat.le_refl _) (by exact hI) (TxV.one V) ?_; intro w3 o3 z3 b3; simp only [Act.put]))
  rw [lay_all zeroV.cells V.cells (by rfl)] at b3
  have hR3 := hR2a.out.keep o3 (fun e => by have h9 : g = w2.heap.size := e; have := hgl.out.1; omega) (fun e => by have h9 : h = w2.heap.size := e; have := hgl.out.2; omega)
  have B3 := hide (o3.blk B2.out (by have := hsz2.out; omega))
  have T3 := hide b3
  have hw3 := hide (hw2.out.trans (o3.below hw2.out.size (fun i hi e => by have h9 : i = w2.heap.size := e; have := hsz2.out; omega)))
  have hF3 := hide (show ∀ w', Only (fun i => i < w1.heap.size) w3 w' → V.Fine w' from fun w' hw' => HF.out w' ((Only.of_below (Below.trans ((Below.refl _ w2).alloc (Nat.le_refl _) (.cells zeroV.cells.toArray 65)) (o3.below (by simp) (fun i hi e => by have h9 : i = w2.heap.size := e; omega))) _).trans hw' (fun _ _ h => h)))
  have hsz3 := hide (show w.heap.size < w3.heap.size from B3.out.lt)
  clear b3 o3 z3 B2 T2 hw2 hR2a HF
  refine (Err_any _ g h _ hR3).mono ?_
  rintro e w4 ⟨rfl, rfl⟩
  by_cases he : r.err = 0
  · have he' : (r.err == 0) = true := by simpa using he
    have hP := HP.out
    rw [if_neg (fun h => h he)] at hP
    have HP1 := hide hP
    clear hP
    go_wp2_with fail
    refine (Left_any _ g h _ hR3).mono ?_
    rintro e w4 ⟨rfl, rfl⟩
    by_cases hl : 0 < r.rest.length
    · have hl' : (0 : Int) < (r.rest.length : Int) := by omega
      have hP := HP1.out
      rw [if_pos hl] at hP
      have HP2 := hide hP
      clear hP hl
      go_wp2_with (refine wpList_store_blk rfl 65 _ _ rfl w.heap.size 0 65 zeroV.cells zeroV.cells (by rfl) (by rfl) B3.out (Nat.le_refl _) (by exact hI) (TxV.one zeroV) ?_; intro w9 o9 z9 b9; simp only [Act.put])
      rw [lay_all zeroV.cells zeroV.cells (by rfl)] at b9
      refine bodyPost_ret (results_cell_tmp_blk rfl _ _ w.heap.size 65 _ _ (by rfl) b9 HU.out rfl (by exact hI)) rfl ⟨zeroV, ?_, ?_, ?_, zeroV_small, ?_⟩
      · rw [HP2.out]; rfl
      · rw [HP2.out]; exact rfl
      · exact zeroV_fine _
      · exact hw3.out.trans (o9.below hw3.out.size (fun i hi e => by have h9 : i = w.heap.size := e; omega))
    · have hl' : ¬ (0 : Int) < (r.rest.length : Int) := by omega
      have hP := HP1.out
      rw [if_neg hl] at hP
      have HP2 := hide hP
      have HD := hide hd
      clear hP hl hd
      go_wp2_with (first
        | (refine wpList_load_blk rfl 65 _ rfl w2.heap.size 0 65 V.cells V.cells _ (by rfl) T3.out (fun i v hv => by rw [Nat.zero_add]; exact hv) HU.out rfl (by exact hI) ?_; simp only [Act.put, List.setIfInBounds_toArray, List.set_cons_zero, List.set_cons_succ])
        | (refine wpList_store_blk rfl 65 _ _ rfl w.heap.size 0 65 zeroV.cells V.cells (by rfl) (by rfl) B3.out (Nat.le_refl _) (by exact hI) (TxV.one V) ?_; intro w9 o9 z9 b9; simp only [Act.put]))
      rw [lay_all zeroV.cells V.cells (by rfl)] at b9
      refine bodyPost_ret (results_cell_tmp_blk rfl _ _ w.heap.size 65 _ _ (by rfl) b9 HU.out rfl (by exact hI)) rfl ⟨V, ?_, ?_, ?_, hs, ?_⟩
      · rw [HP2.out]; rfl
      · rw [HP2.out]; exact HD.out
      · exact hF3.out w9 (o9.mono (fun i _ h => by have h9 : i = w.heap.size := h; have := hwv.out; omega))
      · exact hw3.out.trans (o9.below hw3.out.size (fun i hi e => by have h9 : i = w.heap.size := e; omega))
  · have he' : (r.err == 0) = false := by simpa using he
    have hP := HP.out
    rw [if_pos he] at hP
    have HP2 := hide hP
    clear hP
    go_wp2_with fail
    refine (Err_any _ g h _ hR3).mono ?_
    rintro e w4 ⟨rfl, rfl⟩
    go_wp2_with (refine wpList_store_blk rfl 65 _ _ rfl w.heap.size 0 65 zeroV.cells zeroV.cells (by rfl) (by rfl) B3.out (Nat.le_refl _) (by exact hI) (TxV.one zeroV) ?_; intro w9 o9 z9 b9; simp only [Act.put])
    rw [lay_all zeroV.cells zeroV.cells (by rfl)] at b9
    refine bodyPost_ret (results_cell_tmp_blk rfl _ _ w.heap.size 65 _ _ (by rfl) b9 HU.out rfl (by exact hI)) rfl ⟨zeroV, ?_, ?_, ?_, zeroV_small, ?_⟩
    · rw [HP2.out]; rfl
    · rw [HP2.out]; exact rfl
    · exact zeroV_fine _
    · exact hw3.out.trans (o9.below hw3.out.size (fun i hi e => by have h9 : i = w.heap.size := e; omega))
theorem TxV.bytes_len {w : World} {t : TxV} (hf : t.Fine w) (hs : t.Small) : t.d.bytes.length ≤ 100000000 := by
  rw [TxD.bytes_eq]
  have h1 := flatMap_len (fun a : InV => a.d.bytes) t.ins 10100 (fun a ha => InV.bytes_len a (hf.ins.2.1 a ha).ref (by have h3 := (hf.ins.2.1 a ha).bys.1; have h4 := hs.unlock a ha; omega))
  have h2 := flatMap_len (fun a : OutV => a.d.bytes) t.outs 10100 (fun a ha => OutV.bytes_len a (by have h3 := (hf.outs.2.1 a ha).bys.1; have h4 := hs.lock a ha; omega))
  have h3 := hf.ins.1
  have h4 := hf.outs.1
  have h5 := hs.ins
  have h6 := hs.outs
  have h7 := (cnt_length t.ins.length).2
  have h8 := (cnt_length t.outs.length).2
  simp only [List.length_append, dig_length]
  have h9 : 10100 * t.ins.length ≤ 10100 * 1000 := Nat.mul_le_mul_left _ (by omega)
  have h10 : 10100 * t.outs.length ≤ 10100 * 1000 := Nat.mul_le_mul_left _ (by omega)
  omega
set_option maxHeartbeats 4000000 in
set_option maxRecDepth 100000 in
theorem TId_any (w : World) (t : TxV) (hf : t.Fine w) (hs : t.Small) :
    Calls Try.prog 52 #[.agg t.cells.toArray] w fun e w' => e = .returned (.agg (bcs (sha2 t.d.bytes)).toArray) ∧ Below w.heap.size w w' := by
  have hHH := hide Try.underlying44
  have hIH : (Try.prog.info? 44).map (·.size) = some 32 := by kernel_rfl
  have lz32 : (bcs zero32).length = 32 := rfl
  have lsh2 : (bcs (sha2 t.d.bytes)).length = 32 := by rw [bcs_length, sha2_len]
  have b1 : Below w.heap.size w ((w.alloc (.cells t.cells.toArray 65)).alloc (.cells (bcs zero32).toArray 44)) := Below.then_ ((Below.refl _ w).alloc (Nat.le_refl _) _) ((Below.refl _ _).alloc (Nat.le_refl _) _)
  have T0 := (Blk.new w 65 t.cells).alloc (.cells (bcs zero32).toArray 44)
  have K0 := hide (Blk.new1 w (.cells t.cells.toArray 65) 44 (bcs zero32))
  have hld := loadTx_run _ w.heap.size 0 t T0.whole
  have hF := hide (hf.below b1)
  have B1 := hide b1
  have hlen := hide (TxV.bytes_len hf hs)
  have hsz := hide (show ((w.alloc (.cells t.cells.toArray 65)).alloc (.cells (bcs zero32).toArray 44)).heap.size = w.heap.size + 2 by simp)
  clear T0 b1 hf
  go_enter Try.func52, Try.ntmps52
  go_wp2_with (refine wpList_alloc_agg rfl 44 rfl (bcs zero32) zero32_info ?_; simp only [Act.put, List.setIfInBounds_toArray, List.set_cons_zero, List.set_cons_succ, World.size_alloc])
  refine (TBytes_any _ t hF.out hs).mono ?_
  rintro e w2 ⟨A2, n2, c2, rfl, t2, f2⟩
  have hb2 := hide (Below.then_ B1.out t2.below)
  have K2 := hide (K0.out.under t2.below)
  have hn2 := t2.len
  have HBY := hide (Byss.one w2 w2 22 A2 n2 c2 t.d.bytes t2.bys t2.cap (Below.refl _ _))
  have hb23 : Below w2.heap.size w2 (w2.alloc (.cells #[.slice A2 n2 c2] 22)) := (Below.refl _ w2).alloc (Nat.le_refl _) _
  have HB23 := hide hb23
  clear hld t2 f2 hn2 hb23
  go_wp2_with fail
  refine (Twice_any _ _ 1 1 [t.d.bytes] HBY.out (by simp) (by simpa using hlen.out) (by decide)).mono ?_
  rintro e w5 ⟨rfl, hb5⟩
  have hf1 : [t.d.bytes].flatten = t.d.bytes := by simp
  rw [hf1]
  have hb25 := hide (Below.then_ HB23.out hb5)
  have K5 := hide (K2.out.under hb25.out)
  have hbw := hide (Below.then_ hb2.out hb25.out)
  go_wp2_with (refine wpList_store_blk rfl 44 _ _ rfl (w.heap.size + 1) 0 44 (bcs zero32) (bcs (sha2 t.d.bytes)) (by rfl) (by rfl) K5.out (by rw [lz32, lsh2]; decide) (by rw [hIH, lsh2]) (bcs_one _) ?_; intro w9 o9 z9 b9; simp only [Act.put])
  rw [lay_all (bcs zero32) _ (by rw [lz32, lsh2])] at b9
  refine bodyPost_ret (results_cell_blk rfl _ _ (w.heap.size + 1) 44 _ _ (by rfl) b9 hHH.out rfl (by rw [hIH, lsh2])) rfl ⟨rfl, ?_⟩
  exact hbw.out.trans (o9.below hbw.out.size (fun i hi e => by have h9 : i = w.heap.size + 1 := e; omega))
end Go.Proofs.Ytfloclamdpageaa
