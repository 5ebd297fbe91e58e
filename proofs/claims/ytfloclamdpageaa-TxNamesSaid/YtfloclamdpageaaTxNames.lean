/-
  TxNames: the walk.
-/
import Derived.Test.YtfloclamdpageaaTxI
namespace Go.Proofs.Ytfloclamdpageaa
open Go.RowKit

def namT (gl gi gk go : Nat) : TxV := ⟨1, some ⟨gi, 0, none⟩, 1, 1, [⟨nullR, some ⟨gl, 0, none⟩, 1, 1, [1], 0⟩], some ⟨go, 0, none⟩, 1, 1, [baseO gk], 0⟩
def namU (gl gi : Nat) : TxV := ⟨1, some ⟨gi, 0, none⟩, 1, 1, [baseI gl], none, 0, 0, [], 0⟩
def namW (gl gi gk go : Nat) : TxV := ⟨1, some ⟨gi, 0, none⟩, 1, 1, [baseI gl], some ⟨go, 0, none⟩, 1, 1, [⟨-1, some ⟨gk, 0, none⟩, 1, 1, [81]⟩], 0⟩
theorem namT_check (gl gi gk go : Nat) : checkT (namT gl gi gk go).d = 101 := by
  show checkT ⟨1, [⟨nullR, [1], 0⟩], [⟨5, [81]⟩], 0⟩ = 101
  decide +kernel
theorem namU_check (gl gi : Nat) : checkT (namU gl gi).d = 101 := by
  show checkT ⟨1, [⟨nullR, [1, 2], 0⟩], [], 0⟩ = 101
  decide +kernel
theorem namW_check (gl gi gk go : Nat) : checkT (namW gl gi gk go).d = 91 := by
  show checkT ⟨1, [⟨nullR, [1, 2], 0⟩], [⟨-1, [81]⟩], 0⟩ = 91
  decide +kernel
theorem zero_check : checkT zeroV.d = 101 := by decide +kernel
theorem zero_base : baseT (zeroV.ins.map InV.d) = false := rfl
theorem parse_nil : (parseT []).2 = 61 := by decide +kernel
theorem parse_more : (parseT (baseD.bytes ++ [0])).2 = 62 := by decide +kernel
theorem tx_row {w : World} {gl gi : Nat} {a : InV} {A : Option Addr} (h : Blk w gi 68 a.cells) (hf : a.Fine w) (hA : A = some ⟨gi, 0, none⟩) : InsIn w A 1 [a] := by
  subst hA
  refine ⟨rfl, fun b hb => by obtain rfl : b = a := by simpa using hb
                              exact hf, fun _ => ⟨gi, 0, rfl, fun j b hb => ?_⟩⟩
  rcases j with _ | j
  · obtain rfl : a = b := by simpa using hb
    simpa using h.whole
  · simp at hb
theorem tx_out {w : World} {go : Nat} {a : OutV} (h : Blk w go 24 a.cells) (hf : a.Fine w) : OutsIn w (some ⟨go, 0, none⟩) 1 [a] := by
  refine ⟨rfl, fun b hb => by obtain rfl : b = a := by simpa using hb
                              exact hf, fun _ => ⟨go, 0, rfl, fun j b hb => ?_⟩⟩
  rcases j with _ | j
  · obtain rfl : a = b := by simpa using hb
    simpa using h.whole
  · simp at hb
theorem names_facts : ∃ D : TxD, (∀ gl gi gk go, (baseV gl gi gk go).d = D) ∧ (parseT (D.bytes ++ [0])).2 = 62 ∧ D.bytes.length = 63 := ⟨baseD, baseV_d, parse_more, baseD_len⟩
attribute [local go_sem ↓] loadIn_fold loadRef_fold loadTx_fold mkTx_fold
attribute [local go_sem] mkTx_zero
set_option maxHeartbeats 8000000 in
set_option maxRecDepth 100000 in
theorem txNames_any (w : World) : Calls Try.prog 8 #[] w fun e w' => e = .returned (.bool true) ∧ Below w.heap.size w w' := by
  have hI := isTx
  obtain ⟨D, fd, fp, fl⟩ := names_facts
  have FD := hide fd
  have FP := hide fp
  have FL := hide fl
  clear fd fp fl
  go_enter Try.func8, Try.ntmps8
  go_wp2_with fail
  refine (base_any w).mono ?_
  rintro e w1 ⟨gl, gi, gk, go, rfl, h1⟩
  have H1 := hide h1
  have T0 := hide (Blk.new w1 65 zeroV.cells)
  clear h1
  go_wp2_with (first
    | (refine wpList_alloc_agg rfl 65 rfl zeroV.cells zeroTx_info ?_; simp only [Act.put, List.setIfInBounds_toArray, List.set_cons_zero, List.set_cons_succ])
    | (refine wpList_store_blk rfl 65 _ _ rfl w1.heap.size 0 65 zeroV.cells (baseV gl gi gk go).cells (by rfl) (by rfl) T0.out (Nat.le_refl _) (by exact hI) (TxV.one _) ?_; intro w2 o2 z2 b2; rw [lay_all zeroV.cells _ (by rfl)] at b2; have hb2 : Below w1.heap.size w1 w2 := Below.trans ((Below.refl _ w1).alloc (Nat.le_refl _) _) (o2.below (by simp) (fun i hi e => by have h9 : i = w1.heap.size := e; omega)); have H2 := hide (H1.out.under hb2); have T2 := hide b2; have c1 : w2.cell? ⟨w1.heap.size, 1, none⟩ = some (.slice (some ⟨gi, 0, none⟩) 1 1) := b2.c1; have cg : (w2.alloc (.cells #[.int .u8 1] 5)).cell? ⟨gi, 33, none⟩ = some (.slice (some ⟨gl, 0, none⟩) 2 2) := ((H2.out.i.alloc _).cell 33).trans rfl; have fg := (H2.out.i.alloc (.cells #[.int .u8 1] 5)).frozen 33; clear o2 z2 b2 hb2; simp only [Act.put]))
  obtain ⟨w3, hw3⟩ : ∃ w3, w3 = (w2.alloc (.cells #[.int .u8 1] 5)).setCell ⟨gi, 33, none⟩ (.slice (some ⟨w2.heap.size, 0, none⟩) 1 1) := ⟨_, rfl⟩
  have hs2 : go < w2.heap.size := H2.out.o.lt
  have p1 := H2.out.s1
  have p2 := H2.out.s2
  have p3 := H2.out.s3
  have p4 := H2.out.s4
  have hvar : go < w1.heap.size := H1.out.o.lt
  have hc3 := Only.cell1 (w2.alloc (.cells #[.int .u8 1] 5)) gi 33 (.slice (some ⟨w2.heap.size, 0, none⟩) 1 1)
  rw [← hw3] at hc3
  have B3 := hide (show Below w.heap.size w w3 from (below_alloc H2.out.below _).trans (hc3.below (below_alloc H2.out.below _).size (fun i hi e => by have h9 : i = gi := e; omega)))
  have L3 : Blk w3 w2.heap.size 5 (bcs [1]) := hc3.blk (blk_at w2 5 (bcs [1]) w2.heap.size rfl) (by omega)
  have K3 : Blk w3 gk 5 (bcs [81]) := hc3.blk (H2.out.k.alloc _) (by omega)
  have O3 : Blk w3 go 24 (baseO gk).cells := hc3.blk (H2.out.o.alloc _) (by omega)
  have I3 : Blk w3 gi 68 (⟨nullR, some ⟨w2.heap.size, 0, none⟩, 1, 1, [1], 0⟩ : InV).cells := by
    rw [hw3]; exact (H2.out.i.alloc (.cells #[.int .u8 1] 5)).set_ 33 _
  have V3 := hide (show Blk w3 w1.heap.size 65 (namT w2.heap.size gi gk go).cells from hc3.blk (T2.out.alloc _) (by omega))
  have byt1 : Byt [1] := by intro x hx; simp at hx; omega
  have N3 := hide (show (namT w2.heap.size gi gk go).Fine w3 from ⟨(by decide : (0 : Int) ≤ 1 ∧ (1 : Int) ≤ 4294967295), (by decide : (0 : Int) ≤ 0 ∧ (0 : Int) ≤ 4294967295),
    tx_row (gl := 0) I3 ⟨nullR_fine, Bys.of_blk L3 byt1, Nat.le_refl _, (by decide : (0 : Int) ≤ 0 ∧ (0 : Int) ≤ 4294967295)⟩ rfl, tx_out O3 ⟨(by decide : (-9223372036854775808 : Int) ≤ 5 ∧ (5 : Int) ≤ 9223372036854775807), Bys.of_blk K3 byt81, Nat.le_refl _⟩, Nat.le_refl _, Nat.le_refl _⟩)
  have hsv := hide (show w1.heap.size < w3.heap.size from V3.out.lt)
  rw [← hw3]
  clear hw3 hc3 L3 K3 O3 I3 hs2 p1 p2 p3 p4 hvar c1 cg fg byt1 T2 H2 H1 T0
  refine (base_any w3).mono ?_
  rintro e w4 ⟨l4, i4, k4, o4, rfl, h4⟩
  have H4 := hide h4
  have T4 := hide (Blk.new w4 65 zeroV.cells)
  clear h4
  go_wp2_with (first
    | (refine wpList_alloc_agg rfl 65 rfl zeroV.cells zeroTx_info ?_; simp only [Act.put, List.setIfInBounds_toArray, List.set_cons_zero, List.set_cons_succ])
    | (refine wpList_store_blk rfl 65 _ _ rfl w4.heap.size 0 65 zeroV.cells (baseV l4 i4 k4 o4).cells (by rfl) (by rfl) T4.out (Nat.le_refl _) (by exact hI) (TxV.one _) ?_; intro w5 o5 z5 b5; rw [lay_all zeroV.cells _ (by rfl)] at b5; have hb5 : Below w4.heap.size w4 w5 := Below.trans ((Below.refl _ w4).alloc (Nat.le_refl _) _) (o5.below (by simp) (fun i hi e => by have h9 : i = w4.heap.size := e; omega)); have H5 := hide (H4.out.under hb5); have T5 := hide b5; have c2 : w5.cell? ⟨w4.heap.size, 2, none⟩ = some (.slice (some ⟨o4, 0, none⟩) 1 1) := b5.c2; have f2 := b5.frozen 2; have hsz5 := hide hb5.size; clear o5 z5 b5 hb5; simp only [Act.put]))
  obtain ⟨w6, hw6⟩ : ∃ w6, w6 = w5.setCell ⟨w4.heap.size, 2, none⟩ (.slice none 0 0) := ⟨_, rfl⟩
  have hc6 := Only.cell1 w5 w4.heap.size 2 (.slice none 0 0)
  rw [← hw6] at hc6
  have hz4 := hide (show w3.heap.size ≤ w4.heap.size from H4.out.below.size)
  have B36 := hide (show Below w3.heap.size w3 w6 from H5.out.below.trans (hc6.below H5.out.below.size (fun i hi e => by have h9 : i = w4.heap.size := e; have := hz4.out; omega)))
  have hl4 : o4 < w4.heap.size := H4.out.o.lt
  have p2 := H5.out.s2
  have p3 := H5.out.s3
  have p4 := H5.out.s4
  have U6 := hide (show Blk w6 w4.heap.size 65 (namU l4 i4).cells by rw [hw6]; exact T5.out.set_ 2 _)
  have M6 := hide (show (namU l4 i4).Fine w6 from ⟨(by decide : (0 : Int) ≤ 1 ∧ (1 : Int) ≤ 4294967295), (by decide : (0 : Int) ≤ 0 ∧ (0 : Int) ≤ 4294967295),
    tx_row (gl := 0) (hc6.blk H5.out.i (by omega)) ⟨nullR_fine, Bys.of_blk (hc6.blk H5.out.l (by omega)) byt12, Nat.le_refl _, (by decide : (0 : Int) ≤ 0 ∧ (0 : Int) ≤ 4294967295)⟩ rfl, RowsIn.nil _ _ _ _ _, Nat.le_refl _, Nat.le_refl _⟩)
  have B6 := hide (Below.then_ B3.out B36.out)
  have hs6 := hide (show w4.heap.size < w6.heap.size from U6.out.lt)
  rw [← hw6]
  clear hw6 hc6 hl4 p2 p3 p4 c2 f2 T5 H5 H4 T4
  refine (base_any w6).mono ?_
  rintro e w7 ⟨l7, i7, k7, o7, rfl, h7⟩
  have H7 := hide h7
  have T7 := hide (Blk.new w7 65 zeroV.cells)
  clear h7
  go_wp2_with (first
    | (refine wpList_alloc_agg rfl 65 rfl zeroV.cells zeroTx_info ?_; simp only [Act.put, List.setIfInBounds_toArray, List.set_cons_zero, List.set_cons_succ])
    | (refine wpList_store_blk rfl 65 _ _ rfl w7.heap.size 0 65 zeroV.cells (baseV l7 i7 k7 o7).cells (by rfl) (by rfl) T7.out (Nat.le_refl _) (by exact hI) (TxV.one _) ?_; intro w8 o8 z8 b8; rw [lay_all zeroV.cells _ (by rfl)] at b8; have hb8 : Below w7.heap.size w7 w8 := Below.trans ((Below.refl _ w7).alloc (Nat.le_refl _) _) (o8.below (by simp) (fun i hi e => by have h9 : i = w7.heap.size := e; omega)); have H8 := hide (H7.out.under hb8); have T8 := hide b8; have c2 : w8.cell? ⟨w7.heap.size, 2, none⟩ = some (.slice (some ⟨o7, 0, none⟩) 1 1) := b8.c2; have cg : w8.cell? ⟨o7, 0, none⟩ = some (.int .i64 5) := H8.out.o.c0; have fg := H8.out.o.frozen 0; clear o8 z8 b8 hb8; simp only [Act.put]))
  obtain ⟨w9, hw9⟩ : ∃ w9, w9 = w8.setCell ⟨o7, 0, none⟩ (.int .i64 (-1)) := ⟨_, rfl⟩
  have hc9 := Only.cell1 w8 o7 0 (.int .i64 (-1))
  rw [← hw9] at hc9
  have hl7 : o7 < w7.heap.size := H7.out.o.lt
  have p1 := H8.out.s1
  have p2 := H8.out.s2
  have p3 := H8.out.s3
  have p4 := H8.out.s4
  have B69 := hide (show Below w6.heap.size w6 w9 from H8.out.below.trans (hc9.below H8.out.below.size (fun i hi e => by have h9 : i = o7 := e; omega)))
  have X9 := hide (show Blk w9 w7.heap.size 65 (namW l7 i7 k7 o7).cells from hc9.blk T8.out (by omega))
  have Y9 := hide (show (namW l7 i7 k7 o7).Fine w9 from ⟨(by decide : (0 : Int) ≤ 1 ∧ (1 : Int) ≤ 4294967295), (by decide : (0 : Int) ≤ 0 ∧ (0 : Int) ≤ 4294967295),
    tx_row (gl := 0) (hc9.blk H8.out.i (by omega)) ⟨nullR_fine, Bys.of_blk (hc9.blk H8.out.l (by omega)) byt12, Nat.le_refl _, (by decide : (0 : Int) ≤ 0 ∧ (0 : Int) ≤ 4294967295)⟩ rfl,
    tx_out (a := ⟨-1, some ⟨k7, 0, none⟩, 1, 1, [81]⟩) (by rw [hw9]; exact H8.out.o.set_ 0 _) ⟨(by decide : (-9223372036854775808 : Int) ≤ -1 ∧ (-1 : Int) ≤ 9223372036854775807), Bys.of_blk (hc9.blk H8.out.k (by omega)) byt81, Nat.le_refl _⟩, Nat.le_refl _, Nat.le_refl _⟩)
  have B39 := hide (Below.then_ B36.out B69.out)
  have B9 := hide (Below.then_ B3.out B39.out)
  rw [← hw9]
  clear hw9 hc9 hl7 p1 p2 p3 p4 c2 cg fg T8 H8 H7 T7
  refine (TParse_any w9 none 0 0 [] (Bys.nil _ _) (by decide)).mono ?_
  rintro e w10 ⟨P1, rfl, _, _, _, hb10⟩
  rw [parse_nil]
  have HB10 := hide hb10
  have T10 := hide (Blk.new w10 65 zeroV.cells)
  clear hb10
  go_wp2_with (first
    | (refine wpList_alloc_agg rfl 65 rfl zeroV.cells zeroTx_info ?_; simp only [Act.put, List.setIfInBounds_toArray, List.set_cons_zero, List.set_cons_succ])
    | (refine wpList_store_blk rfl 65 _ _ rfl w10.heap.size 0 65 zeroV.cells P1.cells (by rfl) (by rfl) T10.out (Nat.le_refl _) (by exact hI) (TxV.one _) ?_; intro w11 o11 z11 b11; have hb11 : Below w10.heap.size w10 w11 := Below.trans ((Below.refl _ w10).alloc (Nat.le_refl _) _) (o11.below (by simp) (fun i hi e => by have h9 : i = w10.heap.size := e; omega)); have HB11 := hide hb11; clear o11 z11 b11 hb11; simp only [Act.put]))
  refine (base_any w11).mono ?_
  rintro e w12 ⟨l12, i12, k12, o12, rfl, h12⟩
  have H12 := hide h12
  clear h12
  go_wp2_with fail
  refine (TBytes_any w12 (baseV l12 i12 k12 o12) H12.out.fine (baseV_small _ _ _ _)).mono ?_
  rintro e w13 ⟨A13, n13, c13, rfl, t13, f13⟩
  rw [FD.out] at t13
  have hn13 := hide (show n13 = 63 by rw [← t13.len]; exact FL.out)
  have T13 := hide t13
  have HZ := hide (Bys.one w13 5 0 (by decide) (by decide))
  have HB13 := hide (show Below w11.heap.size w11 w13 from Below.then_ H12.out.below t13.below)
  clear t13 f13
  go_wp2_with (at_builtin; refine wpList_app rfl _ _ rfl w12 A13 n13 c13 D.bytes (by rfl) (T13.out.alloc _) (some ⟨w13.heap.size, 0, none⟩) 1 1 [0] (by rfl) HZ.out (by have := hn13.out; omega) ?_; intro A14 n14 c14 w14 t14 f14; simp only [Act.put, List.setIfInBounds_toArray, List.set_cons_zero, List.set_cons_succ])
  have hn14 := hide (show n14 = 64 by rw [← t14.len, List.length_append, FL.out]; rfl)
  have HB14 := hide (show Below w11.heap.size w11 w14 from Below.then_ H12.out.below t14.below)
  refine (TParse_any w14 A14 n14 c14 (D.bytes ++ [0]) t14.bys (by have := hn14.out; omega)).mono ?_
  rintro e w15 ⟨P2, rfl, _, _, _, hb15⟩
  rw [FP.out]
  have HB15 := hide hb15
  have T15 := hide (Blk.new w15 65 zeroV.cells)
  clear hb15 t14 f14
  go_wp2_with (first
    | (refine wpList_alloc_agg rfl 65 rfl zeroV.cells zeroTx_info ?_; simp only [Act.put, List.setIfInBounds_toArray, List.set_cons_zero, List.set_cons_succ])
    | (refine wpList_store_blk rfl 65 _ _ rfl w15.heap.size 0 65 zeroV.cells P2.cells (by rfl) (by rfl) T15.out (Nat.le_refl _) (by exact hI) (TxV.one _) ?_; intro w16 o16 z16 b16; have hb16 : Below w15.heap.size w15 w16 := Below.trans ((Below.refl _ w15).alloc (Nat.le_refl _) _) (o16.below (by simp) (fun i hi e => by have h9 : i = w15.heap.size := e; omega)); have HB16 := hide hb16; clear o16 z16 b16 hb16; simp only [Act.put]))
  have B916 := Below.then_ (Below.then_ (Below.then_ (Below.then_ HB10.out HB11.out) HB14.out) HB15.out) HB16.out
  have C9 := hide B916
  clear B916 T13 HZ T10 T15 HB10 HB11 HB13 HB14 HB15 HB16 H12
  refine (txAlive_any w16).mono ?_
  rintro e w17 ⟨rfl, hb17⟩
  have C17 := hide (Below.then_ C9.out hb17)
  have D17 := hide (Below.then_ B39.out C17.out)
  have E17 := hide (Below.then_ B69.out C17.out)
  have l1 := loadTx_run w17 w1.heap.size 0 (namT w2.heap.size gi gk go) (V3.out.under D17.out).whole
  clear hb17 C9
  go_wp2_with fail
  refine (TCheck_any w17 (namT w2.heap.size gi gk go) (N3.out.below D17.out) ⟨by simp [namT], by simp [namT], by simp [namT], by simp [namT, baseO]⟩).mono ?_
  rintro e w18 ⟨rfl, hb18⟩
  rw [namT_check]
  have C18 := hide (Below.then_ C17.out hb18)
  have E18 := hide (Below.then_ E17.out hb18)
  have l2 := loadTx_run w18 w4.heap.size 0 (namU l4 i4) (U6.out.under E18.out).whole
  clear hb18 l1
  go_wp2_with fail
  refine (TCheck_any w18 (namU l4 i4) (M6.out.below E18.out) ⟨by simp [namU], by simp [namU], by simp [namU, baseI], by simp [namU]⟩).mono ?_
  rintro e w19 ⟨rfl, hb19⟩
  rw [namU_check]
  have C19 := hide (Below.then_ C18.out hb19)
  have l3 := loadTx_run w19 w7.heap.size 0 (namW l7 i7 k7 o7) (X9.out.under C19.out).whole
  clear hb19 l2
  go_wp2_with fail
  refine (TCheck_any w19 (namW l7 i7 k7 o7) (Y9.out.below C19.out) ⟨by simp [namW], by simp [namW], by simp [namW, baseI], by simp [namW]⟩).mono ?_
  rintro e w20 ⟨rfl, hb20⟩
  rw [namW_check]
  have C20 := hide (Below.then_ C19.out hb20)
  clear hb20 l3
  go_wp2_with fail
  refine (TCheck_any w20 zeroV (zeroV_fine _) zeroV_small).mono ?_
  rintro e w21 ⟨rfl, hb21⟩
  rw [zero_check]
  have C21 := hide (Below.then_ C20.out hb21)
  clear hb21
  go_wp2_with fail
  refine (TBase_any w21 zeroV (zeroV_fine _) zeroV_small).mono ?_
  rintro e w22 ⟨rfl, hb22⟩
  rw [zero_base]
  have C22 := hide (Below.then_ C21.out hb22)
  clear hb22
  go_wp2_with fail
  go_ret
  exact ⟨rfl, Below.then_ B9.out C22.out⟩
end Go.Proofs.Ytfloclamdpageaa
