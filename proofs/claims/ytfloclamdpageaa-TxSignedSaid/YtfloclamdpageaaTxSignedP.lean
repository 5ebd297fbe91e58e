import Derived.Test.YtfloclamdpageaaPk15
/-
  TxSigned: the law's walk.
-/
namespace Go.Proofs.Ytfloclamdpageaa
open Go.RowKit

theorem hash_store {w : World} {ops : Array Oper} {rest : List Oper} {op : Oper} {a : Act} {Q : Exit → Act → World → Prop} (hgd : op.guard = none) (x y : Operand) (ho : op.op = .store 44 x y) (w0 : World) (hw : w = w0.alloc (.cells (bcs zero32).toArray 44))
    (hx : a.eval x = .pointer (some ⟨w0.heap.size, 0, none⟩)) (H : List Int) (hH : H.length = 32) (hy : a.eval y = .agg (bcs H).toArray)
    (h : ∀ w', Below w0.heap.size w0 w' → w0.heap.size < w'.heap.size → Blk w' w0.heap.size 44 (bcs H) → wpList Try.prog ops Q rest (a.put op.dst undef) w') : wpList Try.prog ops Q (op :: rest) a w := by
  subst hw
  have hI : (Try.prog.info? 44).map (·.size) = some 32 := isHash
  have lz32 : (bcs zero32).length = 32 := rfl
  have lh : (bcs H).length = 32 := by rw [bcs_length, hH]
  refine wpList_store_blk hgd 44 x y ho w0.heap.size 0 44 (bcs zero32) (bcs H) hx hy (Blk.new w0 _ _) (by rw [lz32, lh]; decide) (by rw [hI, lh]) (bcs_one _) ?_
  intro w' o z b
  rw [lay_all _ _ (by rw [lz32, lh])] at b
  have hb : Below w0.heap.size w0 (w0.alloc (.cells (bcs zero32).toArray 44)) := below_alloc (Below.refl _ _) _
  exact h w' (hb.trans (o.below hb.size (fun i hi e => by have h9 : i = w0.heap.size := e; omega))) b.lt b
theorem tx_store {w : World} {ops : Array Oper} {rest : List Oper} {op : Oper} {a : Act} {Q : Exit → Act → World → Prop} (hgd : op.guard = none) (x y : Operand) (ho : op.op = .store 65 x y) (w0 : World) (hw : w = w0.alloc (.cells zeroV.cells.toArray 65))
    (hx : a.eval x = .pointer (some ⟨w0.heap.size, 0, none⟩)) (V : TxV) (hy : a.eval y = .agg V.cells.toArray)
    (h : ∀ w', Below w0.heap.size w0 w' → w0.heap.size < w'.heap.size → Blk w' w0.heap.size 65 V.cells → wpList Try.prog ops Q rest (a.put op.dst undef) w') : wpList Try.prog ops Q (op :: rest) a w := by
  subst hw
  have hI := isTx
  refine wpList_store_blk hgd 65 x y ho w0.heap.size 0 65 zeroV.cells V.cells hx hy (Blk.new w0 _ _) (Nat.le_refl _) (by exact hI) (TxV.one V) ?_
  intro w' o z b
  rw [lay_all _ _ (by rfl)] at b
  have hb : Below w0.heap.size w0 (w0.alloc (.cells zeroV.cells.toArray 65)) := below_alloc (Below.refl _ _) _
  exact h w' (hb.trans (o.below hb.size (fun i hi e => by have h9 : i = w0.heap.size := e; omega))) b.lt b
theorem MineR.capN {e : TypeId} {k : Nat} {w0 w : World} {A : Option Addr} {n c : Nat} {cs : List Value} (h : MineR e k w0 w (.slice A n c) n cs) (hn : 0 < n) : n ≤ c := by
  rcases h.2.2 with ⟨e1, h0⟩ | ⟨g9, cap, cur, e1, _, _, hnc, _⟩
  · omega
  · injection e1 with _ _ e3; omega
attribute [local go_sem ↓] mkTx_fold loadTx_fold loadHash_fold eqlHash_fold neqHash_fold
attribute [local go_sem] mkTx_zero guardHash
set_option maxHeartbeats 16000000 in
set_option maxRecDepth 100000 in
theorem txsigned_any (w : World) (t : TxV) (i : Int) (A0 : Option Addr) (n0 c0 : Nat) (A1 : Option Addr) (n1 c1 : Nat) (bs0 bs1 : List Int) (hf : t.Fine w) (hB0 : Bys w A0 n0 bs0) (hc0 : n0 ≤ c0) (hB1 : Bys w A1 n1 bs1) (hc1 : n1 ≤ c1) (hi0 : -9223372036854775808 ≤ i) (hi1 : i ≤ 9223372036854775807) :
    Calls Try.prog 13 #[.agg t.cells.toArray, .int .i64 i, .agg #[.slice A0 n0 c0, .slice A1 n1 c1]] w fun e w' => e = .returned (.bool true) ∧ Below w.heap.size w w' := by
  have T0 := (Blk.new w 65 t.cells).alloc (.cells #[.slice A0 n0 c0, .slice A1 n1 c1] 85)
  have L0 := Blk.new1 w (.cells t.cells.toArray 65) 85 [.slice A0 n0 c0, .slice A1 n1 c1]
  have hw : Below w.heap.size w ((w.alloc (.cells t.cells.toArray 65)).alloc (.cells #[.slice A0 n0 c0, .slice A1 n1 c1] 85)) := below_alloc (below_alloc (Below.refl _ _) _) _
  have HF := hide (hf.below hw)
  have HB := hide (hB0.below hw)
  have HO := hide (hB1.below hw)
  have HC := hide hc0
  have HD := hide hc1
  have HW := hide hw
  have HT := hide T0
  have HL := hide L0
  clear hf hB0 hB1 hc0 hc1 hw T0 L0
  go_enter Try.func13, Try.ntmps13
  go_wp2_with fail
  obtain ⟨p0, hp0⟩ : ∃ p, p = w.heap.size := ⟨_, rfl⟩
  obtain ⟨p1, hp1⟩ : ∃ p, p = w.heap.size + 1 := ⟨_, rfl⟩
  obtain ⟨w1, hw1⟩ : ∃ x, x = (w.alloc (.cells t.cells.toArray 65)).alloc (.cells #[.slice A0 n0 c0, .slice A1 n1 c1] 85) := ⟨_, rfl⟩
  rw [← hw1] at HF HB HO HW HT HL ⊢
  rw [← hp1] at HL ⊢
  rw [← hp0] at HT ⊢
  clear hw1 hp0 hp1
  refine (txAlive_any _).mono ?_
  rintro e w2 ⟨rfl, b2⟩
  have HB2 := hide b2
  have L2 := hide (HL.out.under b2)
  clear b2
  go_wp2_with fail
  refine wp_region_held_drew (S := fun w' => Below w2.heap.size w2 w') (by kernel_rfl) (by exact (Below.refl _ _).drew) (fun hSA0 => ?_)
  obtain ⟨w2d, hwA⟩ : ∃ x, x = w2.drew := ⟨_, rfl⟩
  rw [← hwA] at hSA0 ⊢
  clear hwA
  (refine wpAnyH_take (i := 0) (oi := { dst := Option.some 17, op := Go.Op.indexAddr 85 (Go.Operand.tmp 5) (Go.Operand.const (Go.Value.int Go.IntKind.i64 0)), type := 0, pos := "law.go:105", after := #[], guard := Option.none }) (v := ?_) rfl (by kernel_rfl) (by kernel_rfl) (by kernel_rfl) (fun _ _ _ h => h) (Or.inl ⟨by rfl, fun w' hSw => ?_⟩) hSA0 ?_; rotate_left; focus (go_simp; try with_reducible rfl))
  simp only [Act.put, List.setIfInBounds_toArray, List.set_cons_zero, List.set_cons_succ]
  (refine wpAnyH_take (i := 1) (oi := { dst := Option.some 18, op := Go.Op.load 22 (Go.Operand.tmp 17), type := 22, pos := "law.go:105", after := #[{ on := 0, ground := Go.Ground.data }], guard := Option.none }) (v := ?_) rfl (by kernel_rfl) (by kernel_rfl) (by kernel_rfl) (fun _ _ _ h => h) (Or.inl ⟨by rfl, fun w' hSw => ?_⟩) hSA0 ?_; rotate_left; focus (have l1 := (L2.out.under hSw).c0; go_simp; try with_reducible rfl))
  simp only [Act.put, List.setIfInBounds_toArray, List.set_cons_zero, List.set_cons_succ]
  (refine wpAnyH_take (i := 2) (oi := { dst := Option.some 19, op := Go.Op.indexAddr 85 (Go.Operand.tmp 5) (Go.Operand.const (Go.Value.int Go.IntKind.i64 1)), type := 0, pos := "law.go:105", after := #[{ on := 4, ground := Go.Ground.gcOnly Go.Departure.lateStores }], guard := Option.none }) (v := ?_) rfl (by kernel_rfl) (by kernel_rfl) (by kernel_rfl) (fun _ _ _ h => h) (Or.inl ⟨by rfl, fun w' hSw => ?_⟩) hSA0 ?_; rotate_left; focus (go_simp; try with_reducible rfl))
  simp only [Act.put, List.setIfInBounds_toArray, List.set_cons_zero, List.set_cons_succ]
  (refine wpAnyH_take (i := 3) (oi := { dst := Option.some 20, op := Go.Op.load 22 (Go.Operand.tmp 19), type := 22, pos := "law.go:105", after := #[{ on := 2, ground := Go.Ground.data }, { on := 4, ground := Go.Ground.gcOnly Go.Departure.lateStores }], guard := Option.none }) (v := ?_) rfl (by kernel_rfl) (by kernel_rfl) (by kernel_rfl) (fun _ _ _ h => h) (Or.inl ⟨by rfl, fun w' hSw => ?_⟩) hSA0 ?_; rotate_left; focus (have l1 := (L2.out.under hSw).c1; go_simp; try with_reducible rfl))
  simp only [Act.put, List.setIfInBounds_toArray, List.set_cons_zero, List.set_cons_succ]
  (refine wpAnyH_take (i := 4) (oi := { dst := Option.some 7, op := Go.Op.assign (Go.Operand.tmp 18), type := 22, pos := "law.go:105", after := #[{ on := 1, ground := Go.Ground.data }, { on := 0, ground := Go.Ground.phase }, { on := 1, ground := Go.Ground.phase }, { on := 2, ground := Go.Ground.textOnly Go.Departure.lateStores }, { on := 3, ground := Go.Ground.textOnly Go.Departure.lateStores }], guard := Option.none }) (v := ?_) rfl (by kernel_rfl) (by kernel_rfl) (by kernel_rfl) (fun _ _ _ h => h) (Or.inl ⟨by rfl, fun w' hSw => ?_⟩) hSA0 ?_; rotate_left; focus (go_simp; try with_reducible rfl))
  simp only [Act.put, List.setIfInBounds_toArray, List.set_cons_zero, List.set_cons_succ]
  (refine wpAnyH_take (i := 5) (oi := { dst := Option.some 8, op := Go.Op.assign (Go.Operand.tmp 20), type := 22, pos := "law.go:105", after := #[{ on := 3, ground := Go.Ground.data }, { on := 4, ground := Go.Ground.chain }, { on := 0, ground := Go.Ground.phase }, { on := 1, ground := Go.Ground.phase }, { on := 2, ground := Go.Ground.phase }, { on := 3, ground := Go.Ground.phase }, { on := 4, ground := Go.Ground.phase }], guard := Option.none }) (v := ?_) rfl (by kernel_rfl) (by kernel_rfl) (by kernel_rfl) (fun _ _ _ h => h) (Or.inl ⟨by rfl, fun w' hSw => ?_⟩) hSA0 ?_; rotate_left; focus (go_simp; try with_reducible rfl))
  simp only [Act.put, List.setIfInBounds_toArray, List.set_cons_zero, List.set_cons_succ]
  refine wpAnyH_done (by kernel_rfl) ?_ _
  have HB2 := hide (Below.then_ HB2.out hSA0)
  clear L2 hSA0
  have l0 := loadTx_run w2d p0 0 t (range_under HT.out.whole HB2.out)
  go_wp2_with fail
  refine (great_any w2d t (HF.out.below HB2.out)).mono ?_
  rintro e w3 ⟨g1, rfl, hg1, b3⟩
  have HB3 := hide (Below.then_ HB2.out b3)
  have y1 := (HT.out.under HB3.out).c1
  have y2 := (HT.out.under HB3.out).c2
  clear b3 l0
  have l0 := loadTx_run w3 p0 0 t (range_under HT.out.whole HB3.out)
  cases g1 with
  | true =>
    go_wp2_with fail
    go_ret
    exact ⟨rfl, Below.then_ HW.out HB3.out⟩
  | false =>
    have FA := hide (hg1 rfl)
    clear hg1
    by_cases hn0 : 500 < n0
    · have cn0 : (500 : Int) < (n0 : Int) := by first | omega | simp [hn0]
      go_wp2_with fail
      go_ret
      exact ⟨rfl, Below.then_ HW.out HB3.out⟩
    · have cn0 : ¬ (500 : Int) < (n0 : Int) := by first | omega | (simp; omega)
      by_cases hn1 : 500 < n1
      · have cn1 : (500 : Int) < (n1 : Int) := by first | omega | simp [hn1]
        go_wp2_with fail
        go_ret
        exact ⟨rfl, Below.then_ HW.out HB3.out⟩
      · have cn1 : ¬ (500 : Int) < (n1 : Int) := by first | omega | (simp; omega)
        by_cases hi0_ : i < 0
        · have ci0 : i < 0 := by first | omega | simp [hi0_]
          go_wp2_with fail
          go_ret
          exact ⟨rfl, Below.then_ HW.out HB3.out⟩
        · have ci0 : ¬ i < 0 := by first | omega | (simp; omega)
          by_cases hi1_ : (t.iN : Int) ≤ i
          · have ci1 : (t.iN : Int) ≤ i := by first | omega | simp [hi1_]
            go_wp2_with fail
            go_ret
            exact ⟨rfl, Below.then_ HW.out HB3.out⟩
          · have ci1 : ¬ (t.iN : Int) ≤ i := by first | omega | (simp; omega)
            by_cases ho : t.oN = 0
            · have co : ((t.oN : Int) == 0) = true := by first | omega | simp [ho]
              go_wp2_with fail
              go_ret
              exact ⟨rfl, Below.then_ HW.out HB3.out⟩
            · have co : ((t.oN : Int) == 0) = false := by first | omega | (simp; omega)
              have HN := hide (show n0 ≤ 500 ∧ n1 ≤ 500 ∧ 0 < t.iN ∧ 0 < t.oN ∧ i.toNat < t.iN ∧ 0 ≤ i from ⟨by omega, by omega, by omega, by omega, by omega, by omega⟩)
              clear hn0 hn1 hi0_ hi1_ ho
              go_wp2_with fail
              clear cn0 cn1 ci0 ci1 co
              refine (THash_any w3 t i A0 n0 c0 bs0 (HF.out.below HB3.out) FA.out.small (HB.out.below HB3.out) HC.out (by have := HN.out.1; omega) hi0 hi1).mono ?_
              rintro e w4 ⟨rfl, b4⟩
              obtain ⟨H, hH⟩ : ∃ H, H = hashT t.d i bs0 := ⟨_, rfl⟩
              have hHl : H.length = 32 := by rw [hH]; exact hashT_len _ _ _
              rw [← hH]
              have HHH := hide hH
              have HHL := hide hHl
              have HB4 := hide (Below.then_ HB3.out b4)
              clear hH hHl b4 y1 y2 l0
              obtain ⟨p9, hp9⟩ : ∃ p, p = w4.heap.size := ⟨_, rfl⟩
              have HP9 := hide hp9
              clear hp9
              have l5 := fun (w5 : World) (h : Below w4.heap.size w4 w5) => loadTx_run w5 p0 0 t (range_under HT.out.whole (Below.then_ HB4.out h))
              have HL5 := hide l5
              clear l5
              obtain ⟨ib, io, hiA, hir⟩ := HF.out.ins.2.2 (by have := HN.out.2.2.1; omega)
              have HIR := hide (flat_range t.ins io (fun a ha => InV.cells_len (HF.out.ins.2.1 a ha).ref) hir)
              have HIL := hide (show (t.ins.flatMap InV.cells).length = t.iN * 35 by rw [flat_len t.ins (fun a ha => InV.cells_len (HF.out.ins.2.1 a ha).ref), HF.out.ins.1])
              have HIO := hide (flat_one' t.ins (fun a _ => InV.one a))
              obtain ⟨ob, oo, hoA, hor⟩ := HF.out.outs.2.2 (by have := HN.out.2.2.2.1; omega)
              have HOR := hide (flat_range (k := 2) t.outs oo (fun a _ => rfl) hor)
              have HOL := hide (show (t.outs.flatMap OutV.cells).length = t.oN * 2 by rw [flat_len t.outs (k := 2) (fun a _ => rfl), HF.out.outs.1])
              have HOO := hide (flat_one' t.outs (fun a _ => OutV.one a))
              have HIA := hide hiA
              have HOA := hide hoA
              have HS1 := hide (show t.iN ≤ 1000 ∧ t.oN ≤ 1000 from ⟨FA.out.small.ins, FA.out.small.outs⟩)
              clear hiA hir hoA hor
              go_wp2_with (first
                | (refine wpList_alloc_agg rfl 44 rfl (bcs zero32) zero32_info ?_; simp only [Act.put, List.setIfInBounds_toArray, List.set_cons_zero, List.set_cons_succ])
                | (refine hash_store rfl _ _ rfl w4 rfl (by rfl) H HHL.out (by rfl) ?_; intro w5 b5 s5 k5; rw [← HP9.out] at s5 k5 ⊢; have l5 := HL5.out w5 b5; have B5 := hide b5; have S5 := hide s5; have K5 := hide k5; clear b5 s5 k5; simp only [Act.put])
                | (refine wpList_alloc_agg rfl 65 rfl zeroV.cells zeroTx_info ?_; simp only [Act.put, List.setIfInBounds_toArray, List.set_cons_zero, List.set_cons_succ])
                | (refine tx_store rfl _ _ rfl w5 rfl (by rfl) t (by rfl) ?_; intro w6 b6 s6 k6; have HPU := hide (show w5.heap.size = w5.heap.size from rfl); have B6 := hide b6; have S6 := hide s6; have K6 := hide k6; have B46 := hide (Below.then_ B5.out b6); have x1 := ((HT.out.under HB4.out).under (below_alloc B46.out (.cells #[] 68))).c1; rw [HIA.out] at x1; clear b6 s6 k6; simp only [Act.put])
                | (at_builtin; refine wpList_mineR rfl _ _ 63 rfl 68 35 72 Try.underlying63 in_infoR (by decide) w6 _ 0 [] (by rfl) (MineR.empty [] rfl) ib io t.iN t.iC (t.ins.flatMap InV.cells) (by rfl) HIL.out (range_under HIR.out (Below.then_ HB4.out (below_alloc B46.out _))) HIO.out (by have := HS1.out; omega) (by decide) ?_; intro A7 c7 w7 q1 q2 q3; simp only [Nat.zero_add, List.nil_append] at q1 ⊢; have Q7 := hide q1; have K7 := hide (K6.out.under q1.below); have k71 := K7.out.c1; have f71 := K7.out.frozen 1; have k72 : (w7.setCell ⟨w5.heap.size, 1, none⟩ (.slice A7 t.iN c7)).cell? ⟨w5.heap.size, 1, none⟩ = some (.slice A7 t.iN c7) := (K7.out.set_ 1 _).c1; clear q1 q2 q3; simp only [Act.put, List.setIfInBounds_toArray, List.set_cons_zero, List.set_cons_succ]))
              obtain ⟨g, rfl, hg, hrow⟩ := Q7.out.rowB (by have := HN.out.2.2.1; omega)
              obtain ⟨pu, hpu⟩ : ∃ p, p = w5.heap.size := ⟨_, rfl⟩
              rw [← hpu] at K7 k72 ⊢
              have HPU := hide hpu
              obtain ⟨w8, hw8⟩ : ∃ x, x = w7.setCell ⟨pu, 1, none⟩ (.slice (some ⟨g, 0, none⟩) t.iN c7) := ⟨_, rfl⟩
              have hgs := hide (show pu < g by rw [hpu]; have := S6.out; omega)
              have K8 := hide (show Blk w8 pu 65 [.int .u32 t.version, .slice (some ⟨g, 0, none⟩) t.iN c7, .slice t.oA t.oN t.oC, .int .u32 t.until_] by rw [hw8]; exact K7.out.set_ 1 _)
              have R8 := hide (show RowB w8 g 68 (t.ins.flatMap InV.cells) by rw [hw8]; exact hrow.only (Only.setCell (Only.refl (fun i => i = pu) w7) (p := ⟨pu, 1, none⟩) (.inr rfl) _) (fun e => by have h9 : g = pu := e; have := hgs.out; omega))
              have B47 := hide (Below.then_ B46.out Q7.out.below)
              have B58 := hide (show Below w5.heap.size w5 w8 by rw [hw8]; exact (Below.then_ B6.out Q7.out.below).setCell (p := ⟨pu, 1, none⟩) (by rw [hpu]; exact Nat.le_refl _) _)
              have hcap7 := hide (show t.iN ≤ c7 by
                rcases Q7.out.2.2 with ⟨e1, h0⟩ | ⟨g9, cap, cur, e1, _, _, hnc, _⟩
                · have := HN.out.2.2.1; omega
                · injection e1 with _ _ e3; omega)
              rw [← hw8] at k72 ⊢
              clear hw8 hpu k71 f71 x1 l5 hg hrow K7 K6 Q7
              have hn9 : (t.iN : Int) ≤ 1000 := by have := HS1.out.1; omega
              go_loopw [63] (fun v wr => ∃ k : Nat, k ≤ t.iN ∧ v = .int .i64 (k : Int) ∧ RowB wr g 68 ((turnAt (fun a : InV => a.with A1 n1 c1 bs1) t.ins k).flatMap InV.cells) ∧ Only (fun i => i = g) w8 wr) (fun v _ => t.iN - (intOf v).toNat)
              case atStart => exact ⟨0, Nat.zero_le _, rfl, by rw [turnAt_zero]; exact R8.out, Only.refl _ _⟩
              case round =>
                obtain ⟨k, hk, rfl, hR, ho⟩ := hrel
                have Tr := ho.blk K8.out (show ¬ pu = g by have := hgs.out; omega)
                by_cases hlt : k < t.iN
                · obtain ⟨a, ha⟩ : ∃ a, t.ins[k]? = some a := ⟨_, List.getElem?_eq_getElem (by have := HF.out.ins.1; omega)⟩
                  have hfr : ∀ x ∈ turnAt (fun a : InV => a.with A1 n1 c1 bs1) t.ins k, x.ref.Fine := fun x hx => by
                    obtain ⟨b, hb, h1 | h1⟩ := turnAt_mem hx
                    · rw [h1]; exact (HF.out.ins.2.1 b hb).ref
                    · rw [h1]; exact (HF.out.ins.2.1 b hb).ref
                  have hga := turnAt_get (f := fun a : InV => a.with A1 n1 c1 bs1) ha
                  have c0_ := in_cell hR hfr hga
                  have g0 := hR.frozen (k * 35 + 33)
                  have k1 := Tr.c1
                  have r1 := in_row hR hfr hga A1 n1 c1 bs1
                  have hts := turnAt_set (f := fun a : InV => a.with A1 n1 c1 bs1) ha
                  rw [hts] at r1
                  have HR1 := hide r1
                  have HO1 := hide (ho.setCell (p := ⟨g, k * 35 + 33, none⟩) (.inr rfl) (.slice A1 n1 c1))
                  have hlt' : (k : Int) < (t.iN : Int) := by omega
                  clear r1 hR ho hfr hga hts Tr
                  go_wp2_with fail
                  exact ⟨⟨k + 1, by omega, by simp, HR1.out, HO1.out⟩, by simp [intOf]; omega⟩
                · obtain rfl : k = t.iN := by omega
                  have hlt' : ¬ (t.iN : Int) < (t.iN : Int) := by omega
                  obtain ⟨U, hU⟩ : ∃ U : TxV, U = ⟨t.version, some ⟨g, 0, none⟩, t.iN, c7, t.ins.map (fun a => a.with A1 n1 c1 bs1), t.oA, t.oN, t.oC, t.outs, t.until_⟩ := ⟨_, rfl⟩
                  have HBr := hide (show Below w1.heap.size w1 wr from (Below.then_ HB4.out (Below.then_ B5.out B58.out)).trans (ho.below (Below.then_ HB4.out (Below.then_ B5.out B58.out)).size (fun i hi e => by have h9 : i = g := e; have h1 := HB4.out.size; have h2 := B5.out.size; have h3 := HPU.out; have := hgs.out; omega)))
                  have B5r := hide (show Below w5.heap.size w5 wr from B58.out.trans (ho.below B58.out.size (fun i hi e => by have h9 : i = g := e; have := HPU.out; have := hgs.out; omega)))
                  have hUF := hide (show U.Fine wr by
                    have hfr : ∀ a ∈ t.ins.map (fun a : InV => a.with A1 n1 c1 bs1), a.Fine wr := fun a ha => by
                      obtain ⟨b, hb, rfl⟩ := List.mem_map.1 ha
                      have h1 := (HF.out.below HBr.out).ins.2.1 b hb
                      exact ⟨h1.ref, HO.out.below HBr.out, HD.out, h1.order⟩
                    rw [hU]
                    refine ⟨HF.out.version, HF.out.until_, ?_, HF.out.outs.below' HBr.out, hcap7.out, HF.out.ocap⟩
                    have h1 := hR
                    rw [← HF.out.ins.1, turnAt_all] at h1
                    exact rowB_rows h1 (fun a ha => InV.cells_len (hfr a ha).ref) (by rw [List.length_map]; exact HF.out.ins.1) hfr)
                  have hUS := hide (show U.Small by
                    rw [hU]
                    refine ⟨FA.out.small.ins, FA.out.small.outs, fun a ha => ?_, FA.out.small.lock⟩
                    obtain ⟨b, hb, rfl⟩ := List.mem_map.1 (show a ∈ t.ins.map (fun a : InV => a.with A1 n1 c1 bs1) from ha)
                    have := HN.out.2.1
                    show n1 ≤ 10000
                    omega)
                  have hUd := hide (show hashT U.d i bs0 = H by
                    rw [HHH.out, ← hashT_unlock t.d i bs0 bs1, hU]
                    congr 1
                    simp only [TxV.d, List.map_map]
                    rfl)
                  have UB := hide (show Blk wr pu 65 U.cells by rw [hU]; exact Tr)
                  have l5 := loadTx_run wr p0 0 t (range_under HT.out.whole HBr.out)
                  have KH := hide (K5.out.under B5r.out)
                  clear hU hR ho Tr K8 R8 K5 B47 B46
                  obtain ⟨o0, ho0⟩ : ∃ o0, t.outs[0]? = some o0 := ⟨_, List.getElem?_eq_getElem (by have := HF.out.outs.1; have := HN.out.2.2.2.1; omega)⟩
                  obtain ⟨y, hy, hxor⟩ := xor_bits o0.v
                  obtain ⟨orest, hor⟩ : ∃ r, t.outs = o0 :: r := by
                    match hto : t.outs, ho0 with
                    | a :: r, h => simp at h; exact ⟨r, by rw [h]⟩
                  have HXY := hide hy
                  have HOR1 := hide hor
                  have HBx := hide HBr.out
                  obtain ⟨pv, hpv⟩ : ∃ p, p = wr.heap.size := ⟨_, rfl⟩
                  have HPV := hide hpv
                  clear hpv
                  have Wp := hide (show p0 < w1.heap.size from HT.out.lt)
                  have hoN0 : 0 < t.oN := HN.out.2.2.2.1
                  obtain ⟨z, hz⟩ : ∃ z : Int, z = (t.until_ + 1) % 4294967296 := ⟨_, rfl⟩
                  have hz1 : IntKind.u32.wrap (t.until_ + 1) = z := by rw [hz]; rfl
                  have HZ := hide (show 0 ≤ z ∧ z ≤ 4294967295 by omega)
                  clear hz
                  have hoN1 : (0 : Int) < (t.oN : Int) := by omega
                  clear hy hor ho0
                  go_wp2_with (first
                    | (refine wpList_alloc_agg rfl 65 rfl zeroV.cells zeroTx_info ?_; simp only [Act.put, List.setIfInBounds_toArray, List.set_cons_zero, List.set_cons_succ])
                    | (refine tx_store rfl _ _ rfl wr rfl (by rfl) t (by rfl) ?_; intro wA bA sA kA; rw [← HPV.out] at sA kA ⊢; have BA := hide bA; have SA := hide sA; have KA := hide kA; have x2 := ((HT.out.under HBr.out).under (below_alloc bA (.cells #[] 24))).c2; rw [HOA.out] at x2; clear bA sA kA; simp only [Act.put])
                    | (at_builtin; refine wpList_mineR rfl _ _ 39 rfl 24 2 32 Try.underlying39 out_infoR (by decide) wA _ 0 [] (by rfl) (MineR.empty [] rfl) ob oo t.oN t.oC (t.outs.flatMap OutV.cells) (by rfl) HOL.out (range_under HOR.out (Below.then_ HBr.out (below_alloc BA.out _))) HOO.out (by have := HS1.out; omega) (by decide) ?_; intro AB cB wB q1 q2 q3; simp only [Nat.zero_add, List.nil_append] at q1 ⊢; have QB := hide q1; have KB := hide (KA.out.under q1.below); obtain ⟨gB, eB, hgB, hrB⟩ := q1.rowB (by have := HN.out.2.2.2.1; omega); subst eB; have HGB := hide (show pv < gB by have := SA.out; omega); have k2B := KB.out.c2; have f2B := KB.out.frozen 2; have oC : Only (fun i => i = pv) wB (wB.setCell ⟨pv, 2, none⟩ (.slice (some ⟨gB, 0, none⟩) t.oN cB)) := Only.setCell (Only.refl (fun i => i = pv) wB) (p := ⟨pv, 2, none⟩) (.inr rfl) _; have KC := KB.out.set_ 2 (.slice (some ⟨gB, 0, none⟩) t.oN cB); have RC := hrB.only oC (fun e => by have h9 : gB = pv := e; have := HGB.out; omega); have k2C : (wB.setCell ⟨pv, 2, none⟩ (.slice (some ⟨gB, 0, none⟩) t.oN cB)).cell? ⟨pv, 2, none⟩ = some (.slice (some ⟨gB, 0, none⟩) t.oN cB) := KC.c2; rw [HOR1.out] at RC; have k0C := RC.cell 0 (.int .i64 o0.v) rfl; have f0C := RC.frozen 0; have bC : Below wr.heap.size wr (wB.setCell ⟨pv, 2, none⟩ (.slice (some ⟨gB, 0, none⟩) t.oN cB)) := (Below.then_ BA.out q1.below).setCell (p := ⟨pv, 2, none⟩) (by rw [HPV.out]; exact Nat.le_refl _) _; have RD := hide (RC.set_ 0 (.int .i64 y)); have KD := hide (KC.far (p := ⟨gB, 0, none⟩) (show pv ≠ gB by have := HGB.out; omega) (.int .i64 y)); have BD := hide (bC.setCell (p := ⟨gB, 0, none⟩) (by have := HGB.out; have := HPV.out; show wr.heap.size ≤ gB; omega) (.int .i64 y)); have HBD := hide (Below.then_ HBr.out BD.out); have lD := loadTx_run _ p0 0 t (range_under HT.out.whole HBD.out); have hcB := hide (q1.capN (by have := HN.out.2.2.2.1; omega)); clear oC KC RC bC hrB hgB q1 q2 q3; simp only [Act.put, List.setIfInBounds_toArray, List.set_cons_zero, List.set_cons_succ])
                    | (refine tx_store rfl _ _ rfl ((wB.setCell ⟨pv, 2, none⟩ (.slice (some ⟨gB, 0, none⟩) t.oN cB)).setCell ⟨gB, 0, none⟩ (.int .i64 y)) rfl (by first | rfl | simp) t (by rfl) ?_; intro wE bE sE kE; have BE := hide bE; rw [show ((wB.setCell ⟨pv, 2, none⟩ (.slice (some ⟨gB, 0, none⟩) t.oN cB)).setCell ⟨gB, 0, none⟩ (.int .i64 y)).heap.size = wB.heap.size by simp] at sE kE; have SE := hide sE; have KE := hide kE; have e3 := kE.c3; have h3 := kE.frozen 3; have BF := hide (bE.setCell (p := ⟨wB.heap.size, 3, none⟩) (by simp) (.int .u32 z)); have KF := hide (kE.set_ 3 (.int .u32 z)); have HBF := hide (Below.then_ HBD.out BF.out); have lF := loadTx_run _ p0 0 t (range_under HT.out.whole HBF.out); clear bE sE kE; simp only [Act.put]))
                  obtain ⟨wF, hwF⟩ : ∃ x, x = wE.setCell ⟨wB.heap.size, 3, none⟩ (.int .u32 z) := ⟨_, rfl⟩
                  obtain ⟨pw, hpw⟩ : ∃ p, p = wB.heap.size := ⟨_, rfl⟩
                  rw [← hpw] at hwF KF
                  rw [← hpw]
                  obtain ⟨V, hV⟩ : ∃ V : TxV, V = ⟨t.version, t.iA, t.iN, t.iC, t.ins, some ⟨gB, 0, none⟩, t.oN, cB, (⟨y, o0.A, o0.n, o0.c, o0.bs⟩ : OutV) :: orest, t.until_⟩ := ⟨_, rfl⟩
                  obtain ⟨X, hX⟩ : ∃ X : TxV, X = ⟨t.version, t.iA, t.iN, t.iC, t.ins, t.oA, t.oN, t.oC, t.outs, z⟩ := ⟨_, rfl⟩
                  have BDF := BF.out
                  rw [← hpw, ← hwF] at BDF
                  have BrF := hide (Below.then_ BD.out BDF)
                  have BwF := hide (Below.then_ HBr.out BrF.out)
                  have UB2 := hide ((UB.out.under BrF.out).whole)
                  have UF2 := hide (hUF.out.below BrF.out)
                  have KH2 := hide ((KH.out.under BrF.out).whole)
                  have VB2 := hide (show wF.rangeAt pv 0 V.cells by rw [hV]; exact (KD.out.under BDF).whole)
                  have XB2 := hide (show wF.rangeAt pw 0 X.cells by rw [hX, hwF]; exact KF.out.whole)
                  have TF2 := hide (HF.out.below BwF.out)
                  have VF2 := hide (show V.Fine wF by
                    have h1 := HF.out.below BwF.out
                    have hl := HF.out.outs.1
                    have hm := h1.outs.2.1
                    rw [HOR1.out] at hl hm
                    rw [hV]
                    refine ⟨h1.version, h1.until_, h1.ins, ?_, h1.icap, hcB.out⟩
                    have hr : RowB wF gB 24 (((⟨y, o0.A, o0.n, o0.c, o0.bs⟩ : OutV) :: orest).flatMap OutV.cells) := RD.out.under BDF
                    refine rowB_rows (k := 2) hr (fun a _ => rfl) hl (fun a ha => ?_)
                    rcases List.mem_cons.1 ha with rfl | ha
                    · have h2 := hm o0 (by simp)
                      exact ⟨HXY.out, h2.bys, h2.cap⟩
                    · exact hm a (by simp [ha]))
                  have XF2 := hide (show X.Fine wF by
                    have h1 := HF.out.below BwF.out
                    rw [hX]
                    exact ⟨h1.version, HZ.out, h1.ins, h1.outs, h1.icap, h1.ocap⟩)
                  have VS2 := hide (show V.Small by
                    rw [hV]
                    have hl := FA.out.small.lock
                    rw [HOR1.out] at hl
                    refine ⟨FA.out.small.ins, FA.out.small.outs, FA.out.small.unlock, fun a ha => ?_⟩
                    rcases List.mem_cons.1 ha with rfl | ha
                    · exact hl o0 (by simp)
                    · exact hl a (by simp [ha]))
                  have XS2 := hide (show X.Small by rw [hX]; exact ⟨FA.out.small.ins, FA.out.small.outs, FA.out.small.unlock, FA.out.small.lock⟩)
                  have HWF := hide (Below.then_ HW.out BwF.out)
                  rw [← hwF]
                  clear hwF hpw hV hX BDF BrF KF BF HBF HBD KE SE BE KD RD BD lF e3 h3 lD k2B f2B KB QB k2C k0C f0C x2 l5 KA SA BA
                  as_aux_lemma =>
                    refine (refTHash_any wF t i A0 n0 c0 bs0 TF2.out FA.out.small (HB.out.below BwF.out) HC.out (by have := HN.out.1; omega) hi0 hi1).mono ?_
                    rintro e wG ⟨rfl, bG⟩
                    rw [← HHH.out]
                    obtain ⟨pz, hpz⟩ : ∃ p, p = wG.heap.size := ⟨_, rfl⟩
                    have HPZ := hide hpz
                    have HBG := hide bG
                    clear hpz bG
                    go_wp2_with (first
                      | (refine wpList_alloc_agg rfl 44 rfl (bcs zero32) zero32_info ?_; simp only [Act.put, List.setIfInBounds_toArray, List.set_cons_zero, List.set_cons_succ])
                      | (refine hash_store rfl _ _ rfl wG rfl (by rfl) H HHL.out (by rfl) ?_; intro wH bH sH kH; rw [← HPZ.out] at sH kH ⊢; have BH := hide bH; have KZ := hide kH; clear bH sH kH; simp only [Act.put]))
                    have BFH := hide (Below.then_ HBG.out BH.out)
                    have BwH := hide (Below.then_ BwF.out BFH.out)
                    have HUF := hide (UF2.out.below BFH.out)
                    have HVF := hide (VF2.out.below BFH.out)
                    have HXF := hide (XF2.out.below BFH.out)
                    have HTF := hide (TF2.out.below BFH.out)
                    have HLB := hide (HB.out.below BwH.out)
                    have HLO := hide (HO.out.below BwH.out)
                    have TU := hide (range_under UB2.out BFH.out)
                    have TV := hide (range_under VB2.out BFH.out)
                    have TX := hide (range_under XB2.out BFH.out)
                    have TT := hide (range_under HT.out.whole BwH.out)
                    have TH := hide (range_under KH2.out BFH.out)
                    have TZ := hide KZ.out.whole
                    have HWH := hide (Below.then_ HWF.out BFH.out)
                    obtain ⟨HV, hHV⟩ : ∃ HV, HV = hashT V.d i bs0 := ⟨_, rfl⟩
                    obtain ⟨HX, hHX⟩ : ∃ HX, HX = hashT X.d i bs0 := ⟨_, rfl⟩
                    have lHV := hide (show HV.length = 32 by rw [hHV]; exact hashT_len _ _ _)
                    have lHX := hide (show HX.length = 32 by rw [hHX]; exact hashT_len _ _ _)
                    have EV := hide (⟨hHV.symm, hHX.symm⟩ : hashT V.d i bs0 = HV ∧ hashT X.d i bs0 = HX)
                    obtain ⟨E1, hE1⟩ : ∃ E1 : Bool, E1 = (HV == H) := ⟨_, rfl⟩
                    obtain ⟨E2, hE2⟩ : ∃ E2 : Bool, E2 = (HX == H) := ⟨_, rfl⟩
                    have HQ := hide (⟨fun w => neqHash_self H HHL.out w, fun w => by rw [hE1]; exact eqlHash_run HV H lHV.out HHL.out w, fun w => by rw [hE2]; exact eqlHash_run HX H lHX.out HHL.out w⟩ : (∀ w, (neqHash (.agg (bcs H).toArray) (.agg (bcs H).toArray)).run Try.prog w = .ok (.bool false) w) ∧ (∀ w, (eqlHash (.agg (bcs HV).toArray) (.agg (bcs H).toArray)).run Try.prog w = .ok (.bool E1) w) ∧ (∀ w, (eqlHash (.agg (bcs HX).toArray) (.agg (bcs H).toArray)).run Try.prog w = .ok (.bool E2) w))
                    clear hHV hHX hE1 hE2
                    refine wp_region_held_drew (S := fun w' => Below wH.heap.size wH w') (by kernel_rfl) (by exact (Below.refl _ _).drew) (fun hSZ0 => ?_)
                    obtain ⟨wHd, hwZ⟩ : ∃ x, x = wH.drew := ⟨_, rfl⟩
                    rw [← hwZ] at hSZ0 ⊢
                    clear hwZ
                    (refine wpAnyH_take (i := 0) (oi := { dst := Option.some 96, op := Go.Op.load 65 (Go.Operand.tmp 10), type := 65, pos := "law.go:121", after := #[], guard := Option.none }) (v := ?_) rfl (by kernel_rfl) (by kernel_rfl) (by kernel_rfl) (fun _ _ _ h => h) (Or.inl ⟨by rfl, fun w' hSw => ?_⟩) hSZ0 ?_; rotate_left; focus (have hl := loadTx_run w' pu 0 U (range_under TU.out hSw); go_simp; try with_reducible rfl))
                    simp only [Act.put, List.setIfInBounds_toArray, List.set_cons_zero, List.set_cons_succ]
                    (refine wpAnyH_take (i := 1) (oi := { dst := Option.some 97, op := Go.Op.move (Go.Operand.tmp 1), type := 3, pos := "law.go:121", after := #[], guard := Option.none }) (v := ?_) rfl (by kernel_rfl) (by kernel_rfl) (by kernel_rfl) (fun _ _ _ h => h) (Or.inl ⟨by rfl, fun w' hSw => ?_⟩) hSZ0 ?_; rotate_left; focus (go_simp; try with_reducible rfl))
                    simp only [Act.put, List.setIfInBounds_toArray, List.set_cons_zero, List.set_cons_succ]
                    (refine wpAnyH_take (i := 2) (oi := { dst := Option.some 98, op := Go.Op.move (Go.Operand.tmp 7), type := 22, pos := "law.go:121", after := #[], guard := Option.none }) (v := ?_) rfl (by kernel_rfl) (by kernel_rfl) (by kernel_rfl) (fun _ _ _ h => h) (Or.inl ⟨by rfl, fun w' hSw => ?_⟩) hSZ0 ?_; rotate_left; focus (go_simp; try with_reducible rfl))
                    simp only [Act.put, List.setIfInBounds_toArray, List.set_cons_zero, List.set_cons_succ]
                    (refine wpAnyH_take (i := 4) (oi := { dst := Option.some 100, op := Go.Op.load 44 (Go.Operand.tmp 9), type := 44, pos := "law.go:121", after := #[], guard := Option.none }) (v := ?_) rfl (by kernel_rfl) (by kernel_rfl) (by kernel_rfl) (fun _ _ _ h => h) (Or.inl ⟨by rfl, fun w' hSw => ?_⟩) hSZ0 ?_; rotate_left; focus (have hl : (loadHash ⟨p9, 0, none⟩).run Try.prog w' = .ok (.agg (bcs H).toArray) w' := loadHash_run w' p9 0 H (range_under TH.out hSw) HHL.out; go_simp; try with_reducible rfl))
                    simp only [Act.put, List.setIfInBounds_toArray, List.set_cons_zero, List.set_cons_succ]
                    refine wpAnyH_ready (rs := [3]) (by kernel_rfl) (by simp) ?_
                    refine AllReadyH.cons rfl (fun K hK => ?_) AllReadyH.nil
                    go_simp
                    go_wp2_with (go_at_call 56; refine (THash_any wHd U i A0 n0 c0 bs0 (HUF.out.below hSZ0) hUS.out (HLB.out.below hSZ0) HC.out (by have := HN.out.1; omega) hi0 hi1).mono ?_; rintro e wz1 ⟨rfl, bwz1⟩; rw [hUd.out])
                    refine hK.out _ _ (Below.then_ hSZ0 bwz1) (fun hSZ1 => ?_)
                    clear hK K
                    (refine wpAnyH_take (i := 5) (oi := { dst := Option.some 101, op := Go.Op.binOp Go.BinOp.neq 44 (Go.Operand.tmp 99) (Go.Operand.tmp 100) 44, type := 4, pos := "law.go:121", after := #[{ on := 3, ground := Go.Ground.data }, { on := 4, ground := Go.Ground.data }], guard := Option.none }) (v := ?_) rfl (by kernel_rfl) (by kernel_rfl) (by kernel_rfl) (fun _ _ _ h => h) (Or.inl ⟨by rfl, fun w' hSw => ?_⟩) hSZ1 ?_; rotate_left; focus (have hh := HQ.out.1; go_simp; try with_reducible rfl))
                    simp only [Act.put, List.setIfInBounds_toArray, List.set_cons_zero, List.set_cons_succ]
                    (refine wpAnyH_take (i := 6) (oi := { dst := Option.some 102, op := Go.Op.move (Go.Operand.tmp 101), type := 4, pos := "law.go:121", after := #[{ on := 5, ground := Go.Ground.data }, { on := 3, ground := Go.Ground.chain }], guard := Option.none }) (v := ?_) rfl (by kernel_rfl) (by kernel_rfl) (by kernel_rfl) (fun _ _ _ h => h) (Or.inl ⟨by rfl, fun w' hSw => ?_⟩) hSZ1 ?_; rotate_left; focus (go_simp; try with_reducible rfl))
                    simp only [Act.put, List.setIfInBounds_toArray, List.set_cons_zero, List.set_cons_succ]
                    as_aux_lemma =>
                      (refine wpAnyH_take (i := 7) (oi := { dst := Option.some 103, op := Go.Op.load 65 (Go.Operand.tmp 12), type := 65, pos := "law.go:121", after := #[{ on := 6, ground := Go.Ground.guard }], guard := Option.some (6, Bool.false) }) (v := ?_) rfl (by kernel_rfl) (by kernel_rfl) (by kernel_rfl) (fun _ _ _ h => h) (Or.inl ⟨by rfl, fun w' hSw => ?_⟩) hSZ1 ?_; rotate_left; focus (have hl := loadTx_run w' pv 0 V (range_under TV.out hSw); go_simp; try with_reducible rfl))
                      simp only [Act.put, List.setIfInBounds_toArray, List.set_cons_zero, List.set_cons_succ]
                      (refine wpAnyH_take (i := 8) (oi := { dst := Option.some 104, op := Go.Op.move (Go.Operand.tmp 1), type := 3, pos := "law.go:121", after := #[{ on := 6, ground := Go.Ground.guard }], guard := Option.some (6, Bool.false) }) (v := ?_) rfl (by kernel_rfl) (by kernel_rfl) (by kernel_rfl) (fun _ _ _ h => h) (Or.inl ⟨by rfl, fun w' hSw => ?_⟩) hSZ1 ?_; rotate_left; focus (go_simp; try with_reducible rfl))
                      simp only [Act.put, List.setIfInBounds_toArray, List.set_cons_zero, List.set_cons_succ]
                      (refine wpAnyH_take (i := 9) (oi := { dst := Option.some 105, op := Go.Op.move (Go.Operand.tmp 7), type := 22, pos := "law.go:121", after := #[{ on := 6, ground := Go.Ground.guard }], guard := Option.some (6, Bool.false) }) (v := ?_) rfl (by kernel_rfl) (by kernel_rfl) (by kernel_rfl) (fun _ _ _ h => h) (Or.inl ⟨by rfl, fun w' hSw => ?_⟩) hSZ1 ?_; rotate_left; focus (go_simp; try with_reducible rfl))
                      simp only [Act.put, List.setIfInBounds_toArray, List.set_cons_zero, List.set_cons_succ]
                      (refine wpAnyH_take (i := 11) (oi := { dst := Option.some 107, op := Go.Op.load 44 (Go.Operand.tmp 9), type := 44, pos := "law.go:121", after := #[{ on := 6, ground := Go.Ground.guard }], guard := Option.some (6, Bool.false) }) (v := ?_) rfl (by kernel_rfl) (by kernel_rfl) (by kernel_rfl) (fun _ _ _ h => h) (Or.inl ⟨by rfl, fun w' hSw => ?_⟩) hSZ1 ?_; rotate_left; focus (have hl : (loadHash ⟨p9, 0, none⟩).run Try.prog w' = .ok (.agg (bcs H).toArray) w' := loadHash_run w' p9 0 H (range_under TH.out hSw) HHL.out; go_simp; try with_reducible rfl))
                      simp only [Act.put, List.setIfInBounds_toArray, List.set_cons_zero, List.set_cons_succ]
                      (refine wpAnyH_take (i := 13) (oi := { dst := Option.some 109, op := Go.Op.load 65 (Go.Operand.tmp 12), type := 65, pos := "law.go:121", after := #[{ on := 6, ground := Go.Ground.guard }], guard := Option.some (6, Bool.false) }) (v := ?_) rfl (by kernel_rfl) (by kernel_rfl) (by kernel_rfl) (fun _ _ _ h => h) (Or.inl ⟨by rfl, fun w' hSw => ?_⟩) hSZ1 ?_; rotate_left; focus (have hl := loadTx_run w' pv 0 V (range_under TV.out hSw); go_simp; try with_reducible rfl))
                      simp only [Act.put, List.setIfInBounds_toArray, List.set_cons_zero, List.set_cons_succ]
                      (refine wpAnyH_take (i := 14) (oi := { dst := Option.some 110, op := Go.Op.move (Go.Operand.tmp 1), type := 3, pos := "law.go:121", after := #[{ on := 6, ground := Go.Ground.guard }], guard := Option.some (6, Bool.false) }) (v := ?_) rfl (by kernel_rfl) (by kernel_rfl) (by kernel_rfl) (fun _ _ _ h => h) (Or.inl ⟨by rfl, fun w' hSw => ?_⟩) hSZ1 ?_; rotate_left; focus (go_simp; try with_reducible rfl))
                      simp only [Act.put, List.setIfInBounds_toArray, List.set_cons_zero, List.set_cons_succ]
                      (refine wpAnyH_take (i := 15) (oi := { dst := Option.some 111, op := Go.Op.move (Go.Operand.tmp 7), type := 22, pos := "law.go:121", after := #[{ on := 6, ground := Go.Ground.guard }], guard := Option.some (6, Bool.false) }) (v := ?_) rfl (by kernel_rfl) (by kernel_rfl) (by kernel_rfl) (fun _ _ _ h => h) (Or.inl ⟨by rfl, fun w' hSw => ?_⟩) hSZ1 ?_; rotate_left; focus (go_simp; try with_reducible rfl))
                      simp only [Act.put, List.setIfInBounds_toArray, List.set_cons_zero, List.set_cons_succ]
                      as_aux_lemma =>
                        (refine wpAnyH_take (i := 17) (oi := { dst := Option.some 113, op := Go.Op.load 44 (Go.Operand.tmp 14), type := 44, pos := "law.go:121", after := #[{ on := 6, ground := Go.Ground.guard }], guard := Option.some (6, Bool.false) }) (v := ?_) rfl (by kernel_rfl) (by kernel_rfl) (by kernel_rfl) (fun _ _ _ h => h) (Or.inl ⟨by rfl, fun w' hSw => ?_⟩) hSZ1 ?_; rotate_left; focus (have hl : (loadHash ⟨pz, 0, none⟩).run Try.prog w' = .ok (.agg (bcs H).toArray) w' := loadHash_run w' pz 0 H (range_under TZ.out hSw) HHL.out; go_simp; try with_reducible rfl))
                        simp only [Act.put, List.setIfInBounds_toArray, List.set_cons_zero, List.set_cons_succ]
                        refine wpAnyH_ready (rs := [10]) (by kernel_rfl) (by simp) ?_
                        refine AllReadyH.cons rfl (fun K hK => ?_) AllReadyH.nil
                        go_simp
                        go_wp2_with (go_at_call 56; refine (THash_any wz1 V i A0 n0 c0 bs0 (HVF.out.below hSZ1) VS2.out (HLB.out.below hSZ1) HC.out (by have := HN.out.1; omega) hi0 hi1).mono ?_; rintro e wz2 ⟨rfl, bwz2⟩; rw [EV.out.1])
                        refine hK.out _ _ (Below.then_ hSZ1 bwz2) (fun hSZ2 => ?_)
                        clear hK K
                        (refine wpAnyH_take (i := 12) (oi := { dst := Option.some 108, op := Go.Op.binOp Go.BinOp.eql 44 (Go.Operand.tmp 106) (Go.Operand.tmp 107) 44, type := 4, pos := "law.go:121", after := #[{ on := 10, ground := Go.Ground.data }, { on := 11, ground := Go.Ground.data }, { on := 6, ground := Go.Ground.guard }], guard := Option.some (6, Bool.false) }) (v := ?_) rfl (by kernel_rfl) (by kernel_rfl) (by kernel_rfl) (fun _ _ _ h => h) (Or.inl ⟨by rfl, fun w' hSw => ?_⟩) hSZ2 ?_; rotate_left; focus (have hh := HQ.out.2.1; go_simp; try with_reducible rfl))
                        simp only [Act.put, List.setIfInBounds_toArray, List.set_cons_zero, List.set_cons_succ]
                        refine wpAnyH_ready (rs := [16]) (by kernel_rfl) (by simp) ?_
                        refine AllReadyH.cons rfl (fun K hK => ?_) AllReadyH.nil
                        go_simp
                        go_wp2_with (go_at_call 57; refine (refTHash_any wz2 V i A0 n0 c0 bs0 (HVF.out.below hSZ2) VS2.out (HLB.out.below hSZ2) HC.out (by have := HN.out.1; omega) hi0 hi1).mono ?_; rintro e wz3 ⟨rfl, bwz3⟩; rw [EV.out.1])
                        refine hK.out _ _ (Below.then_ hSZ2 bwz3) (fun hSZ3 => ?_)
                        clear hK K
                        (refine wpAnyH_take (i := 18) (oi := { dst := Option.some 114, op := Go.Op.binOp Go.BinOp.eql 44 (Go.Operand.tmp 112) (Go.Operand.tmp 113) 44, type := 4, pos := "law.go:121", after := #[{ on := 16, ground := Go.Ground.data }, { on := 17, ground := Go.Ground.data }, { on := 6, ground := Go.Ground.guard }], guard := Option.some (6, Bool.false) }) (v := ?_) rfl (by kernel_rfl) (by kernel_rfl) (by kernel_rfl) (fun _ _ _ h => h) (Or.inl ⟨by rfl, fun w' hSw => ?_⟩) hSZ3 ?_; rotate_left; focus (have hh := HQ.out.2.1; go_simp; try with_reducible rfl))
                        simp only [Act.put, List.setIfInBounds_toArray, List.set_cons_zero, List.set_cons_succ]
                        (refine wpAnyH_take (i := 19) (oi := { dst := Option.some 115, op := Go.Op.binOp Go.BinOp.neq 4 (Go.Operand.tmp 108) (Go.Operand.tmp 114) 4, type := 4, pos := "law.go:121", after := #[{ on := 12, ground := Go.Ground.data }, { on := 18, ground := Go.Ground.data }, { on := 6, ground := Go.Ground.guard }], guard := Option.some (6, Bool.false) }) (v := ?_) rfl (by kernel_rfl) (by kernel_rfl) (by kernel_rfl) (fun _ _ _ h => h) (Or.inl ⟨by rfl, fun w' hSw => ?_⟩) hSZ3 ?_; rotate_left; focus (go_simp; try with_reducible rfl))
                        simp only [Act.put, List.setIfInBounds_toArray, List.set_cons_zero, List.set_cons_succ]
                        (refine wpAnyH_take (i := 20) (oi := { dst := Option.some 116, op := Go.Op.pick (Go.Operand.tmp 102) (Go.Operand.const (Go.Value.bool Bool.true)) (Go.Operand.tmp 115), type := 4, pos := "law.go:121", after := #[{ on := 6, ground := Go.Ground.data }, { on := 19, ground := Go.Ground.data }], guard := Option.none }) (v := ?_) rfl (by kernel_rfl) (by kernel_rfl) (by kernel_rfl) (fun _ _ _ h => h) (Or.inl ⟨by rfl, fun w' hSw => ?_⟩) hSZ3 ?_; rotate_left; focus (go_simp; try with_reducible rfl))
                        simp only [Act.put, List.setIfInBounds_toArray, List.set_cons_zero, List.set_cons_succ]
                        as_aux_lemma =>
                          (refine wpAnyH_take (i := 21) (oi := { dst := Option.some 117, op := Go.Op.move (Go.Operand.tmp 116), type := 4, pos := "law.go:121", after := #[{ on := 20, ground := Go.Ground.data }, { on := 16, ground := Go.Ground.chain }], guard := Option.none }) (v := ?_) rfl (by kernel_rfl) (by kernel_rfl) (by kernel_rfl) (fun _ _ _ h => h) (Or.inl ⟨by rfl, fun w' hSw => ?_⟩) hSZ3 ?_; rotate_left; focus (go_simp; try with_reducible rfl))
                          simp only [Act.put, List.setIfInBounds_toArray, List.set_cons_zero, List.set_cons_succ]
                          (refine wpAnyH_take (i := 22) (oi := { dst := Option.some 118, op := Go.Op.load 65 (Go.Operand.tmp 13), type := 65, pos := "law.go:121", after := #[{ on := 21, ground := Go.Ground.guard }], guard := Option.some (21, Bool.false) }) (v := ?_) rfl (by kernel_rfl) (by kernel_rfl) (by kernel_rfl) (fun _ _ _ h => h) (Or.inl ⟨by rfl, fun w' hSw => ?_⟩) hSZ3 ?_; rotate_left; focus (have hl := loadTx_run w' pw 0 X (range_under TX.out hSw); go_simp; try with_reducible rfl))
                          simp only [Act.put, List.setIfInBounds_toArray, List.set_cons_zero, List.set_cons_succ]
                          (refine wpAnyH_take (i := 23) (oi := { dst := Option.some 119, op := Go.Op.move (Go.Operand.tmp 1), type := 3, pos := "law.go:121", after := #[{ on := 21, ground := Go.Ground.guard }], guard := Option.some (21, Bool.false) }) (v := ?_) rfl (by kernel_rfl) (by kernel_rfl) (by kernel_rfl) (fun _ _ _ h => h) (Or.inl ⟨by rfl, fun w' hSw => ?_⟩) hSZ3 ?_; rotate_left; focus (go_simp; try with_reducible rfl))
                          simp only [Act.put, List.setIfInBounds_toArray, List.set_cons_zero, List.set_cons_succ]
                          (refine wpAnyH_take (i := 24) (oi := { dst := Option.some 120, op := Go.Op.move (Go.Operand.tmp 7), type := 22, pos := "law.go:121", after := #[{ on := 21, ground := Go.Ground.guard }], guard := Option.some (21, Bool.false) }) (v := ?_) rfl (by kernel_rfl) (by kernel_rfl) (by kernel_rfl) (fun _ _ _ h => h) (Or.inl ⟨by rfl, fun w' hSw => ?_⟩) hSZ3 ?_; rotate_left; focus (go_simp; try with_reducible rfl))
                          simp only [Act.put, List.setIfInBounds_toArray, List.set_cons_zero, List.set_cons_succ]
                          (refine wpAnyH_take (i := 26) (oi := { dst := Option.some 122, op := Go.Op.load 44 (Go.Operand.tmp 9), type := 44, pos := "law.go:121", after := #[{ on := 21, ground := Go.Ground.guard }], guard := Option.some (21, Bool.false) }) (v := ?_) rfl (by kernel_rfl) (by kernel_rfl) (by kernel_rfl) (fun _ _ _ h => h) (Or.inl ⟨by rfl, fun w' hSw => ?_⟩) hSZ3 ?_; rotate_left; focus (have hl : (loadHash ⟨p9, 0, none⟩).run Try.prog w' = .ok (.agg (bcs H).toArray) w' := loadHash_run w' p9 0 H (range_under TH.out hSw) HHL.out; go_simp; try with_reducible rfl))
                          simp only [Act.put, List.setIfInBounds_toArray, List.set_cons_zero, List.set_cons_succ]
                          (refine wpAnyH_take (i := 28) (oi := { dst := Option.some 124, op := Go.Op.load 65 (Go.Operand.tmp 13), type := 65, pos := "law.go:121", after := #[{ on := 21, ground := Go.Ground.guard }], guard := Option.some (21, Bool.false) }) (v := ?_) rfl (by kernel_rfl) (by kernel_rfl) (by kernel_rfl) (fun _ _ _ h => h) (Or.inl ⟨by rfl, fun w' hSw => ?_⟩) hSZ3 ?_; rotate_left; focus (have hl := loadTx_run w' pw 0 X (range_under TX.out hSw); go_simp; try with_reducible rfl))
                          simp only [Act.put, List.setIfInBounds_toArray, List.set_cons_zero, List.set_cons_succ]
                          (refine wpAnyH_take (i := 29) (oi := { dst := Option.some 125, op := Go.Op.move (Go.Operand.tmp 1), type := 3, pos := "law.go:121", after := #[{ on := 21, ground := Go.Ground.guard }], guard := Option.some (21, Bool.false) }) (v := ?_) rfl (by kernel_rfl) (by kernel_rfl) (by kernel_rfl) (fun _ _ _ h => h) (Or.inl ⟨by rfl, fun w' hSw => ?_⟩) hSZ3 ?_; rotate_left; focus (go_simp; try with_reducible rfl))
                          simp only [Act.put, List.setIfInBounds_toArray, List.set_cons_zero, List.set_cons_succ]
                          as_aux_lemma =>
                            (refine wpAnyH_take (i := 30) (oi := { dst := Option.some 126, op := Go.Op.move (Go.Operand.tmp 7), type := 22, pos := "law.go:121", after := #[{ on := 21, ground := Go.Ground.guard }], guard := Option.some (21, Bool.false) }) (v := ?_) rfl (by kernel_rfl) (by kernel_rfl) (by kernel_rfl) (fun _ _ _ h => h) (Or.inl ⟨by rfl, fun w' hSw => ?_⟩) hSZ3 ?_; rotate_left; focus (go_simp; try with_reducible rfl))
                            simp only [Act.put, List.setIfInBounds_toArray, List.set_cons_zero, List.set_cons_succ]
                            (refine wpAnyH_take (i := 32) (oi := { dst := Option.some 128, op := Go.Op.load 44 (Go.Operand.tmp 14), type := 44, pos := "law.go:121", after := #[{ on := 21, ground := Go.Ground.guard }], guard := Option.some (21, Bool.false) }) (v := ?_) rfl (by kernel_rfl) (by kernel_rfl) (by kernel_rfl) (fun _ _ _ h => h) (Or.inl ⟨by rfl, fun w' hSw => ?_⟩) hSZ3 ?_; rotate_left; focus (have hl : (loadHash ⟨pz, 0, none⟩).run Try.prog w' = .ok (.agg (bcs H).toArray) w' := loadHash_run w' pz 0 H (range_under TZ.out hSw) HHL.out; go_simp; try with_reducible rfl))
                            simp only [Act.put, List.setIfInBounds_toArray, List.set_cons_zero, List.set_cons_succ]
                            refine wpAnyH_ready (rs := [25]) (by kernel_rfl) (by simp) ?_
                            refine AllReadyH.cons rfl (fun K hK => ?_) AllReadyH.nil
                            go_simp
                            go_wp2_with (go_at_call 56; refine (THash_any wz3 X i A0 n0 c0 bs0 (HXF.out.below hSZ3) XS2.out (HLB.out.below hSZ3) HC.out (by have := HN.out.1; omega) hi0 hi1).mono ?_; rintro e wz4 ⟨rfl, bwz4⟩; rw [EV.out.2])
                            refine hK.out _ _ (Below.then_ hSZ3 bwz4) (fun hSZ4 => ?_)
                            clear hK K
                            (refine wpAnyH_take (i := 27) (oi := { dst := Option.some 123, op := Go.Op.binOp Go.BinOp.eql 44 (Go.Operand.tmp 121) (Go.Operand.tmp 122) 44, type := 4, pos := "law.go:121", after := #[{ on := 25, ground := Go.Ground.data }, { on := 26, ground := Go.Ground.data }, { on := 21, ground := Go.Ground.guard }], guard := Option.some (21, Bool.false) }) (v := ?_) rfl (by kernel_rfl) (by kernel_rfl) (by kernel_rfl) (fun _ _ _ h => h) (Or.inl ⟨by rfl, fun w' hSw => ?_⟩) hSZ4 ?_; rotate_left; focus (have hh := HQ.out.2.2; go_simp; try with_reducible rfl))
                            simp only [Act.put, List.setIfInBounds_toArray, List.set_cons_zero, List.set_cons_succ]
                            refine wpAnyH_ready (rs := [31]) (by kernel_rfl) (by simp) ?_
                            refine AllReadyH.cons rfl (fun K hK => ?_) AllReadyH.nil
                            go_simp
                            go_wp2_with (go_at_call 57; refine (refTHash_any wz4 X i A0 n0 c0 bs0 (HXF.out.below hSZ4) XS2.out (HLB.out.below hSZ4) HC.out (by have := HN.out.1; omega) hi0 hi1).mono ?_; rintro e wz5 ⟨rfl, bwz5⟩; rw [EV.out.2])
                            refine hK.out _ _ (Below.then_ hSZ4 bwz5) (fun hSZ5 => ?_)
                            clear hK K
                            (refine wpAnyH_take (i := 33) (oi := { dst := Option.some 129, op := Go.Op.binOp Go.BinOp.eql 44 (Go.Operand.tmp 127) (Go.Operand.tmp 128) 44, type := 4, pos := "law.go:121", after := #[{ on := 31, ground := Go.Ground.data }, { on := 32, ground := Go.Ground.data }, { on := 21, ground := Go.Ground.guard }], guard := Option.some (21, Bool.false) }) (v := ?_) rfl (by kernel_rfl) (by kernel_rfl) (by kernel_rfl) (fun _ _ _ h => h) (Or.inl ⟨by rfl, fun w' hSw => ?_⟩) hSZ5 ?_; rotate_left; focus (have hh := HQ.out.2.2; go_simp; try with_reducible rfl))
                            simp only [Act.put, List.setIfInBounds_toArray, List.set_cons_zero, List.set_cons_succ]
                            (refine wpAnyH_take (i := 34) (oi := { dst := Option.some 130, op := Go.Op.binOp Go.BinOp.neq 4 (Go.Operand.tmp 123) (Go.Operand.tmp 129) 4, type := 4, pos := "law.go:121", after := #[{ on := 27, ground := Go.Ground.data }, { on := 33, ground := Go.Ground.data }, { on := 21, ground := Go.Ground.guard }], guard := Option.some (21, Bool.false) }) (v := ?_) rfl (by kernel_rfl) (by kernel_rfl) (by kernel_rfl) (fun _ _ _ h => h) (Or.inl ⟨by rfl, fun w' hSw => ?_⟩) hSZ5 ?_; rotate_left; focus (go_simp; try with_reducible rfl))
                            simp only [Act.put, List.setIfInBounds_toArray, List.set_cons_zero, List.set_cons_succ]
                            as_aux_lemma =>
                              (refine wpAnyH_take (i := 35) (oi := { dst := Option.some 131, op := Go.Op.pick (Go.Operand.tmp 117) (Go.Operand.const (Go.Value.bool Bool.true)) (Go.Operand.tmp 130), type := 4, pos := "law.go:121", after := #[{ on := 21, ground := Go.Ground.data }, { on := 34, ground := Go.Ground.data }], guard := Option.none }) (v := ?_) rfl (by kernel_rfl) (by kernel_rfl) (by kernel_rfl) (fun _ _ _ h => h) (Or.inl ⟨by rfl, fun w' hSw => ?_⟩) hSZ5 ?_; rotate_left; focus (go_simp; try with_reducible rfl))
                              simp only [Act.put, List.setIfInBounds_toArray, List.set_cons_zero, List.set_cons_succ]
                              refine wpAnyH_done (by kernel_rfl) ?_ _
                              have HTF := hide (HTF.out.below hSZ5)
                              have HLB := hide (HLB.out.below hSZ5)
                              have HLO := hide (HLO.out.below hSZ5)
                              have TT := hide (range_under TT.out hSZ5)
                              have TH := hide (range_under TH.out hSZ5)
                              have TZ := hide (range_under TZ.out hSZ5)
                              have HWH := hide (Below.then_ HWH.out hSZ5)
                              obtain ⟨J, hJ⟩ : ∃ J : Int, J = i + 1 := ⟨_, rfl⟩
                              have hj1 : IntKind.i64.wrap (i + 1) = J := by rw [IntKind.wrap_i64]; have h1 := HN.out.2.2.2.2; have h2 := HS1.out.1; omega
                              have HJ := hide (show -9223372036854775808 ≤ J ∧ J ≤ 9223372036854775807 by have h1 := HN.out.2.2.2.2; have h2 := HS1.out.1; omega)
                              obtain ⟨HA, hHA⟩ : ∃ HA, HA = hashT t.d J bs0 := ⟨_, rfl⟩
                              obtain ⟨HE, hHE⟩ : ∃ HE, HE = hashT t.d i bs1 := ⟨_, rfl⟩
                              have lHA := hide (show HA.length = 32 by rw [hHA]; exact hashT_len _ _ _)
                              have lHE := hide (show HE.length = 32 by rw [hHE]; exact hashT_len _ _ _)
                              have EJ := hide (⟨hHA.symm, hHE.symm⟩ : hashT t.d J bs0 = HA ∧ hashT t.d i bs1 = HE)
                              obtain ⟨E3, hE3⟩ : ∃ E3 : Bool, E3 = (HA == H) := ⟨_, rfl⟩
                              obtain ⟨E4, hE4⟩ : ∃ E4 : Bool, E4 = (HE == H) := ⟨_, rfl⟩
                              have HQ := hide (⟨fun w => by rw [hE3]; exact eqlHash_run HA H lHA.out HHL.out w, fun w => by rw [hE4]; exact eqlHash_run HE H lHE.out HHL.out w⟩ : (∀ w, (eqlHash (.agg (bcs HA).toArray) (.agg (bcs H).toArray)).run Try.prog w = .ok (.bool E3) w) ∧ (∀ w, (eqlHash (.agg (bcs HE).toArray) (.agg (bcs H).toArray)).run Try.prog w = .ok (.bool E4) w))
                              clear hHA hHE hE3 hE4 hJ
                              as_aux_lemma =>
                                go_wp2_with fail
                                refine wp_region_held_drew (S := fun w' => Below wz5.heap.size wz5 w') (by kernel_rfl) (by exact (Below.refl _ _).drew) (fun hSY0 => ?_)
                                obtain ⟨wz5d, hwY⟩ : ∃ x, x = wz5.drew := ⟨_, rfl⟩
                                rw [← hwY] at hSY0 ⊢
                                clear hwY
                                (refine wpAnyH_take (i := 0) (oi := { dst := Option.some 132, op := Go.Op.load 65 (Go.Operand.tmp 3), type := 65, pos := "law.go:124", after := #[], guard := Option.none }) (v := ?_) rfl (by kernel_rfl) (by kernel_rfl) (by kernel_rfl) (fun _ _ _ h => h) (Or.inl ⟨by rfl, fun w' hSw => ?_⟩) hSY0 ?_; rotate_left; focus (have hl := loadTx_run w' p0 0 t (range_under TT.out hSw); go_simp; try with_reducible rfl))
                                simp only [Act.put, List.setIfInBounds_toArray, List.set_cons_zero, List.set_cons_succ]
                                (refine wpAnyH_take (i := 1) (oi := { dst := Option.some 133, op := Go.Op.move (Go.Operand.tmp 1), type := 3, pos := "law.go:124", after := #[], guard := Option.none }) (v := ?_) rfl (by kernel_rfl) (by kernel_rfl) (by kernel_rfl) (fun _ _ _ h => h) (Or.inl ⟨by rfl, fun w' hSw => ?_⟩) hSY0 ?_; rotate_left; focus (go_simp; try with_reducible rfl))
                                simp only [Act.put, List.setIfInBounds_toArray, List.set_cons_zero, List.set_cons_succ]
                                (refine wpAnyH_take (i := 2) (oi := { dst := Option.some 134, op := Go.Op.binOp Go.BinOp.add 3 (Go.Operand.tmp 133) (Go.Operand.const (Go.Value.int Go.IntKind.i64 1)) 3, type := 3, pos := "law.go:124", after := #[{ on := 1, ground := Go.Ground.data }], guard := Option.none }) (v := ?_) rfl (by kernel_rfl) (by kernel_rfl) (by kernel_rfl) (fun _ _ _ h => h) (Or.inl ⟨by rfl, fun w' hSw => ?_⟩) hSY0 ?_; rotate_left; focus (go_simp; try with_reducible rfl))
                                simp only [Act.put, List.setIfInBounds_toArray, List.set_cons_zero, List.set_cons_succ]
                                (refine wpAnyH_take (i := 3) (oi := { dst := Option.some 135, op := Go.Op.move (Go.Operand.tmp 7), type := 22, pos := "law.go:124", after := #[], guard := Option.none }) (v := ?_) rfl (by kernel_rfl) (by kernel_rfl) (by kernel_rfl) (fun _ _ _ h => h) (Or.inl ⟨by rfl, fun w' hSw => ?_⟩) hSY0 ?_; rotate_left; focus (go_simp; try with_reducible rfl))
                                simp only [Act.put, List.setIfInBounds_toArray, List.set_cons_zero, List.set_cons_succ]
                                (refine wpAnyH_take (i := 5) (oi := { dst := Option.some 137, op := Go.Op.load 44 (Go.Operand.tmp 9), type := 44, pos := "law.go:124", after := #[], guard := Option.none }) (v := ?_) rfl (by kernel_rfl) (by kernel_rfl) (by kernel_rfl) (fun _ _ _ h => h) (Or.inl ⟨by rfl, fun w' hSw => ?_⟩) hSY0 ?_; rotate_left; focus (have hl : (loadHash ⟨p9, 0, none⟩).run Try.prog w' = .ok (.agg (bcs H).toArray) w' := loadHash_run w' p9 0 H (range_under TH.out hSw) HHL.out; go_simp; try with_reducible rfl))
                                simp only [Act.put, List.setIfInBounds_toArray, List.set_cons_zero, List.set_cons_succ]
                                (refine wpAnyH_take (i := 7) (oi := { dst := Option.some 139, op := Go.Op.load 65 (Go.Operand.tmp 3), type := 65, pos := "law.go:124", after := #[], guard := Option.none }) (v := ?_) rfl (by kernel_rfl) (by kernel_rfl) (by kernel_rfl) (fun _ _ _ h => h) (Or.inl ⟨by rfl, fun w' hSw => ?_⟩) hSY0 ?_; rotate_left; focus (have hl := loadTx_run w' p0 0 t (range_under TT.out hSw); go_simp; try with_reducible rfl))
                                simp only [Act.put, List.setIfInBounds_toArray, List.set_cons_zero, List.set_cons_succ]
                                (refine wpAnyH_take (i := 8) (oi := { dst := Option.some 140, op := Go.Op.move (Go.Operand.tmp 1), type := 3, pos := "law.go:124", after := #[], guard := Option.none }) (v := ?_) rfl (by kernel_rfl) (by kernel_rfl) (by kernel_rfl) (fun _ _ _ h => h) (Or.inl ⟨by rfl, fun w' hSw => ?_⟩) hSY0 ?_; rotate_left; focus (go_simp; try with_reducible rfl))
                                simp only [Act.put, List.setIfInBounds_toArray, List.set_cons_zero, List.set_cons_succ]
                                as_aux_lemma =>
                                  (refine wpAnyH_take (i := 9) (oi := { dst := Option.some 141, op := Go.Op.binOp Go.BinOp.add 3 (Go.Operand.tmp 140) (Go.Operand.const (Go.Value.int Go.IntKind.i64 1)) 3, type := 3, pos := "law.go:124", after := #[{ on := 8, ground := Go.Ground.data }], guard := Option.none }) (v := ?_) rfl (by kernel_rfl) (by kernel_rfl) (by kernel_rfl) (fun _ _ _ h => h) (Or.inl ⟨by rfl, fun w' hSw => ?_⟩) hSY0 ?_; rotate_left; focus (go_simp; try with_reducible rfl))
                                  simp only [Act.put, List.setIfInBounds_toArray, List.set_cons_zero, List.set_cons_succ]
                                  (refine wpAnyH_take (i := 10) (oi := { dst := Option.some 142, op := Go.Op.move (Go.Operand.tmp 7), type := 22, pos := "law.go:124", after := #[], guard := Option.none }) (v := ?_) rfl (by kernel_rfl) (by kernel_rfl) (by kernel_rfl) (fun _ _ _ h => h) (Or.inl ⟨by rfl, fun w' hSw => ?_⟩) hSY0 ?_; rotate_left; focus (go_simp; try with_reducible rfl))
                                  simp only [Act.put, List.setIfInBounds_toArray, List.set_cons_zero, List.set_cons_succ]
                                  (refine wpAnyH_take (i := 12) (oi := { dst := Option.some 144, op := Go.Op.load 44 (Go.Operand.tmp 14), type := 44, pos := "law.go:124", after := #[], guard := Option.none }) (v := ?_) rfl (by kernel_rfl) (by kernel_rfl) (by kernel_rfl) (fun _ _ _ h => h) (Or.inl ⟨by rfl, fun w' hSw => ?_⟩) hSY0 ?_; rotate_left; focus (have hl : (loadHash ⟨pz, 0, none⟩).run Try.prog w' = .ok (.agg (bcs H).toArray) w' := loadHash_run w' pz 0 H (range_under TZ.out hSw) HHL.out; go_simp; try with_reducible rfl))
                                  simp only [Act.put, List.setIfInBounds_toArray, List.set_cons_zero, List.set_cons_succ]
                                  refine wpAnyH_ready (rs := [4]) (by kernel_rfl) (by simp) ?_
                                  refine AllReadyH.cons rfl (fun K hK => ?_) AllReadyH.nil
                                  go_simp
                                  go_wp2_with (go_at_call 56; refine (THash_any wz5d t J A0 n0 c0 bs0 (HTF.out.below hSY0) FA.out.small (HLB.out.below hSY0) HC.out (by have := HN.out.1; omega) HJ.out.1 HJ.out.2).mono ?_; rintro e wz6 ⟨rfl, bwz6⟩; rw [EJ.out.1])
                                  refine hK.out _ _ (Below.then_ hSY0 bwz6) (fun hSY1 => ?_)
                                  clear hK K
                                  (refine wpAnyH_take (i := 6) (oi := { dst := Option.some 138, op := Go.Op.binOp Go.BinOp.eql 44 (Go.Operand.tmp 136) (Go.Operand.tmp 137) 44, type := 4, pos := "law.go:124", after := #[{ on := 4, ground := Go.Ground.data }, { on := 5, ground := Go.Ground.data }], guard := Option.none }) (v := ?_) rfl (by kernel_rfl) (by kernel_rfl) (by kernel_rfl) (fun _ _ _ h => h) (Or.inl ⟨by rfl, fun w' hSw => ?_⟩) hSY1 ?_; rotate_left; focus (have hh := HQ.out.1; go_simp; try with_reducible rfl))
                                  simp only [Act.put, List.setIfInBounds_toArray, List.set_cons_zero, List.set_cons_succ]
                                  refine wpAnyH_ready (rs := [11]) (by kernel_rfl) (by simp) ?_
                                  refine AllReadyH.cons rfl (fun K hK => ?_) AllReadyH.nil
                                  go_simp
                                  go_wp2_with (go_at_call 57; refine (refTHash_any wz6 t J A0 n0 c0 bs0 (HTF.out.below hSY1) FA.out.small (HLB.out.below hSY1) HC.out (by have := HN.out.1; omega) HJ.out.1 HJ.out.2).mono ?_; rintro e wz7 ⟨rfl, bwz7⟩; rw [EJ.out.1])
                                  refine hK.out _ _ (Below.then_ hSY1 bwz7) (fun hSY2 => ?_)
                                  clear hK K
                                  (refine wpAnyH_take (i := 13) (oi := { dst := Option.some 145, op := Go.Op.binOp Go.BinOp.eql 44 (Go.Operand.tmp 143) (Go.Operand.tmp 144) 44, type := 4, pos := "law.go:124", after := #[{ on := 11, ground := Go.Ground.data }, { on := 12, ground := Go.Ground.data }], guard := Option.none }) (v := ?_) rfl (by kernel_rfl) (by kernel_rfl) (by kernel_rfl) (fun _ _ _ h => h) (Or.inl ⟨by rfl, fun w' hSw => ?_⟩) hSY2 ?_; rotate_left; focus (have hh := HQ.out.1; go_simp; try with_reducible rfl))
                                  simp only [Act.put, List.setIfInBounds_toArray, List.set_cons_zero, List.set_cons_succ]
                                  as_aux_lemma =>
                                    (refine wpAnyH_take (i := 14) (oi := { dst := Option.some 146, op := Go.Op.binOp Go.BinOp.eql 4 (Go.Operand.tmp 138) (Go.Operand.tmp 145) 4, type := 4, pos := "law.go:124", after := #[{ on := 6, ground := Go.Ground.data }, { on := 13, ground := Go.Ground.data }], guard := Option.none }) (v := ?_) rfl (by kernel_rfl) (by kernel_rfl) (by kernel_rfl) (fun _ _ _ h => h) (Or.inl ⟨by rfl, fun w' hSw => ?_⟩) hSY2 ?_; rotate_left; focus (go_simp; try with_reducible rfl))
                                    simp only [Act.put, List.setIfInBounds_toArray, List.set_cons_zero, List.set_cons_succ]
                                    (refine wpAnyH_take (i := 15) (oi := { dst := Option.some 147, op := Go.Op.move (Go.Operand.tmp 146), type := 4, pos := "law.go:124", after := #[{ on := 14, ground := Go.Ground.data }, { on := 11, ground := Go.Ground.chain }], guard := Option.none }) (v := ?_) rfl (by kernel_rfl) (by kernel_rfl) (by kernel_rfl) (fun _ _ _ h => h) (Or.inl ⟨by rfl, fun w' hSw => ?_⟩) hSY2 ?_; rotate_left; focus (go_simp; try with_reducible rfl))
                                    simp only [Act.put, List.setIfInBounds_toArray, List.set_cons_zero, List.set_cons_succ]
                                    (refine wpAnyH_take (i := 16) (oi := { dst := Option.some 148, op := Go.Op.load 65 (Go.Operand.tmp 3), type := 65, pos := "law.go:124", after := #[{ on := 15, ground := Go.Ground.guard }], guard := Option.some (15, Bool.true) }) (v := ?_) rfl (by kernel_rfl) (by kernel_rfl) (by kernel_rfl) (fun _ _ _ h => h) (Or.inl ⟨by rfl, fun w' hSw => ?_⟩) hSY2 ?_; rotate_left; focus (have hl := loadTx_run w' p0 0 t (range_under TT.out hSw); go_simp; try with_reducible rfl))
                                    simp only [Act.put, List.setIfInBounds_toArray, List.set_cons_zero, List.set_cons_succ]
                                    (refine wpAnyH_take (i := 17) (oi := { dst := Option.some 149, op := Go.Op.move (Go.Operand.tmp 1), type := 3, pos := "law.go:124", after := #[{ on := 15, ground := Go.Ground.guard }], guard := Option.some (15, Bool.true) }) (v := ?_) rfl (by kernel_rfl) (by kernel_rfl) (by kernel_rfl) (fun _ _ _ h => h) (Or.inl ⟨by rfl, fun w' hSw => ?_⟩) hSY2 ?_; rotate_left; focus (go_simp; try with_reducible rfl))
                                    simp only [Act.put, List.setIfInBounds_toArray, List.set_cons_zero, List.set_cons_succ]
                                    (refine wpAnyH_take (i := 18) (oi := { dst := Option.some 150, op := Go.Op.move (Go.Operand.tmp 8), type := 22, pos := "law.go:124", after := #[{ on := 15, ground := Go.Ground.guard }], guard := Option.some (15, Bool.true) }) (v := ?_) rfl (by kernel_rfl) (by kernel_rfl) (by kernel_rfl) (fun _ _ _ h => h) (Or.inl ⟨by rfl, fun w' hSw => ?_⟩) hSY2 ?_; rotate_left; focus (go_simp; try with_reducible rfl))
                                    simp only [Act.put, List.setIfInBounds_toArray, List.set_cons_zero, List.set_cons_succ]
                                    (refine wpAnyH_take (i := 20) (oi := { dst := Option.some 152, op := Go.Op.load 44 (Go.Operand.tmp 9), type := 44, pos := "law.go:124", after := #[{ on := 15, ground := Go.Ground.guard }], guard := Option.some (15, Bool.true) }) (v := ?_) rfl (by kernel_rfl) (by kernel_rfl) (by kernel_rfl) (fun _ _ _ h => h) (Or.inl ⟨by rfl, fun w' hSw => ?_⟩) hSY2 ?_; rotate_left; focus (have hl : (loadHash ⟨p9, 0, none⟩).run Try.prog w' = .ok (.agg (bcs H).toArray) w' := loadHash_run w' p9 0 H (range_under TH.out hSw) HHL.out; go_simp; try with_reducible rfl))
                                    simp only [Act.put, List.setIfInBounds_toArray, List.set_cons_zero, List.set_cons_succ]
                                    (refine wpAnyH_take (i := 22) (oi := { dst := Option.some 154, op := Go.Op.load 65 (Go.Operand.tmp 3), type := 65, pos := "law.go:124", after := #[{ on := 15, ground := Go.Ground.guard }], guard := Option.some (15, Bool.true) }) (v := ?_) rfl (by kernel_rfl) (by kernel_rfl) (by kernel_rfl) (fun _ _ _ h => h) (Or.inl ⟨by rfl, fun w' hSw => ?_⟩) hSY2 ?_; rotate_left; focus (have hl := loadTx_run w' p0 0 t (range_under TT.out hSw); go_simp; try with_reducible rfl))
                                    simp only [Act.put, List.setIfInBounds_toArray, List.set_cons_zero, List.set_cons_succ]
                                    as_aux_lemma =>
                                      (refine wpAnyH_take (i := 23) (oi := { dst := Option.some 155, op := Go.Op.move (Go.Operand.tmp 1), type := 3, pos := "law.go:124", after := #[{ on := 15, ground := Go.Ground.guard }], guard := Option.some (15, Bool.true) }) (v := ?_) rfl (by kernel_rfl) (by kernel_rfl) (by kernel_rfl) (fun _ _ _ h => h) (Or.inl ⟨by rfl, fun w' hSw => ?_⟩) hSY2 ?_; rotate_left; focus (go_simp; try with_reducible rfl))
                                      simp only [Act.put, List.setIfInBounds_toArray, List.set_cons_zero, List.set_cons_succ]
                                      (refine wpAnyH_take (i := 24) (oi := { dst := Option.some 156, op := Go.Op.move (Go.Operand.tmp 8), type := 22, pos := "law.go:124", after := #[{ on := 15, ground := Go.Ground.guard }], guard := Option.some (15, Bool.true) }) (v := ?_) rfl (by kernel_rfl) (by kernel_rfl) (by kernel_rfl) (fun _ _ _ h => h) (Or.inl ⟨by rfl, fun w' hSw => ?_⟩) hSY2 ?_; rotate_left; focus (go_simp; try with_reducible rfl))
                                      simp only [Act.put, List.setIfInBounds_toArray, List.set_cons_zero, List.set_cons_succ]
                                      (refine wpAnyH_take (i := 26) (oi := { dst := Option.some 158, op := Go.Op.load 44 (Go.Operand.tmp 14), type := 44, pos := "law.go:124", after := #[{ on := 15, ground := Go.Ground.guard }], guard := Option.some (15, Bool.true) }) (v := ?_) rfl (by kernel_rfl) (by kernel_rfl) (by kernel_rfl) (fun _ _ _ h => h) (Or.inl ⟨by rfl, fun w' hSw => ?_⟩) hSY2 ?_; rotate_left; focus (have hl : (loadHash ⟨pz, 0, none⟩).run Try.prog w' = .ok (.agg (bcs H).toArray) w' := loadHash_run w' pz 0 H (range_under TZ.out hSw) HHL.out; go_simp; try with_reducible rfl))
                                      simp only [Act.put, List.setIfInBounds_toArray, List.set_cons_zero, List.set_cons_succ]
                                      refine wpAnyH_ready (rs := [19]) (by kernel_rfl) (by simp) ?_
                                      refine AllReadyH.cons rfl (fun K hK => ?_) AllReadyH.nil
                                      go_simp
                                      go_wp2_with (go_at_call 56; refine (THash_any wz7 t i A1 n1 c1 bs1 (HTF.out.below hSY2) FA.out.small (HLO.out.below hSY2) HD.out (by have := HN.out.2.1; omega) hi0 hi1).mono ?_; rintro e wz8 ⟨rfl, bwz8⟩; rw [EJ.out.2])
                                      refine hK.out _ _ (Below.then_ hSY2 bwz8) (fun hSY3 => ?_)
                                      clear hK K
                                      (refine wpAnyH_take (i := 21) (oi := { dst := Option.some 153, op := Go.Op.binOp Go.BinOp.eql 44 (Go.Operand.tmp 151) (Go.Operand.tmp 152) 44, type := 4, pos := "law.go:124", after := #[{ on := 19, ground := Go.Ground.data }, { on := 20, ground := Go.Ground.data }, { on := 15, ground := Go.Ground.guard }], guard := Option.some (15, Bool.true) }) (v := ?_) rfl (by kernel_rfl) (by kernel_rfl) (by kernel_rfl) (fun _ _ _ h => h) (Or.inl ⟨by rfl, fun w' hSw => ?_⟩) hSY3 ?_; rotate_left; focus (have hh := HQ.out.2; go_simp; try with_reducible rfl))
                                      simp only [Act.put, List.setIfInBounds_toArray, List.set_cons_zero, List.set_cons_succ]
                                      refine wpAnyH_ready (rs := [25]) (by kernel_rfl) (by simp) ?_
                                      refine AllReadyH.cons rfl (fun K hK => ?_) AllReadyH.nil
                                      go_simp
                                      go_wp2_with (go_at_call 57; refine (refTHash_any wz8 t i A1 n1 c1 bs1 (HTF.out.below hSY3) FA.out.small (HLO.out.below hSY3) HD.out (by have := HN.out.2.1; omega) hi0 hi1).mono ?_; rintro e wz9 ⟨rfl, bwz9⟩; rw [EJ.out.2])
                                      refine hK.out _ _ (Below.then_ hSY3 bwz9) (fun hSY4 => ?_)
                                      clear hK K
                                      (refine wpAnyH_take (i := 27) (oi := { dst := Option.some 159, op := Go.Op.binOp Go.BinOp.eql 44 (Go.Operand.tmp 157) (Go.Operand.tmp 158) 44, type := 4, pos := "law.go:124", after := #[{ on := 25, ground := Go.Ground.data }, { on := 26, ground := Go.Ground.data }, { on := 15, ground := Go.Ground.guard }], guard := Option.some (15, Bool.true) }) (v := ?_) rfl (by kernel_rfl) (by kernel_rfl) (by kernel_rfl) (fun _ _ _ h => h) (Or.inl ⟨by rfl, fun w' hSw => ?_⟩) hSY4 ?_; rotate_left; focus (have hh := HQ.out.2; go_simp; try with_reducible rfl))
                                      simp only [Act.put, List.setIfInBounds_toArray, List.set_cons_zero, List.set_cons_succ]
                                      as_aux_lemma =>
                                        (refine wpAnyH_take (i := 28) (oi := { dst := Option.some 160, op := Go.Op.binOp Go.BinOp.eql 4 (Go.Operand.tmp 153) (Go.Operand.tmp 159) 4, type := 4, pos := "law.go:124", after := #[{ on := 21, ground := Go.Ground.data }, { on := 27, ground := Go.Ground.data }, { on := 15, ground := Go.Ground.guard }], guard := Option.some (15, Bool.true) }) (v := ?_) rfl (by kernel_rfl) (by kernel_rfl) (by kernel_rfl) (fun _ _ _ h => h) (Or.inl ⟨by rfl, fun w' hSw => ?_⟩) hSY4 ?_; rotate_left; focus (go_simp; try with_reducible rfl))
                                        simp only [Act.put, List.setIfInBounds_toArray, List.set_cons_zero, List.set_cons_succ]
                                        (refine wpAnyH_take (i := 29) (oi := { dst := Option.some 161, op := Go.Op.pick (Go.Operand.tmp 147) (Go.Operand.tmp 160) (Go.Operand.const (Go.Value.bool Bool.false)), type := 4, pos := "law.go:124", after := #[{ on := 15, ground := Go.Ground.data }, { on := 28, ground := Go.Ground.data }], guard := Option.none }) (v := ?_) rfl (by kernel_rfl) (by kernel_rfl) (by kernel_rfl) (fun _ _ _ h => h) (Or.inl ⟨by rfl, fun w' hSw => ?_⟩) hSY4 ?_; rotate_left; focus (go_simp; try with_reducible rfl))
                                        simp only [Act.put, List.setIfInBounds_toArray, List.set_cons_zero, List.set_cons_succ]
                                        (refine wpAnyH_take (i := 30) (oi := { dst := Option.some 6, op := Go.Op.assign (Go.Operand.tmp 161), type := 4, pos := "law.go:124", after := #[{ on := 29, ground := Go.Ground.data }, { on := 25, ground := Go.Ground.chain }, { on := 0, ground := Go.Ground.phase }, { on := 1, ground := Go.Ground.phase }, { on := 2, ground := Go.Ground.phase }, { on := 3, ground := Go.Ground.phase }, { on := 4, ground := Go.Ground.phase }, { on := 5, ground := Go.Ground.phase }, { on := 6, ground := Go.Ground.phase }, { on := 7, ground := Go.Ground.phase }, { on := 8, ground := Go.Ground.phase }, { on := 9, ground := Go.Ground.phase }, { on := 10, ground := Go.Ground.phase }, { on := 11, ground := Go.Ground.phase }, { on := 12, ground := Go.Ground.phase }, { on := 13, ground := Go.Ground.phase }, { on := 14, ground := Go.Ground.phase }, { on := 15, ground := Go.Ground.phase }, { on := 16, ground := Go.Ground.phase }, { on := 17, ground := Go.Ground.phase }, { on := 18, ground := Go.Ground.phase }, { on := 19, ground := Go.Ground.phase }, { on := 20, ground := Go.Ground.phase }, { on := 21, ground := Go.Ground.phase }, { on := 22, ground := Go.Ground.phase }, { on := 23, ground := Go.Ground.phase }, { on := 24, ground := Go.Ground.phase }, { on := 25, ground := Go.Ground.phase }, { on := 26, ground := Go.Ground.phase }, { on := 27, ground := Go.Ground.phase }, { on := 28, ground := Go.Ground.phase }, { on := 29, ground := Go.Ground.phase }], guard := Option.none }) (v := ?_) rfl (by kernel_rfl) (by kernel_rfl) (by kernel_rfl) (fun _ _ _ h => h) (Or.inl ⟨by rfl, fun w' hSw => ?_⟩) hSY4 ?_; rotate_left; focus (go_simp; try with_reducible rfl))
                                        simp only [Act.put, List.setIfInBounds_toArray, List.set_cons_zero, List.set_cons_succ]
                                        refine wpAnyH_done (by kernel_rfl) ?_ _
                                        go_wp2_with fail
                                        go_ret
                                        exact ⟨by simp, Below.then_ HWH.out hSY4⟩
end Go.Proofs.Ytfloclamdpageaa
