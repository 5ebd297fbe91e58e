import Derived.Test.YtbpmcnfmgaolnaaBlockPairsRP
/-
  BlockPairs: the law's walk.
-/
namespace Go.Proofs.Ytbpmcnfmgaolnaa
open Go.RowKit

theorem hash_store2 {w : World} {ops : Array Oper} {rest : List Oper} {op : Oper} {a : Act} {Q : Exit → Act → World → Prop} (hgd : op.guard = none) (x y : Operand) (ho : op.op = .store 31 x y)
    (g : Nat) (cs : List Value) (d : List Int) (hc : cs.length = 32) (hd : d.length = 32) (hx : a.eval x = .pointer (some ⟨g, 0, none⟩)) (hy : a.eval y = .agg (bcs d).toArray) (hb : Blk w g 31 cs)
    (h : ∀ w', Only (fun i => i = g) w w' → Blk w' g 31 (bcs d) → wpList Try.prog ops Q rest (a.put op.dst undef) w') : wpList Try.prog ops Q (op :: rest) a w := by
  refine wpList_store_blk hgd 31 x y ho g 0 31 cs (bcs d) hx hy hb (by rw [bcs_length, hd, hc]; exact Nat.le_refl _) (by rw [bcs_length, hd]; exact isHash32) (bcs_one d) ?_
  intro w' o z b
  rw [lay_all _ _ (by rw [bcs_length, hd, hc])] at b
  exact h w' o b
attribute [local go_sem ↓] loadHash_fold eqlHash_fold neqHash_fold mkHs1_fold mkHs2_fold
attribute [local go_sem] guardHash
set_option maxHeartbeats 2000000 in
set_option maxRecDepth 100000 in
theorem pairs_r10 {Q : Exit → Act → World → Prop} (hPan : ∀ c (a : Act) (d : Nat) v w, Q (.panic c) (a.put (some d) v) w → Q (.panic c) a w) (u1 u2 u3 u6 u7 u8 u9 u10 u11 u12 u13 u14 u15 u16 u17 u18 u19 u20 u21 u22 u23 u24 u25 u26 u27 u28 u29 u30 u31 u32 u33 u34 u35 u36 u37 u38 u39 u40 u41 u42 u43 u44 u45 u46 u47 u48 u49 u50 u51 u52 u53 u54 u55 u56 u57 u58 u59 u60 u61 u62 u63 u64 u65 u66 u67 u68 u69 u70 u71 u72 u73 u74 u75 u76 u77 u78 u79 u80 u81 u82 u83 u84 u85 u86 u87 u88 u89 u90 u91 u92 u93 u94 u95 u96 u97 u98 : Value) (w5 : World) (pb off n c p5 j : Nat) (x y : List Int) (hjn : (j : Int) < (n : Int)) (hj0 : (0 : Int) ≤ (j : Int)) (hrx : Hid (w5.rangeAt pb (off + j * 32) (bcs x))) (hry : Hid (w5.rangeAt p5 0 (bcs y))) (hx : Hid (x.length = 32 ∧ Byt x)) (hy : Hid (y.length = 32 ∧ Byt y))
    (hQ : ∀ (v7 v41 v42 v43 v44 v45 v46 v47 v40 v48 v49 : Value) (w' : World) (p6 : Nat), Below w5.heap.size w5 w' → Blk w' p6 31 (bcs (sha2 (x ++ y))) → Q .normal { tmps := List.toArray (.slice (some ⟨pb, off, none⟩) n c :: u1 :: u2 :: u3 :: .int .i64 (j : Int) :: .pointer (some ⟨p5, 0, none⟩) :: .pointer (some ⟨p6, 0, none⟩) :: v7 :: u8 :: u9 :: u10 :: u11 :: u12 :: u13 :: u14 :: u15 :: u16 :: u17 :: u18 :: u19 :: u20 :: u21 :: u22 :: u23 :: u24 :: u25 :: u26 :: u27 :: u28 :: u29 :: u30 :: u31 :: u32 :: u33 :: u34 :: u35 :: u36 :: u37 :: u38 :: u39 :: v40 :: v41 :: v42 :: v43 :: v44 :: v45 :: v46 :: v47 :: v48 :: v49 :: u50 :: u51 :: u52 :: u53 :: u54 :: u55 :: u56 :: u57 :: u58 :: u59 :: u60 :: u61 :: u62 :: u63 :: u64 :: u65 :: u66 :: u67 :: u68 :: u69 :: u70 :: u71 :: u72 :: u73 :: u74 :: u75 :: u76 :: u77 :: u78 :: u79 :: u80 :: u81 :: u82 :: u83 :: u84 :: u85 :: u86 :: u87 :: u88 :: u89 :: u90 :: u91 :: u92 :: u93 :: u94 :: u95 :: u96 :: u97 :: u98 :: []), defers := [] } w') :
    (Code.region 10 #[⟨some 41, .move (.tmp 0), 65, "law.go:169", #[], none⟩, ⟨some 42, .move (.tmp 4), 3, "law.go:169", #[], none⟩, ⟨some 43, .indexAddr 65 (.tmp 41) (.tmp 42), 0, "law.go:169", #[⟨0, .data⟩, ⟨1, .data⟩], none⟩, ⟨some 44, .load 31 (.tmp 43), 31, "law.go:169", #[⟨2, .data⟩], none⟩, ⟨some 45, .load 31 (.tmp 5), 31, "law.go:169", #[], none⟩, ⟨some 46, .buildSlice 65 2 #[(0, .tmp 44), (1, .tmp 45)], 65, "law.go:169", #[⟨3, .data⟩, ⟨4, .data⟩], none⟩, ⟨some 47, .call { callee := .value (.func 29), args := #[.tmp 46], argTypes := #[65] }, 66, "law.go:169", #[⟨5, .data⟩], none⟩, ⟨some 40, .move (.tmp 47), 66, "law.go:169", #[⟨6, .data⟩], none⟩, ⟨some 48, .extract (.tmp 40) 0, 31, "law.go:169", #[⟨7, .data⟩], none⟩, ⟨some 49, .extract (.tmp 40) 1, 4, "law.go:169", #[⟨7, .data⟩, ⟨11, .gcOnly .lateStores⟩], none⟩, ⟨some 6, .alloc 31, 0, "law.go:169", #[], none⟩, ⟨none, .store 31 (.tmp 6) (.tmp 48), 0, "law.go:169", #[⟨10, .data⟩, ⟨8, .data⟩, ⟨6, .chain⟩, ⟨0, .phase⟩, ⟨1, .phase⟩, ⟨2, .phase⟩, ⟨3, .phase⟩, ⟨4, .phase⟩, ⟨5, .phase⟩, ⟨6, .phase⟩, ⟨7, .phase⟩, ⟨8, .phase⟩, { on := 9, ground := Go.Ground.textOnly Go.Departure.lateStores }, ⟨10, .phase⟩], none⟩, ⟨some 7, .assign (.tmp 49), 4, "law.go:169", #[⟨9, .data⟩, ⟨11, .chain⟩, ⟨0, .phase⟩, ⟨1, .phase⟩, ⟨2, .phase⟩, ⟨3, .phase⟩, ⟨4, .phase⟩, ⟨5, .phase⟩, ⟨6, .phase⟩, ⟨7, .phase⟩, ⟨8, .phase⟩, ⟨9, .phase⟩, ⟨10, .phase⟩, ⟨11, .phase⟩], none⟩] true).wp Try.prog Q { tmps := List.toArray (.slice (some ⟨pb, off, none⟩) n c :: u1 :: u2 :: u3 :: .int .i64 (j : Int) :: .pointer (some ⟨p5, 0, none⟩) :: u6 :: u7 :: u8 :: u9 :: u10 :: u11 :: u12 :: u13 :: u14 :: u15 :: u16 :: u17 :: u18 :: u19 :: u20 :: u21 :: u22 :: u23 :: u24 :: u25 :: u26 :: u27 :: u28 :: u29 :: u30 :: u31 :: u32 :: u33 :: u34 :: u35 :: u36 :: u37 :: u38 :: u39 :: u40 :: u41 :: u42 :: u43 :: u44 :: u45 :: u46 :: u47 :: u48 :: u49 :: u50 :: u51 :: u52 :: u53 :: u54 :: u55 :: u56 :: u57 :: u58 :: u59 :: u60 :: u61 :: u62 :: u63 :: u64 :: u65 :: u66 :: u67 :: u68 :: u69 :: u70 :: u71 :: u72 :: u73 :: u74 :: u75 :: u76 :: u77 :: u78 :: u79 :: u80 :: u81 :: u82 :: u83 :: u84 :: u85 :: u86 :: u87 :: u88 :: u89 :: u90 :: u91 :: u92 :: u93 :: u94 :: u95 :: u96 :: u97 :: u98 :: []), defers := [] } w5 := by
  refine wp_region_held_drew (S := fun w' => Below w5.heap.size w5 w') (by kernel_rfl) ((Below.refl _ w5).drew) (fun hSA0 => ?_)
  obtain ⟨w5d, hwA⟩ : ∃ x, x = w5.drew := ⟨_, rfl⟩
  have Bw5d := hide (show Below w5.heap.size w5 w5d by rw [hwA]; exact (Below.refl _ _).drew)
  rw [← hwA] at hSA0 ⊢
  clear hwA
  (refine tk (i := 0) (oi := ⟨some 41, .move (.tmp 0), 65, "law.go:169", #[], none⟩) (v := ?_) hSA0 (fun w' hSw => ?_) ?_ (hQ := fun c a w h => hPan c a _ _ w h); rotate_left; focus (go_simp; try with_reducible rfl))
  simp only [Act.put, sT, sZ, sS]
  (refine tk (i := 1) (oi := ⟨some 42, .move (.tmp 4), 3, "law.go:169", #[], none⟩) (v := ?_) hSA0 (fun w' hSw => ?_) ?_ (hQ := fun c a w h => hPan c a _ _ w h); rotate_left; focus (go_simp; try with_reducible rfl))
  simp only [Act.put, sT, sZ, sS]
  (refine tk (i := 2) (oi := ⟨some 43, .indexAddr 65 (.tmp 41) (.tmp 42), 0, "law.go:169", #[⟨0, .data⟩, ⟨1, .data⟩], none⟩) (v := ?_) hSA0 (fun w' hSw => ?_) ?_ (hQ := fun c a w h => hPan c a _ _ w h); rotate_left; focus (go_simp; try with_reducible rfl))
  simp only [Act.put, sT, sZ, sS]
  (refine tk (i := 3) (oi := ⟨some 44, .load 31 (.tmp 43), 31, "law.go:169", #[⟨2, .data⟩], none⟩) (v := ?_) hSA0 (fun w' hSw => ?_) ?_ (hQ := fun c a w h => hPan c a _ _ w h); rotate_left; focus (have z1 := loadHashB_run w' pb (off + j * 32) x (range_under hrx.out hSw) hx.out.1; go_simp; try with_reducible rfl))
  simp only [Act.put, sT, sZ, sS]
  (refine tk (i := 4) (oi := ⟨some 45, .load 31 (.tmp 5), 31, "law.go:169", #[], none⟩) (v := ?_) hSA0 (fun w' hSw => ?_) ?_ (hQ := fun c a w h => hPan c a _ _ w h); rotate_left; focus (have z1 := loadHashB_run w' p5 0 y (range_under hry.out hSw) hy.out.1; go_simp; try with_reducible rfl))
  simp only [Act.put, sT, sZ, sS]
  refine wpAnyH_ready (rs := [5, 10]) (by kernel_rfl) (by simp) ?_
  refine AllReadyH.cons rfl (fun K hK => ?_) (AllReadyH.cons rfl (fun K hK => ?_) AllReadyH.nil)
  · have hmk := mkHs2_run w5d x y hx.out.1 hy.out.1
    go_simp
    clear hmk
    have Nw5dm := hide (Blk.new w5d 31 (bcs x ++ bcs y))
    have Bw5dm := hide (below_alloc Bw5d.out (.cells (bcs x ++ bcs y).toArray 31))
    obtain ⟨gm, hgm⟩ : ∃ z, z = w5d.heap.size := ⟨_, rfl⟩
    obtain ⟨w5dm, hv⟩ : ∃ z, z = w5d.alloc (.cells (bcs x ++ bcs y).toArray 31) := ⟨_, rfl⟩
    rw [← hgm, ← hv] at Nw5dm
    rw [← hv] at Bw5dm ⊢
    rw [← hgm]
    clear hv hgm
    refine hK.out _ _ (by first | exact B9.out | assumption) (fun hSA1 => ?_)
    clear hK K
    refine wpAnyH_ready (rs := [6, 10]) (by kernel_rfl) (by simp) ?_
    refine AllReadyH.cons rfl (fun K hK => ?_) (AllReadyH.cons rfl (fun K hK => ?_) AllReadyH.nil)
    · go_simp
      go_wp2_with (go_at_call 29; refine (Root_any w5dm (some ⟨gm, 0, none⟩) 2 2 [x, y] (two_in Nw5dm.out hx.out hy.out) (by decide) (Nat.le_refl _)).mono ?_; rintro e w5dmc ⟨rfl, b9⟩)
      rw [rootL_pair x y]
      have Bw5dmc := hide (Below.then_ Bw5dm.out b9)
      clear b9
      obtain ⟨H, hH⟩ : ∃ s, s = sha2 (x ++ y) := ⟨_, rfl⟩
      have HL := hide (show H.length = 32 by rw [hH]; exact sha2_len _)
      rw [← hH]
      have HH := hide hH
      obtain ⟨sr, hsr⟩ : ∃ s, s = (rootL [x, y]).2 := ⟨_, rfl⟩
      rw [← hsr]
      clear hsr hH
      refine hK.out _ _ (by first | exact B9.out | assumption) (fun hSA2 => ?_)
      clear hK K
      (refine tk (i := 7) (oi := ⟨some 40, .move (.tmp 47), 66, "law.go:169", #[⟨6, .data⟩], none⟩) (v := ?_) hSA2 (fun w' hSw => ?_) ?_ (hQ := fun c a w h => hPan c a _ _ w h); rotate_left; focus (go_simp; try with_reducible rfl))
      simp only [Act.put, sT, sZ, sS]
      (refine tk (i := 8) (oi := ⟨some 48, .extract (.tmp 40) 0, 31, "law.go:169", #[⟨7, .data⟩], none⟩) (v := ?_) hSA2 (fun w' hSw => ?_) ?_ (hQ := fun c a w h => hPan c a _ _ w h); rotate_left; focus (go_simp; try with_reducible rfl))
      simp only [Act.put, sT, sZ, sS]
      (refine tk (i := 9) (oi := ⟨some 49, .extract (.tmp 40) 1, 4, "law.go:169", #[⟨7, .data⟩, ⟨11, .gcOnly .lateStores⟩], none⟩) (v := ?_) hSA2 (fun w' hSw => ?_) ?_ (hQ := fun c a w h => hPan c a _ _ w h); rotate_left; focus (go_simp; try with_reducible rfl))
      simp only [Act.put, sT, sZ, sS]
      refine wpAnyH_ready (rs := [10]) (by kernel_rfl) (by simp) ?_
      refine AllReadyH.cons rfl (fun K hK => ?_) AllReadyH.nil
      refine step_alloc_agg rfl 31 rfl (bcs zero32) zeroHash_info ?_
      have KZw5dmca := hide (Blk.new w5dmc 31 (bcs zero32))
      have Bw5dmca := hide (below_alloc Bw5dmc.out (.cells (bcs zero32).toArray 31))
      obtain ⟨p6, hp6⟩ : ∃ p, p = w5dmc.heap.size := ⟨_, rfl⟩
      have P6 := hide (show w5.heap.size ≤ p6 by rw [hp6]; exact Bw5dmc.out.size)
      obtain ⟨w5dmca, hv⟩ : ∃ z, z = w5dmc.alloc (.cells (bcs zero32).toArray 31) := ⟨_, rfl⟩
      rw [← hv] at KZw5dmca Bw5dmca ⊢
      rw [← hp6] at KZw5dmca ⊢
      clear hp6 hv
      simp only [Act.put, List.setIfInBounds_toArray]
      refine hK.out _ _ (by first | exact B9.out | assumption) (fun hSA3 => ?_)
      clear hK K
      refine wpAnyH_ready (rs := [11]) (by kernel_rfl) (by simp) ?_
      refine AllReadyH.cons rfl (fun K hK => ?_) AllReadyH.nil
      refine step_store_blk rfl 31 _ _ rfl p6 0 31 (bcs zero32) (bcs H) (by rfl) (by rfl) KZw5dmca.out (by rw [bcs_length, bcs_length, HL.out]; decide) (by rw [bcs_length, HL.out]; exact isHash32) (bcs_one _) ?_
      intro w9 o9 z9 b9
      rw [lay_all _ _ (by rw [bcs_length, bcs_length, HL.out]; rfl)] at b9
      have B9 := hide (o9.under Bw5dmca.out (fun i hi => by have h9 : i = p6 := hi; have := P6.out; omega))
      simp only [Act.put]
      refine hK.out _ _ (by first | exact B9.out | assumption) (fun hSA4 => ?_)
      clear hK K
      (refine tk (i := 12) (oi := ⟨some 7, .assign (.tmp 49), 4, "law.go:169", #[⟨9, .data⟩, ⟨11, .chain⟩, ⟨0, .phase⟩, ⟨1, .phase⟩, ⟨2, .phase⟩, ⟨3, .phase⟩, ⟨4, .phase⟩, ⟨5, .phase⟩, ⟨6, .phase⟩, ⟨7, .phase⟩, ⟨8, .phase⟩, ⟨9, .phase⟩, ⟨10, .phase⟩, ⟨11, .phase⟩], none⟩) (v := ?_) hSA4 (fun w' hSw => ?_) ?_ (hQ := fun c a w h => hPan c a _ _ w h); rotate_left; focus (go_simp; try with_reducible rfl))
      simp only [Act.put]
      refine wpAnyH_done (by kernel_rfl) ?_ _
      rw [HH.out] at b9
      exact hQ _ _ _ _ _ _ _ _ _ _ _ w9 p6 B9.out b9
    · refine step_alloc_agg rfl 31 rfl (bcs zero32) zeroHash_info ?_
      have KZw5dma := hide (Blk.new w5dm 31 (bcs zero32))
      have Bw5dma := hide (below_alloc Bw5dm.out (.cells (bcs zero32).toArray 31))
      have Nw5dma := hide (Nw5dm.out.alloc (.cells (bcs zero32).toArray 31))
      obtain ⟨p6, hp6⟩ : ∃ p, p = w5dm.heap.size := ⟨_, rfl⟩
      have P6 := hide (show w5.heap.size ≤ p6 by rw [hp6]; exact Bw5dm.out.size)
      obtain ⟨w5dma, hv⟩ : ∃ z, z = w5dm.alloc (.cells (bcs zero32).toArray 31) := ⟨_, rfl⟩
      rw [← hv] at KZw5dma Bw5dma Nw5dma ⊢
      rw [← hp6] at KZw5dma ⊢
      clear hp6 hv
      simp only [Act.put, List.setIfInBounds_toArray]
      refine hK.out _ _ (by first | exact B9.out | assumption) (fun hSA2 => ?_)
      clear hK K
      refine wpAnyH_ready (rs := [6]) (by kernel_rfl) (by simp) ?_
      refine AllReadyH.cons rfl (fun K hK => ?_) AllReadyH.nil
      go_simp
      go_wp2_with (go_at_call 29; refine (Root_any w5dma (some ⟨gm, 0, none⟩) 2 2 [x, y] (two_in Nw5dma.out hx.out hy.out) (by decide) (Nat.le_refl _)).mono ?_; rintro e w5dmac ⟨rfl, b9⟩)
      rw [rootL_pair x y]
      have Bw5dmac := hide (Below.then_ Bw5dma.out b9)
      have KZw5dmac := hide (KZw5dma.out.under b9)
      clear b9
      obtain ⟨H, hH⟩ : ∃ s, s = sha2 (x ++ y) := ⟨_, rfl⟩
      have HL := hide (show H.length = 32 by rw [hH]; exact sha2_len _)
      rw [← hH]
      have HH := hide hH
      obtain ⟨sr, hsr⟩ : ∃ s, s = (rootL [x, y]).2 := ⟨_, rfl⟩
      rw [← hsr]
      clear hsr hH
      refine hK.out _ _ (by first | exact B9.out | assumption) (fun hSA3 => ?_)
      clear hK K
      (refine tk (i := 7) (oi := ⟨some 40, .move (.tmp 47), 66, "law.go:169", #[⟨6, .data⟩], none⟩) (v := ?_) hSA3 (fun w' hSw => ?_) ?_ (hQ := fun c a w h => hPan c a _ _ w h); rotate_left; focus (go_simp; try with_reducible rfl))
      simp only [Act.put, sT, sZ, sS]
      (refine tk (i := 8) (oi := ⟨some 48, .extract (.tmp 40) 0, 31, "law.go:169", #[⟨7, .data⟩], none⟩) (v := ?_) hSA3 (fun w' hSw => ?_) ?_ (hQ := fun c a w h => hPan c a _ _ w h); rotate_left; focus (go_simp; try with_reducible rfl))
      simp only [Act.put, sT, sZ, sS]
      (refine tk (i := 9) (oi := ⟨some 49, .extract (.tmp 40) 1, 4, "law.go:169", #[⟨7, .data⟩, ⟨11, .gcOnly .lateStores⟩], none⟩) (v := ?_) hSA3 (fun w' hSw => ?_) ?_ (hQ := fun c a w h => hPan c a _ _ w h); rotate_left; focus (go_simp; try with_reducible rfl))
      simp only [Act.put, sT, sZ, sS]
      refine wpAnyH_ready (rs := [11]) (by kernel_rfl) (by simp) ?_
      refine AllReadyH.cons rfl (fun K hK => ?_) AllReadyH.nil
      refine step_store_blk rfl 31 _ _ rfl p6 0 31 (bcs zero32) (bcs H) (by rfl) (by rfl) KZw5dmac.out (by rw [bcs_length, bcs_length, HL.out]; decide) (by rw [bcs_length, HL.out]; exact isHash32) (bcs_one _) ?_
      intro w9 o9 z9 b9
      rw [lay_all _ _ (by rw [bcs_length, bcs_length, HL.out]; rfl)] at b9
      have B9 := hide (o9.under Bw5dmac.out (fun i hi => by have h9 : i = p6 := hi; have := P6.out; omega))
      simp only [Act.put]
      refine hK.out _ _ (by first | exact B9.out | assumption) (fun hSA4 => ?_)
      clear hK K
      (refine tk (i := 12) (oi := ⟨some 7, .assign (.tmp 49), 4, "law.go:169", #[⟨9, .data⟩, ⟨11, .chain⟩, ⟨0, .phase⟩, ⟨1, .phase⟩, ⟨2, .phase⟩, ⟨3, .phase⟩, ⟨4, .phase⟩, ⟨5, .phase⟩, ⟨6, .phase⟩, ⟨7, .phase⟩, ⟨8, .phase⟩, ⟨9, .phase⟩, ⟨10, .phase⟩, ⟨11, .phase⟩], none⟩) (v := ?_) hSA4 (fun w' hSw => ?_) ?_ (hQ := fun c a w h => hPan c a _ _ w h); rotate_left; focus (go_simp; try with_reducible rfl))
      simp only [Act.put, List.setIfInBounds_toArray]
      refine wpAnyH_done (by kernel_rfl) ?_ _
      rw [HH.out] at b9
      exact hQ _ _ _ _ _ _ _ _ _ _ _ w9 p6 B9.out b9
  · refine step_alloc_agg rfl 31 rfl (bcs zero32) zeroHash_info ?_
    have KZw5da := hide (Blk.new w5d 31 (bcs zero32))
    have Bw5da := hide (below_alloc Bw5d.out (.cells (bcs zero32).toArray 31))
    obtain ⟨p6, hp6⟩ : ∃ p, p = w5d.heap.size := ⟨_, rfl⟩
    have P6 := hide (show w5.heap.size ≤ p6 by rw [hp6]; exact Bw5d.out.size)
    obtain ⟨w5da, hv⟩ : ∃ z, z = w5d.alloc (.cells (bcs zero32).toArray 31) := ⟨_, rfl⟩
    rw [← hv] at KZw5da Bw5da ⊢
    rw [← hp6] at KZw5da ⊢
    clear hp6 hv
    simp only [Act.put, List.setIfInBounds_toArray]
    refine hK.out _ _ (by first | exact B9.out | assumption) (fun hSA1 => ?_)
    clear hK K
    refine wpAnyH_ready (rs := [5]) (by kernel_rfl) (by simp) ?_
    refine AllReadyH.cons rfl (fun K hK => ?_) AllReadyH.nil
    have hmk := mkHs2_run w5da x y hx.out.1 hy.out.1
    go_simp
    clear hmk
    have Nw5dam := hide (Blk.new w5da 31 (bcs x ++ bcs y))
    have Bw5dam := hide (below_alloc Bw5da.out (.cells (bcs x ++ bcs y).toArray 31))
    have KZw5dam := hide (KZw5da.out.alloc (.cells (bcs x ++ bcs y).toArray 31))
    obtain ⟨gm, hgm⟩ : ∃ z, z = w5da.heap.size := ⟨_, rfl⟩
    obtain ⟨w5dam, hv⟩ : ∃ z, z = w5da.alloc (.cells (bcs x ++ bcs y).toArray 31) := ⟨_, rfl⟩
    rw [← hgm, ← hv] at Nw5dam
    rw [← hv] at Bw5dam KZw5dam ⊢
    rw [← hgm]
    clear hv hgm
    refine hK.out _ _ (by first | exact B9.out | assumption) (fun hSA2 => ?_)
    clear hK K
    refine wpAnyH_ready (rs := [6]) (by kernel_rfl) (by simp) ?_
    refine AllReadyH.cons rfl (fun K hK => ?_) AllReadyH.nil
    go_simp
    go_wp2_with (go_at_call 29; refine (Root_any w5dam (some ⟨gm, 0, none⟩) 2 2 [x, y] (two_in Nw5dam.out hx.out hy.out) (by decide) (Nat.le_refl _)).mono ?_; rintro e w5damc ⟨rfl, b9⟩)
    rw [rootL_pair x y]
    have Bw5damc := hide (Below.then_ Bw5dam.out b9)
    have KZw5damc := hide (KZw5dam.out.under b9)
    clear b9
    obtain ⟨H, hH⟩ : ∃ s, s = sha2 (x ++ y) := ⟨_, rfl⟩
    have HL := hide (show H.length = 32 by rw [hH]; exact sha2_len _)
    rw [← hH]
    have HH := hide hH
    obtain ⟨sr, hsr⟩ : ∃ s, s = (rootL [x, y]).2 := ⟨_, rfl⟩
    rw [← hsr]
    clear hsr hH
    refine hK.out _ _ (by first | exact B9.out | assumption) (fun hSA3 => ?_)
    clear hK K
    (refine tk (i := 7) (oi := ⟨some 40, .move (.tmp 47), 66, "law.go:169", #[⟨6, .data⟩], none⟩) (v := ?_) hSA3 (fun w' hSw => ?_) ?_ (hQ := fun c a w h => hPan c a _ _ w h); rotate_left; focus (go_simp; try with_reducible rfl))
    simp only [Act.put, sT, sZ, sS]
    (refine tk (i := 8) (oi := ⟨some 48, .extract (.tmp 40) 0, 31, "law.go:169", #[⟨7, .data⟩], none⟩) (v := ?_) hSA3 (fun w' hSw => ?_) ?_ (hQ := fun c a w h => hPan c a _ _ w h); rotate_left; focus (go_simp; try with_reducible rfl))
    simp only [Act.put, sT, sZ, sS]
    (refine tk (i := 9) (oi := ⟨some 49, .extract (.tmp 40) 1, 4, "law.go:169", #[⟨7, .data⟩, ⟨11, .gcOnly .lateStores⟩], none⟩) (v := ?_) hSA3 (fun w' hSw => ?_) ?_ (hQ := fun c a w h => hPan c a _ _ w h); rotate_left; focus (go_simp; try with_reducible rfl))
    simp only [Act.put, sT, sZ, sS]
    refine wpAnyH_ready (rs := [11]) (by kernel_rfl) (by simp) ?_
    refine AllReadyH.cons rfl (fun K hK => ?_) AllReadyH.nil
    refine step_store_blk rfl 31 _ _ rfl p6 0 31 (bcs zero32) (bcs H) (by rfl) (by rfl) KZw5damc.out (by rw [bcs_length, bcs_length, HL.out]; decide) (by rw [bcs_length, HL.out]; exact isHash32) (bcs_one _) ?_
    intro w9 o9 z9 b9
    rw [lay_all _ _ (by rw [bcs_length, bcs_length, HL.out]; rfl)] at b9
    have B9 := hide (o9.under Bw5damc.out (fun i hi => by have h9 : i = p6 := hi; have := P6.out; omega))
    simp only [Act.put]
    refine hK.out _ _ (by first | exact B9.out | assumption) (fun hSA4 => ?_)
    clear hK K
    (refine tk (i := 12) (oi := ⟨some 7, .assign (.tmp 49), 4, "law.go:169", #[⟨9, .data⟩, ⟨11, .chain⟩, ⟨0, .phase⟩, ⟨1, .phase⟩, ⟨2, .phase⟩, ⟨3, .phase⟩, ⟨4, .phase⟩, ⟨5, .phase⟩, ⟨6, .phase⟩, ⟨7, .phase⟩, ⟨8, .phase⟩, ⟨9, .phase⟩, ⟨10, .phase⟩, ⟨11, .phase⟩], none⟩) (v := ?_) hSA4 (fun w' hSw => ?_) ?_ (hQ := fun c a w h => hPan c a _ _ w h); rotate_left; focus (go_simp; try with_reducible rfl))
    simp only [Act.put, List.setIfInBounds_toArray]
    refine wpAnyH_done (by kernel_rfl) ?_ _
    rw [HH.out] at b9
    exact hQ _ _ _ _ _ _ _ _ _ _ _ w9 p6 B9.out b9
set_option maxHeartbeats 2000000 in
set_option maxRecDepth 100000 in
theorem blockpairs_any (w : World) (A : Option Addr) (n c : Nat) (l : List (List Int)) (hX : HashesIn w A n l) (hc : n ≤ c) :
    Calls Try.prog 10 #[.slice A n c] w fun e w' => e = .returned (.bool true) ∧ Below w.heap.size w w' := by
  have HX := hide hX
  have HC := hide hc
  clear hX hc
  go_enter Try.func10, Try.ntmps10
  go_wp2_with fail
  refine (blockAlive_any _).mono ?_
  rintro e w1 ⟨rfl, b1⟩
  have HB1 := hide b1
  have HX1 := hide (HX.out.below' b1)
  clear b1
  by_cases hn2 : n < 2
  · have i1 : (n : Int) < 2 := by omega
    clear hn2
    go_wp2_with fail
    go_ret
    exact ⟨rfl, HB1.out⟩
  · have i1 : ¬ (n : Int) < 2 := by omega
    by_cases hn : 60 < n
    · have i2 : (60 : Int) < (n : Int) := by omega
      clear hn2 hn
      go_wp2_with fail
      go_ret
      exact ⟨rfl, HB1.out⟩
    · have i2 : ¬ (60 : Int) < (n : Int) := by omega
      have HN := hide (show 2 ≤ n ∧ n ≤ 60 by omega)
      clear hn2 hn
      obtain ⟨pb, off, hA, hrow⟩ := HX1.out.2.2 (by have := HN.out; omega)
      subst hA
      have HR := hide hrow
      clear hrow
      have hn9 : (n : Int) ≤ 60 := by have := HN.out; omega
      have hn8 : (2 : Int) ≤ (n : Int) := by have := HN.out; omega
      go_wp2_with fail
      obtain ⟨w2, hw2⟩ : ∃ z, z = w1.alloc (.cells #[] 31) := ⟨_, rfl⟩
      have M2 := hide (show MineR 31 32 w1 w2 (.slice (some ⟨w1.heap.size, 0, none⟩) 0 0) 0 (([] : List (List Int)).flatMap bcs) by rw [hw2]; exact MineR.empty [] rfl)
      rw [← hw2]
      clear hw2
      go_loopw [3, 4] (fun v i ws => ∃ (j : Nat) (out : List (List Int)) (A' : Option Addr) (c' : Nat), j ≤ n + 1 ∧ i = .int .i64 (j : Int) ∧ v = .slice A' out.length c' ∧ (∃ s, PairAt l j out s) ∧ out.length ≤ j ∧ (∀ x ∈ out, x.length = 32 ∧ Byt x) ∧ MineR 31 32 w1 ws (.slice A' out.length c') out.length (out.flatMap bcs)) (fun _ i _ => n + 1 - (intOf i).toNat)
      case atStart => exact ⟨0, [], _, _, by omega, rfl, rfl, ⟨false, PairAt.start l⟩, by simp, by simp, M2.out⟩
      case round =>
        obtain ⟨j, out, A4, c4, hj, rfl, rfl, ⟨s, hP⟩, hol, hof, ht⟩ := hrel
        have HT := hide ht
        have HP := hide hP
        have HOL := hide hol
        have HOF := hide hof
        clear ht hP hol hof
        by_cases hlt : j < n
        · obtain ⟨x, hx⟩ : ∃ x, l[j]? = some x := ⟨_, List.getElem?_eq_getElem (by have := HX.out.1; omega)⟩
          have hxf := hide (HX.out.2.1 x (List.mem_of_getElem? hx))
          have HXX := hide hx
          have hrx := hide (range_under (HR.out j x hx) HT.out.below)
          have j0 : (0 : Int) ≤ (j : Int) := by omega
          have j1 : (j : Int) < (n : Int) := by omega
          have j9 : (j : Int) ≤ 60 := by omega
          have hlt9 := hide hlt
          clear hx
          by_cases hb : j + 1 < n
          have j2 : ¬ (n : Int) - 1 < (j : Int) + 1 := by omega
          have j3 : (j : Int) + 1 < (n : Int) := by omega
          obtain ⟨y, hy⟩ : ∃ y, l[j + 1]? = some y := ⟨_, List.getElem?_eq_getElem (by have := HX.out.1; omega)⟩
          have hyf := hide (HX.out.2.1 y (List.mem_of_getElem? hy))
          have HPA := hide (show ∃ s', PairAt l (j + 2) (out ++ [sha2 (x ++ y)]) s' from ⟨_, HP.out.two HXX.out hy⟩)
          have hld := loadHashB_run wr pb (off + (j + 1) * 32) y (range_under (HR.out (j + 1) y hy) HT.out.below) hyf.out.1
          clear hy hb
          rotate_left
          have j2 : (n : Int) - 1 < (j : Int) + 1 := by omega
          have j3 : (n : Int) - 1 = (j : Int) := by omega
          obtain ⟨y, hy⟩ : ∃ y, y = x := ⟨_, rfl⟩
          have hyf := hide (show y.length = 32 ∧ Byt y by rw [hy]; exact hxf.out)
          have HPA := hide (show ∃ s', PairAt l (j + 2) (out ++ [sha2 (x ++ y)]) s' by rw [hy]; exact ⟨_, HP.out.one HXX.out (by have := HX.out.1; omega)⟩)
          have hld := loadHashB_run wr pb (off + j * 32) y (by rw [hy]; exact hrx.out) hyf.out.1
          clear hy hb
          all_goals (
            have KZ := hide (Blk.new wr 31 (bcs zero32))
            go_wp2_with (first
              | (refine wpList_alloc_agg rfl 31 rfl (bcs zero32) zeroHash_info ?_; simp only [Act.put, sT, sZ, sS])
              | (refine hash_store2 rfl _ _ rfl wr.heap.size (bcs zero32) y rfl hyf.out.1 (by rfl) (by rfl) KZ.out ?_; intro w5 o5 b5; have K5 := hide b5; have B5 := hide (show Below wr.heap.size wr w5 from Below.trans ((Below.refl _ wr).alloc (Nat.le_refl _) _) (o5.below (by simp) (fun i hi e => by have h9 : i = wr.heap.size := e; omega))); clear o5 b5; simp only [Act.put]))
            refine pairs_r10 (fun _ _ _ _ _ h => h) _ _ _ _ _ _ _ _ _ _ _ _ _ _ _ _ _ _ _ _ _ _ _ _ _ _ _ _ _ _ _ _ _ _ _ _ _ _ _ _ _ _ _ _ _ _ _ _ _ _ _ _ _ _ _ _ _ _ _ _ _ _ _ _ _ _ _ _ _ _ _ _ _ _ _ _ _ _ _ _ _ _ _ _ _ _ _ _ _ _ _ _ _ _ _ _  w5 pb off n c wr.heap.size j x y j1 j0 (hide (range_under hrx.out B5.out)) (hide K5.out.whole) hxf hyf ?_
            intro v7 v41 v42 v43 v44 v45 v46 v47 v40 v48 v49 w6 p6 b6 k6
            obtain ⟨H, hH⟩ : ∃ H, H = sha2 (x ++ y) := ⟨_, rfl⟩
            rw [← hH] at k6
            have HHH := hide hH
            have HL := hide (show H.length = 32 ∧ Byt H by rw [hH]; exact ⟨sha2_len _, sha2_byt _⟩)
            have hld6 := loadHashB_run w6 p6 0 H k6.whole HL.out.1
            have hmk := mkHs1_run w6 H HL.out.1
            have NB := hide (show (w6.alloc (.cells (bcs H).toArray 31)).rangeAt w6.heap.size 0 (bcs H) from (Blk.new w6 31 (bcs H)).whole)
            have T6 := hide ((HT.out.keep (Below.then_ B5.out b6)).alloc (.cells (bcs H).toArray 31))
            clear b6 k6 hH hld
            go_wp2_with (at_builtin; refine wpList_mineR rfl _ _ 65 rfl 31 32 32 Try.underlying65 hash_infoR (by decide) w1 (.slice A4 out.length c4) out.length _ (by rfl) T6.out w6.heap.size 0 1 1 (bcs H) (by rfl) (by rw [bcs_length, HL.out.1]) NB.out (bcs_one _) (by have := HOL.out; omega) (by decide) ?_; intro A7 c7 w7 q1 q2 q3; have T7 := hide q1; clear q1 q2 q3; simp only [Act.put, sT, sZ, sS])
            exact ⟨⟨j + 2, out ++ [H], A7, c7, by omega, by simp, by simp, by rw [HHH.out]; exact HPA.out, by rw [List.length_append]; have := HOL.out; simp; omega, (fun a ha => by rcases List.mem_append.1 ha with h | h; exact HOF.out a h; rw [List.mem_singleton.1 h]; exact HL.out), by rw [List.length_append, List.flatMap_append]; simpa using T7.out⟩, by simp [intOf]; omega⟩)
        · have i3 : ¬ (j : Int) < (n : Int) := by omega
          obtain ⟨hout, -⟩ := HP.out.done (by have := HX.out.1; omega)
          have HRT := hide (show (rootL out).1 = (rootL l).1 by rw [hout]; exact (rootL_next l (by have := HX.out.1; omega)).symm)
          have HOUT := hide (show 0 < out.length by rw [hout]; rw [nextL_len]; have := HX.out.1; have := HN.out; omega)
          have HJ := hide hj
          clear hout
          obtain ⟨g, hg, hgw, hrow4⟩ := HT.out.rowB HOUT.out
          subst hg
          have HO := hide (RowB.hashes hrow4 rfl HOF.out)
          have HB := hide HT.out.below
          clear hrow4
          go_wp2_with fail
          refine (Root_any wr (some ⟨pb, off, none⟩) n c l (HX1.out.below' HB.out) (by omega) HC.out).mono ?_
          rintro e wa ⟨rfl, ba⟩
          obtain ⟨R0, hR0⟩ : ∃ z, z = (rootL l).1 := ⟨_, rfl⟩
          obtain ⟨s0, hs0⟩ : ∃ z, z = (rootL l).2 := ⟨_, rfl⟩
          rw [← hR0, ← hs0]
          have HR0 := hide hR0
          have L0 := hide (show R0.length = 32 by rw [hR0]; exact (rootL_len l HX.out.2.1).1)
          have KZa := hide (Blk.new wa 31 (bcs zero32))
          have HOa := hide (HO.out.below' ba)
          have HBa := hide (Below.then_ HB.out ba)
          clear ba hR0 hs0
          go_wp2_with (first
            | (refine wpList_alloc_agg rfl 31 rfl (bcs zero32) zeroHash_info ?_; simp only [Act.put, sT, sZ, sS])
            | (refine hash_store2 rfl _ _ rfl wa.heap.size (bcs zero32) R0 rfl L0.out (by rfl) (by rfl) KZa.out ?_; intro wb ob bb; have Kb := hide bb; have Bb := hide (show Below wa.heap.size wa wb from Below.trans ((Below.refl _ wa).alloc (Nat.le_refl _) _) (ob.below (by simp) (fun i hi e => by have h9 : i = wa.heap.size := e; omega))); clear ob bb; simp only [Act.put]))
          have hc4 : out.length ≤ c4 := by
            rcases HT.out.2.2 with ⟨e1, h9⟩ | ⟨g9, cap, cur, e1, _, _, hnc, _⟩
            · have := HOUT.out; omega
            · injection e1 with _ _ e3; omega
          refine (Root_any wb (some ⟨g, 0, none⟩) out.length c4 out (HOa.out.below' Bb.out) (by have := HOL.out; have := HJ.out; omega) hc4).mono ?_
          rintro e wc ⟨rfl, bc⟩
          rw [HRT.out, ← HR0.out]
          obtain ⟨s1, hs1⟩ : ∃ z, z = (rootL out).2 := ⟨_, rfl⟩
          rw [← hs1]
          have KZc := hide (Blk.new wc 31 (bcs zero32))
          have Kc := hide (Kb.out.under bc)
          have Bc := hide (Below.then_ Bb.out bc)
          clear bc hs1
          by_cases hodd : n % 2 = 1
          · have hq9 : ((n : Int) % 2 == 1) = true := by rw [beq_iff_eq]; omega
            go_wp2_with (first
              | (refine wpList_alloc_agg rfl 31 rfl (bcs zero32) zeroHash_info ?_; simp only [Act.put, sT, sZ, sS])
              | (refine hash_store2 rfl _ _ rfl wc.heap.size (bcs zero32) R0 rfl L0.out (by rfl) (by rfl) KZc.out ?_; intro wd od bd; have Kd := hide bd; have B0d := hide (show Below wc.heap.size wc wd from Below.trans ((Below.refl _ wc).alloc (Nat.le_refl _) _) (od.below (by simp) (fun i hi e => by have h9 : i = wc.heap.size := e; omega))); have Hxd := loadHashB_run wd wc.heap.size 0 R0 bd.whole L0.out; have K1d := hide (Kc.out.under B0d.out); have Hyd := loadHashB_run wd wa.heap.size 0 R0 K1d.out.whole L0.out; have hnq := neqHash_run R0 R0 L0.out L0.out wd; clear od bd; simp only [Act.put]))
            obtain ⟨x, hx⟩ : ∃ x, l[n - 1]? = some x := ⟨_, List.getElem?_eq_getElem (by have := HX.out.1; omega)⟩
            have hxx := next_odd (n / 2) l x (by have := HX.out.1; omega) (by rw [show 2 * (n / 2) = n - 1 by omega]; exact hx)
            have HRX := hide (show (rootL (l ++ [x])).1 = R0 ∧ (rootL (l ++ [x])).2 = true from ⟨by
              rw [rootL_next (l ++ [x]) (by simp; have := HX.out.1; omega), hxx.1, HR0.out]
              exact (rootL_next l (by have := HX.out.1; omega)).symm, by rw [rootL_two _ (by simp; have := HX.out.1; omega), hxx.2]; rfl⟩)
            clear hxx
            refine pairs_r17 (fun _ _ _ _ _ h => h) _ _ _ _ _ _ _ _ _ _ _ _ _ _ _ _ _ _ _ _ _ _ _ _ _ _ _ _ _ _ _ _ _ _ _ _ _ _ _ _ _ _ _ _ _ _ _ _ _ _ _ _ _ _ _ _ _ _ _ _ _ _ _ _ _ _ _ _ _ _ _ _ _ _ _ _ _ _ _ _ _ _ _ _ _ _ _ _ _ _ _ _ _ _ _ _ _ _  wd wd rfl pb off n c l x (by omega) (by omega) (hide (HX1.out.below' (Below.then_ (Below.then_ HBa.out Bc.out) B0d.out))) hx ?_
            intro v71 v72 v73 v74 v75 v76 v77 v78 v79 v80 v81 v82 v83 v84 v85 we p12 H sr hH hs be ke
            rw [HRX.out.1] at hH
            rw [HRX.out.2] at hs
            subst hH
            subst hs
            have Kx := loadHashB_run we p12 0 H ke.whole L0.out
            have Ky := loadHashB_run we wa.heap.size 0 H (K1d.out.under be).whole L0.out
            have heq := eqlHash_self H L0.out we
            have BE := hide (Below.then_ (Below.then_ HB1.out (Below.then_ HBa.out (Below.then_ Bc.out B0d.out))) be)
            clear ke be
            go_wp2_with fail
            go_ret
            exact ⟨rfl, BE.out⟩
          · have hq9 : ((n : Int) % 2 == 1) = false := by rw [beq_eq_false_iff_ne]; omega
            have hn1 : (1 : Int) < (n : Int) := by omega
            cases s0
            all_goals (
              go_wp2_with (first
                | (refine wpList_alloc_agg rfl 31 rfl (bcs zero32) zeroHash_info ?_; simp only [Act.put, sT, sZ, sS])
                | (refine hash_store2 rfl _ _ rfl wc.heap.size (bcs zero32) R0 rfl L0.out (by rfl) (by rfl) KZc.out ?_; intro wd od bd; have Kd := hide bd; have B0d := hide (show Below wc.heap.size wc wd from Below.trans ((Below.refl _ wc).alloc (Nat.le_refl _) _) (od.below (by simp) (fun i hi e => by have h9 : i = wc.heap.size := e; omega))); have Hxd := loadHashB_run wd wc.heap.size 0 R0 bd.whole L0.out; have K1d := hide (Kc.out.under B0d.out); have Hyd := loadHashB_run wd wa.heap.size 0 R0 K1d.out.whole L0.out; have hnq := neqHash_run R0 R0 L0.out L0.out wd; clear od bd; simp only [Act.put]))
              go_ret
              exact ⟨rfl, Below.then_ HB1.out (Below.then_ HBa.out (Below.then_ Bc.out B0d.out))⟩)
end Go.Proofs.Ytbpmcnfmgaolnaa
