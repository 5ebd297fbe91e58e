import Derived.Test.YtbpmcnfmgaolnaaPk27
/-
  bynamelaw22.WaitingRuns: the walk.
-/
namespace Go.Proofs.Ytbpmcnfmgaolnaa
open Go.RowKit

attribute [local go_sem ↓] loadBlk_fold loadHead_fold loadHash_fold mkHead_fold mkBlk_fold mkHash_fold mkTx_fold mkTxs_fold
attribute [local go_sem] mkHash_1 mkHead_np mkTx_ver
theorem Only.ring2 {w0 w1 ws : World} {g : Nat} (hb : Below w0.heap.size w0 w1) (hg : w0.heap.size ≤ g) (ho : Only (fun i => i = g) w1 ws) : Below w0.heap.size w0 ws := Only.ring hb hg ho
def ringP : Nat → Prop := fun _ => False
/-- What a round begins with, and ends with. -/
structure RunsAt (w2 ws : World) (g : Nat) (A : Option Addr) (k : Nat) (ys : List BlkV) : Prop where
  row : LRow w2.heap.size ws A k ys
  ring : RingIs ws g ringP (ys.map BlkV.d)
  sole : Sole (ys.map BlkV.d)
  few : k ≤ 8
  only : Only (fun i => i = g) w2 ws
theorem RunsAt.under {w2 ws w' : World} {g : Nat} {A : Option Addr} {k : Nat} {ys : List BlkV} (h : RunsAt w2 ws g A k ys) (hb : Below ws.heap.size ws w') : RunsAt w2 w' g A k ys :=
  ⟨h.row.under hb, h.ring.under hb, h.sole, h.few, h.only.trans (Only.of_below hb fun i => i = g) fun _ _ h => h⟩
set_option maxHeartbeats 8000000 in
set_option maxRecDepth 100000 in
theorem runs_main (w : World) (A : Option Addr) (n c : Nat) (xs : List WActV) (hA : WActsIn w A n xs) (hn : n ≤ 100) :
    Calls Try.prog 3 #[.slice A n c] w fun e w' => e = .returned (.bool true) ∧ Below w.heap.size w w' := by
  have HA := hide hA
  have n9 : (n : Int) ≤ 100 := by omega
  clear hA hn
  go_enter Try.func3, Try.ntmps3
  go_wp2_with (go_at_call 15; refine (waitAlive_any _).mono ?_; rintro e w1 ⟨rfl, b1⟩; have B1 := hide b1; clear b1)
  refine (WNewD_any _).mono ?_
  rintro e w2 ⟨g, rfl, hg, b2, hr⟩
  have R2 := hide (hr ringP)
  have HG := hide hg
  have B2 := hide (Below.then_ B1.out b2)
  have G2 := hide R2.out.lt
  have HGW := hide (show w.heap.size ≤ g by have := B1.out.size; have := HG.out; omega)
  clear hg b2 hr
  go_wp2_with fail
  go_loopw [4, 22] (fun v i ws => ∃ (j : Nat) (A4 : Option Addr) (k c4 : Nat) (ys : List BlkV), j ≤ n ∧ i = .int .i64 (j : Int) ∧ v = .slice A4 k c4 ∧ RunsAt w2 ws g A4 k ys) (fun _ i _ => n - (intOf i).toNat)
  case atStart => exact ⟨0, _, 0, 0, [], by omega, rfl, rfl, LRow.nil _ _ (by simp), R2.out.under (below_alloc (Below.refl _ _) _), sole_nil, by omega, Only.of_below (below_alloc (Below.refl _ _) _) _⟩
  case round =>
    obtain ⟨j, A4, k, c4, ys, hj, rfl, rfl, hrr⟩ := hrel
    have HRR := hide hrr
    have HB := hide (Only.ring2 B2.out HGW.out hrr.only)
    clear hrr
    by_cases hlt : j < n
    · obtain ⟨pb, off, hA9, hrow⟩ := (HA.out.below' HB.out).2.2 (by omega)
      subst hA9
      obtain ⟨ac, hac⟩ : ∃ ac, xs[j]? = some ac := ⟨_, List.getElem?_eq_getElem (by rw [HA.out.1]; exact hlt)⟩
      have i1 : (j : Int) < (n : Int) := by omega
      have i0 : (0 : Int) ≤ (j : Int) := by omega
      have hjm := hide hlt
      have AF := hide (HA.out.2.1 ac (List.mem_of_getElem? hac))
      have RA := hide (hrow j ac hac)
      obtain ⟨kind, nonce, prev⟩ := ac
      have HHF := hide (headNP_fine (p := hash1 prev) AF.out.nonce rfl (hash1_byt AF.out.prev))
      have u29 := hide Try.underlying29
      have I29 : Hid ((Try.prog.info? 29).map (·.size) = some (WActV.cells ⟨kind, nonce, prev⟩).length) := wact_size
      clear hac hlt hrow
      go_wp2_with (first
        | (refine wpList_load_mid rfl 29 _ rfl pb (off + j * 3) (by rfl) (WActV.cells ⟨kind, nonce, prev⟩) _ RA.out u29.out rfl I29.out ?_; simp only [Act.put, List.setIfInBounds_toArray, List.set_cons_zero, List.set_cons_succ])
        | (refine wpList_alloc_agg rfl 29 rfl [.int .i64 0, .int .u32 0, .int .u8 0] wact_zero ?_; simp only [Act.put, List.setIfInBounds_toArray, List.set_cons_zero, List.set_cons_succ])
        | (refine wpList_store_blk rfl 29 _ _ rfl wr.heap.size 0 29 [.int .i64 0, .int .u32 0, .int .u8 0] (WActV.cells ⟨kind, nonce, prev⟩) (by rfl) (by rfl) (Blk.new wr _ _) (Nat.le_refl _) I29.out (wact_one ⟨kind, nonce, prev⟩) ?_; intro w4 o4 z4 b4; rw [lay_all [.int .i64 0, .int .u32 0, .int .u8 0] (WActV.cells ⟨kind, nonce, prev⟩) rfl] at b4; simp only [Act.put]; have k0 : w4.cell? ⟨wr.heap.size, 0, none⟩ = some (.int .i64 kind) := (b4.cell 0).trans rfl; have k1 : w4.cell? ⟨wr.heap.size, 1, none⟩ = some (.int .u32 nonce) := (b4.cell 1).trans rfl; have k2 : w4.cell? ⟨wr.heap.size, 2, none⟩ = some (.int .u8 prev) := (b4.cell 2).trans rfl; have K4 := hide b4; have hmt := mkTxs_run w4 (verT nonce); have KT := hide (Blk.new w4 37 (verT nonce).cells); have hmb : (mkBlk #[(0, .agg (headNP nonce (hash1 prev)).cells.toArray), (1, .slice (some ⟨w4.heap.size, 0, none⟩) 1 1)]).run Try.prog (w4.alloc (.cells (verT nonce).cells.toArray 37)) = .ok (.agg (oneB (headNP nonce (hash1 prev)) w4.heap.size nonce).cells.toArray) (w4.alloc (.cells (verT nonce).cells.toArray 37)) := mkBlk_two (oneB (headNP nonce (hash1 prev)) w4.heap.size nonce) HHF.out _; have KZ := hide (Blk.new1 w4 (.cells (verT nonce).cells.toArray 37) 40 zeroB.cells); have BW4 := hide (show Below wr.heap.size wr w4 from Below.trans ((Below.refl _ wr).alloc (Nat.le_refl _) _) (o4.below (by simp) (fun i hi e => by have h9 : i = wr.heap.size := e; omega))); clear o4 z4 b4)
        | (refine wpList_alloc_agg rfl 40 rfl zeroB.cells zeroBlk_info ?_; simp only [Act.put, List.setIfInBounds_toArray, List.set_cons_zero, List.set_cons_succ, World.size_alloc])
        | (refine wpList_store_bk rfl _ _ rfl (w4.heap.size + 1) zeroB (oneB (headNP nonce (hash1 prev)) w4.heap.size nonce) zeroH_fine HHF.out (by rfl) (by rfl) KZ.out ?_; intro w5 o5 z5 b5; simp only [Act.put]; have O5 := hide (((Only.refl (fun i => i = w4.heap.size + 1) (w4.alloc (.cells (verT nonce).cells.toArray 37))).alloc (.cells zeroB.cells.toArray 40)).trans o5 fun _ _ h => h); have K5 := hide b5; have hlh := loadHead_run w5 (w4.heap.size + 1) 0 (headNP nonce (hash1 prev)) (blk_head b5) HHF.out; clear o5 z5 b5 hmt hmb))
      have hs4 := hide BW4.out.size
      have BW5 := hide (BW4.out.trans (((below_alloc (Below.refl _ w4) (.cells (verT nonce).cells.toArray 37)).trans (O5.out.below (by simp) fun i hi e => by have h9 : i = w4.heap.size + 1 := e; omega)).mono hs4.out))
      have KT5 := hide (O5.out.blk KT.out (fun e => by omega))
      have KA5 := hide (O5.out.blk (K4.out.alloc _) (fun e => by have := K4.out.lt; omega))
      obtain ⟨b, hb⟩ : ∃ b, b = oneB (headNP nonce (hash1 prev)) w4.heap.size nonce := ⟨_, rfl⟩
      have hw2s := HRR.out.only.size
      have FB := hide (show KeepB w5 b (fun i => i < w2.heap.size) by rw [hb]; exact oneB_keep HHF.out AF.out.nonce KT5.out (by have := hs4.out; omega))
      have GB := hide (show b.Good by rw [hb]; exact oneB_good HHF.out AF.out.nonce _)
      have HBH := hide (show b.head = headNP nonce (hash1 prev) by rw [hb]; rfl)
      rw [← hb] at K5
      have PB := hide (show ∃ p, p = w4.heap.size + 1 from ⟨_, rfl⟩)
      clear hb KT KT5 O5 k0 k1 k2 K4
      obtain ⟨H, hH⟩ : ∃ H, H = sha2 b.head.bytes := ⟨_, rfl⟩
      have HHL := hide (show H.length = 32 by rw [hH]; exact sha2_len _)
      have HHE := hide hH.symm
      clear hH
      refine (refBId_any w5 (headNP nonce (hash1 prev)) HHF.out).mono ?_
      rintro e w6 ⟨rfl, b6⟩
      rw [← HBH.out, HHE.out]
      have BW6 := hide (Below.then_ BW5.out b6)
      have K6 := hide (K5.out.under b6)
      have KA6 := hide (KA5.out.under b6)
      have FB6 := hide (FB.out.under b6)
      have KZ6 := hide (Blk.new w6 31 (bcs zero32))
      clear b6 hlh K5 KA5 FB BW5
      have HLE := hide HRR.out.few
      have HHP := hide (hash1_byt AF.out.prev)
      by_cases hk : kind = 1
      · subst hk
        go_wp2_with (first
          | (refine wpList_alloc_agg rfl 31 rfl (bcs zero32) zeroHash_info ?_; simp only [Act.put, List.setIfInBounds_toArray, List.set_cons_zero, List.set_cons_succ])
          | (refine wpList_store_blk rfl 31 _ _ rfl w6.heap.size 0 31 (bcs zero32) (bcs H) (by rfl) (by rfl) KZ6.out (by rw [bcs_length, bcs_length, HHL.out]; decide) (by rw [bcs_length, HHL.out]; exact isHash32) (bcs_one _) ?_; intro w8 o9 z9 b9; rw [lay_all _ _ (by rw [bcs_length, bcs_length, HHL.out]; rfl)] at b9; simp only [Act.put]; have KI := hide b9; have B8 := hide (show Below w6.heap.size w6 w8 from Below.trans ((Below.refl _ w6).alloc (Nat.le_refl _) _) (o9.below (by simp) (fun i hi e => by have h9 : i = w6.heap.size := e; omega))); have KA8 := hide (KA6.out.under B8.out); have K8 := hide (K6.out.under B8.out); have FB8 := hide (FB6.out.under B8.out); have HR8 := hide (HRR.out.under (Below.then_ BW6.out B8.out)); have k0 : w8.cell? ⟨wr.heap.size, 0, none⟩ = some (.int .i64 1) := (KA8.out.cell 0).trans rfl; have k2 : w8.cell? ⟨wr.heap.size, 2, none⟩ = some (.int .u8 prev) := (KA8.out.cell 2).trans rfl; have hlb := loadBlk_run w8 (w4.heap.size + 1) 0 b K8.out.whole (by rw [HBH.out]; exact HHF.out); clear b9 o9 z9))
        refine (refTake_any w2.heap.size w8 A4 k c4 ys (hash1 prev) HR8.out.row (by have := HLE.out; omega) rfl).mono ?_
        rintro e w9 ⟨Ax, nx, cx, zs, Aj, kj, cj, ysj, rfl, hz, hy, hzd, hyd, b9⟩
        have HZ := hide hz
        have HY := hide hy
        have HZD := hide hzd
        have HYD := hide hyd
        have HR9 := hide (HR8.out.under b9)
        have KI9 := hide (KI.out.under b9)
        have k2 : w9.cell? ⟨wr.heap.size, 2, none⟩ = some (.int .u8 prev) := ((KA8.out.under b9).cell 2).trans rfl
        clear hz hy hzd hyd b9 hlb k0
        go_wp2_with fail
        refine (Take_any w9 g ringP (ys.map BlkV.d) (hash1 prev) HR9.out.ring HR9.out.sole rfl (fun i h => h.elim)).mono ?_
        rintro e w10 ⟨At, nt, ct, ts, rfl, ht, htd, hr10, o10⟩
        have hg10 := G2.out
        have HT := hide ht.in_
        have HTG := hide ht.good
        have HTD := hide htd
        have HZ10 := hide (HZ.out.step o10 (fun i _ h => by have h9 : i = g := h; omega))
        have HJ := hide (show RunsAt w2 w10 g Aj kj ysj from ⟨HY.out.step o10 (fun i _ h => by have h9 : i = g := h; omega), by rw [HYD.out]; exact hr10, by rw [HYD.out]; exact HR9.out.sole.sublist List.filter_sublist, by
          have h1 := congrArg List.length HYD.out
          have h2 := List.length_filter_le (fun b => !upon (hash1 prev) b) (ys.map BlkV.d)
          have h3 := HR9.out.row.len
          have h4 := HLE.out
          rw [List.length_map, HY.out.len] at h1
          rw [List.length_map] at h2
          simp only [takeD] at h1
          omega, HR9.out.only.trans o10 fun _ _ h => h⟩)
        have KJ := hide (o10.blk KI9.out (fun e => by have := BW6.out.size; have := HRR.out.only.size; omega))
        have HNT := hide (show nt ≤ 1000 by
          have h1 := congrArg List.length HTD.out
          have h2 := List.length_filter_le (upon (hash1 prev)) (ys.map BlkV.d)
          have h3 := HR9.out.row.len
          have h4 := HLE.out
          rw [List.length_map, ht.len] at h1
          rw [List.length_map] at h2
          simp only [takeD] at h1
          omega)
        clear ht htd hr10 o10 k2
        go_wp2_with fail
        refine (refWSame_any w10 At Ax nt ct nx cx ts zs HT.out HZ10.out.in_ (fun x hx => (HTG.out x hx).small) (fun x hx => (HZ10.out.good x hx).small) HNT.out (by rw [HTD.out, HZD.out])).mono ?_
        rintro e w11 ⟨rfl, b11⟩
        have HJ := hide (HJ.out.under b11)
        have KJ := hide (KJ.out.under b11)
        clear b11
        go_wp2_with fail
        have HLJ := hide (show (ysj.map BlkV.d).length = kj by rw [List.length_map, HJ.out.row.len])
        obtain ⟨q, hq⟩ : ∃ q, q = hasD (ysj.map BlkV.d) H := ⟨_, rfl⟩
        have HQ := hide hq.symm
        clear hq
        refine wp_region_held_drew (S := fun w' => Below w11.heap.size w11 w') (by kernel_rfl) ((Below.refl _ w11).drew) (fun hSA0 => ?_)
        obtain ⟨w11d, hwA⟩ : ∃ x, x = w11.drew := ⟨_, rfl⟩
        rw [← hwA] at hSA0 ⊢
        clear hwA
        (refine wpAnyH_take (i := 0) (oi := ⟨some 72, .move (.tmp 3), 24, "law.go:59", #[], none⟩) (v := ?_) rfl (by kernel_rfl) (by kernel_rfl) (by kernel_rfl) (fun _ _ _ h => h) (Or.inl ⟨by rfl, fun w' hSw => ?_⟩) hSA0 ?_; rotate_left; focus (go_simp; try with_reducible rfl))
        simp only [Act.put, List.setIfInBounds_toArray, List.set_cons_zero, List.set_cons_succ]
        (refine wpAnyH_take (i := 2) (oi := ⟨some 74, .move (.tmp 4), 26, "law.go:59", #[], none⟩) (v := ?_) rfl (by kernel_rfl) (by kernel_rfl) (by kernel_rfl) (fun _ _ _ h => h) (Or.inl ⟨by rfl, fun w' hSw => ?_⟩) hSA0 ?_; rotate_left; focus (go_simp; try with_reducible rfl))
        simp only [Act.put, List.setIfInBounds_toArray, List.set_cons_zero, List.set_cons_succ]
        (refine wpAnyH_take (i := 3) (oi := ⟨some 75, .call { callee := .builtin .len, args := #[.tmp 74], argTypes := #[26] }, 3, "law.go:59", #[⟨2, .data⟩], none⟩) (v := ?_) rfl (by kernel_rfl) (by kernel_rfl) (by kernel_rfl) (fun _ _ _ h => h) (Or.inl ⟨by rfl, fun w' hSw => ?_⟩) hSA0 ?_; rotate_left; focus (go_simp; try with_reducible rfl))
        simp only [Act.put, List.setIfInBounds_toArray, List.set_cons_zero, List.set_cons_succ]
        refine wpAnyH_ready (rs := [1]) (by kernel_rfl) (by simp) ?_
        refine AllReadyH.cons rfl (fun K hK => ?_) AllReadyH.nil
        go_simp
        go_wp2_with (go_at_call 23; refine (WLenD_any w11d g ringP (ysj.map BlkV.d) (HJ.out.ring.under hSA0)).mono ?_; rintro e wz ⟨rfl, hwz⟩; rw [HLJ.out, hwz]; clear hwz)
        refine hK.out _ _ (hSA0) (fun hSA1 => ?_)
        clear hK K
        (refine wpAnyH_take (i := 4) (oi := ⟨some 76, .binOp .neq 3 (.tmp 73) (.tmp 75) 3, 4, "law.go:59", #[⟨1, .data⟩, ⟨3, .data⟩], none⟩) (v := ?_) rfl (by kernel_rfl) (by kernel_rfl) (by kernel_rfl) (fun _ _ _ h => h) (Or.inl ⟨by rfl, fun w' hSw => ?_⟩) hSA1 ?_; rotate_left; focus (go_simp; try with_reducible rfl))
        simp only [Act.put, List.setIfInBounds_toArray, List.set_cons_zero, List.set_cons_succ]
        (refine wpAnyH_take (i := 5) (oi := ⟨some 77, .move (.tmp 76), 4, "law.go:59", #[⟨4, .data⟩, ⟨1, .chain⟩], none⟩) (v := ?_) rfl (by kernel_rfl) (by kernel_rfl) (by kernel_rfl) (fun _ _ _ h => h) (Or.inl ⟨by rfl, fun w' hSw => ?_⟩) hSA1 ?_; rotate_left; focus (go_simp; try with_reducible rfl))
        simp only [Act.put, List.setIfInBounds_toArray, List.set_cons_zero, List.set_cons_succ]
        (refine wpAnyH_take (i := 6) (oi := ⟨some 78, .move (.tmp 3), 24, "law.go:59", #[⟨5, .guard⟩], some (5, false)⟩) (v := ?_) rfl (by kernel_rfl) (by kernel_rfl) (by kernel_rfl) (fun _ _ _ h => h) (Or.inl ⟨by rfl, fun w' hSw => ?_⟩) hSA1 ?_; rotate_left; focus (go_simp; try with_reducible rfl))
        simp only [Act.put, List.setIfInBounds_toArray, List.set_cons_zero, List.set_cons_succ]
        (refine wpAnyH_take (i := 7) (oi := ⟨some 79, .load 31 (.tmp 8), 31, "law.go:59", #[⟨5, .guard⟩], some (5, false)⟩) (v := ?_) rfl (by kernel_rfl) (by kernel_rfl) (by kernel_rfl) (fun _ _ _ h => h) (Or.inl ⟨by rfl, fun w' hSw => ?_⟩) hSA1 ?_; rotate_left; focus (have z1 := loadHashW_run w' w6.heap.size 0 H (range_under KJ.out.whole hSw) HHL.out; go_simp; try with_reducible rfl))
        simp only [Act.put, List.setIfInBounds_toArray, List.set_cons_zero, List.set_cons_succ]
        (refine wpAnyH_take (i := 9) (oi := ⟨some 81, .move (.tmp 4), 26, "law.go:59", #[⟨5, .guard⟩], some (5, false)⟩) (v := ?_) rfl (by kernel_rfl) (by kernel_rfl) (by kernel_rfl) (fun _ _ _ h => h) (Or.inl ⟨by rfl, fun w' hSw => ?_⟩) hSA1 ?_; rotate_left; focus (go_simp; try with_reducible rfl))
        simp only [Act.put, List.setIfInBounds_toArray, List.set_cons_zero, List.set_cons_succ]
        (refine wpAnyH_take (i := 10) (oi := ⟨some 82, .load 31 (.tmp 8), 31, "law.go:59", #[⟨5, .guard⟩], some (5, false)⟩) (v := ?_) rfl (by kernel_rfl) (by kernel_rfl) (by kernel_rfl) (fun _ _ _ h => h) (Or.inl ⟨by rfl, fun w' hSw => ?_⟩) hSA1 ?_; rotate_left; focus (have z1 := loadHashW_run w' w6.heap.size 0 H (range_under KJ.out.whole hSw) HHL.out; go_simp; try with_reducible rfl))
        simp only [Act.put, List.setIfInBounds_toArray, List.set_cons_zero, List.set_cons_succ]
        refine wpAnyH_ready (rs := [8]) (by kernel_rfl) (by simp) ?_
        refine AllReadyH.cons rfl (fun K hK => ?_) AllReadyH.nil
        go_simp
        go_simp
        go_wp2_with (go_at_call 24; refine (WHas_any w11d g ringP (ysj.map BlkV.d) H (HJ.out.ring.under hSA1) HHL.out).mono ?_; rintro e wh ⟨rfl, b9⟩; rw [HQ.out])
        have Bh := hide (Below.then_ hSA1 b9)
        clear b9
        refine hK.out _ _ (Bh.out) (fun hSA2 => ?_)
        clear hK K
        refine wpAnyH_ready (rs := [11]) (by kernel_rfl) (by simp) ?_
        refine AllReadyH.cons rfl (fun K hK => ?_) AllReadyH.nil
        go_simp
        go_simp
        go_wp2_with (go_at_call 25; refine (refWHas_any wh Aj kj cj ysj H (HJ.out.row.under hSA2).in_ (by have := HJ.out.few; omega) HHL.out).mono ?_; rintro e wi ⟨rfl, b9⟩; rw [hasL_d, HQ.out])
        have Bi := hide (Below.then_ hSA2 b9)
        clear b9
        refine hK.out _ _ (Bi.out) (fun hSA3 => ?_)
        clear hK K
        (refine wpAnyH_take (i := 12) (oi := ⟨some 84, .binOp .neq 4 (.tmp 80) (.tmp 83) 4, 4, "law.go:59", #[⟨8, .data⟩, ⟨11, .data⟩, ⟨5, .guard⟩], some (5, false)⟩) (v := ?_) rfl (by kernel_rfl) (by kernel_rfl) (by kernel_rfl) (fun _ _ _ h => h) (Or.inl ⟨by rfl, fun w' hSw => ?_⟩) hSA3 ?_; rotate_left; focus (go_simp; try with_reducible rfl))
        simp only [Act.put, List.setIfInBounds_toArray, List.set_cons_zero, List.set_cons_succ]
        (refine wpAnyH_take (i := 13) (oi := ⟨some 85, .pick (.tmp 77) (.const (.bool Bool.true)) (.tmp 84), 4, "law.go:59", #[⟨5, .data⟩, ⟨12, .data⟩], none⟩) (v := ?_) rfl (by kernel_rfl) (by kernel_rfl) (by kernel_rfl) (fun _ _ _ h => h) (Or.inl ⟨by rfl, fun w' hSw => ?_⟩) hSA3 ?_; rotate_left; focus (go_simp; try with_reducible rfl))
        simp only [Act.put, List.setIfInBounds_toArray, List.set_cons_zero, List.set_cons_succ]
        (refine wpAnyH_take (i := 14) (oi := ⟨some 86, .move (.tmp 85), 4, "law.go:59", #[⟨13, .data⟩, ⟨11, .chain⟩], none⟩) (v := ?_) rfl (by kernel_rfl) (by kernel_rfl) (by kernel_rfl) (fun _ _ _ h => h) (Or.inl ⟨by rfl, fun w' hSw => ?_⟩) hSA3 ?_; rotate_left; focus (go_simp; try with_reducible rfl))
        simp only [Act.put, List.setIfInBounds_toArray, List.set_cons_zero, List.set_cons_succ]
        (refine wpAnyH_take (i := 15) (oi := ⟨some 87, .move (.tmp 3), 24, "law.go:59", #[⟨14, .guard⟩], some (14, false)⟩) (v := ?_) rfl (by kernel_rfl) (by kernel_rfl) (by kernel_rfl) (fun _ _ _ h => h) (Or.inl ⟨by rfl, fun w' hSw => ?_⟩) hSA3 ?_; rotate_left; focus (go_simp; try with_reducible rfl))
        simp only [Act.put, List.setIfInBounds_toArray, List.set_cons_zero, List.set_cons_succ]
        (refine wpAnyH_take (i := 17) (oi := ⟨some 89, .move (.tmp 4), 26, "law.go:59", #[⟨14, .guard⟩], some (14, false)⟩) (v := ?_) rfl (by kernel_rfl) (by kernel_rfl) (by kernel_rfl) (fun _ _ _ h => h) (Or.inl ⟨by rfl, fun w' hSw => ?_⟩) hSA3 ?_; rotate_left; focus (go_simp; try with_reducible rfl))
        simp only [Act.put, List.setIfInBounds_toArray, List.set_cons_zero, List.set_cons_succ]
        refine wpAnyH_ready (rs := [16]) (by kernel_rfl) (by simp) ?_
        refine AllReadyH.cons rfl (fun K hK => ?_) AllReadyH.nil
        go_simp
        go_simp
        go_wp2_with (go_at_call 26; refine (All_any wi g ringP (ysj.map BlkV.d) (HJ.out.ring.under hSA3)).mono ?_; rintro e wa ⟨Aa, ca, zz, rfl, ha, had, b9⟩; rw [HLJ.out] at ha ⊢)
        have Ba := hide (Below.then_ hSA3 b9)
        have HAA := hide ha
        have HAD := hide had
        clear b9 ha had
        refine hK.out _ _ (Ba.out) (fun hSA4 => ?_)
        clear hK K
        refine wpAnyH_ready (rs := [18]) (by kernel_rfl) (by simp) ?_
        refine AllReadyH.cons rfl (fun K hK => ?_) AllReadyH.nil
        go_simp
        go_simp
        go_wp2_with (go_at_call 19; refine (refWSame_any wa Aa Aj kj ca kj cj zz ysj HAA.out.in_ (HJ.out.row.under hSA4).in_ (fun x hx => (HAA.out.good x hx).small) (fun x hx => (HJ.out.row.good x hx).small) (by have := HJ.out.few; omega) HAD.out).mono ?_; rintro e ws ⟨rfl, b9⟩)
        have Bs := hide (Below.then_ hSA4 b9)
        clear b9
        refine hK.out _ _ (Bs.out) (fun hSA5 => ?_)
        clear hK K
        (refine wpAnyH_take (i := 19) (oi := ⟨some 91, .unOp .not 4 (.tmp 90), 4, "law.go:59", #[⟨18, .data⟩, ⟨14, .guard⟩], some (14, false)⟩) (v := ?_) rfl (by kernel_rfl) (by kernel_rfl) (by kernel_rfl) (fun _ _ _ h => h) (Or.inl ⟨by rfl, fun w' hSw => ?_⟩) hSA5 ?_; rotate_left; focus (go_simp; try with_reducible rfl))
        simp only [Act.put, List.setIfInBounds_toArray, List.set_cons_zero, List.set_cons_succ]
        (refine wpAnyH_take (i := 20) (oi := ⟨some 92, .pick (.tmp 86) (.const (.bool Bool.true)) (.tmp 91), 4, "law.go:59", #[⟨14, .data⟩, ⟨19, .data⟩], none⟩) (v := ?_) rfl (by kernel_rfl) (by kernel_rfl) (by kernel_rfl) (fun _ _ _ h => h) (Or.inl ⟨by rfl, fun w' hSw => ?_⟩) hSA5 ?_; rotate_left; focus (go_simp; try with_reducible rfl))
        simp only [Act.put, List.setIfInBounds_toArray, List.set_cons_zero, List.set_cons_succ]
        refine wpAnyH_done (by kernel_rfl) ?_ _
        go_wp2_with fail
        exact ⟨⟨j + 1, Aj, kj, cj, ysj, by have := hjm.out; omega, by simp, rfl, HJ.out.under Bs.out⟩, by have := hjm.out; simp [intOf]; omega⟩
      · have HKD := hide hk
        go_wp2_with (first
          | (refine wpList_alloc_agg rfl 31 rfl (bcs zero32) zeroHash_info ?_; simp only [Act.put, List.setIfInBounds_toArray, List.set_cons_zero, List.set_cons_succ])
          | (refine wpList_store_blk rfl 31 _ _ rfl w6.heap.size 0 31 (bcs zero32) (bcs H) (by rfl) (by rfl) KZ6.out (by rw [bcs_length, bcs_length, HHL.out]; decide) (by rw [bcs_length, HHL.out]; exact isHash32) (bcs_one _) ?_; intro w8 o9 z9 b9; rw [lay_all _ _ (by rw [bcs_length, bcs_length, HHL.out]; rfl)] at b9; simp only [Act.put]; have KI := hide b9; have B8 := hide (show Below w6.heap.size w6 w8 from Below.trans ((Below.refl _ w6).alloc (Nat.le_refl _) _) (o9.below (by simp) (fun i hi e => by have h9 : i = w6.heap.size := e; omega))); have KA8 := hide (KA6.out.under B8.out); have K8 := hide (K6.out.under B8.out); have FB8 := hide (FB6.out.under B8.out); have HR8 := hide (HRR.out.under (Below.then_ BW6.out B8.out)); have k0 : w8.cell? ⟨wr.heap.size, 0, none⟩ = some (.int .i64 kind) := (KA8.out.cell 0).trans rfl; have k2 : w8.cell? ⟨wr.heap.size, 2, none⟩ = some (.int .u8 prev) := (KA8.out.cell 2).trans rfl; have hlb := loadBlk_run w8 (w4.heap.size + 1) 0 b K8.out.whole (by rw [HBH.out]; exact HHF.out); clear b9 o9 z9))
        refine (refWAdd_any w2.heap.size w8 A4 k c4 ys b HR8.out.row HLE.out FB8.out GB.out).mono ?_
        rintro e w9 ⟨Aj, kj, cj, ysj, rfl, hy, hyd, b9⟩
        have HY := hide hy
        have HYD := hide hyd
        have HR9 := hide (HR8.out.under b9)
        have KI9 := hide (KI.out.under b9)
        have FB9 := hide (FB8.out.under b9)
        have hlb := loadBlk_run w9 (w4.heap.size + 1) 0 b (K8.out.under b9).whole (by rw [HBH.out]; exact HHF.out)
        clear hy hyd b9
        go_wp2_with fail
        refine (Add_any w9 g ringP (ys.map BlkV.d) b HR9.out.ring FB9.out.fine GB.out (fun i h => h.elim)).mono ?_
        rintro e w10 ⟨rfl, hr10, o10⟩
        have hg10 := G2.out
        have HJ := hide (show RunsAt w2 w10 g Aj kj ysj from ⟨HY.out.step o10 (fun i _ h => by have h9 : i = g := h; omega), by rw [HYD.out]; exact hr10, by rw [HYD.out]; exact addD_sole HR9.out.sole, by
          have h1 := hr10.len
          rw [← HYD.out, List.length_map, HY.out.len] at h1
          exact h1, HR9.out.only.trans o10 fun _ _ h => h⟩)
        have KJ := hide (o10.blk KI9.out (fun e => by have := BW6.out.size; have := HRR.out.only.size; omega))
        obtain ⟨q0, hq0⟩ : ∃ q, q = (addD (ys.map BlkV.d) b.d).2 := ⟨_, rfl⟩
        rw [← hq0]
        clear hr10 o10 hq0 hlb
        go_wp2_with fail
        have HLJ := hide (show (ysj.map BlkV.d).length = kj by rw [List.length_map, HJ.out.row.len])
        obtain ⟨q, hq⟩ : ∃ q, q = hasD (ysj.map BlkV.d) H := ⟨_, rfl⟩
        have HQ := hide hq.symm
        clear hq
        refine wp_region_held_drew (S := fun w' => Below w10.heap.size w10 w') (by kernel_rfl) ((Below.refl _ w10).drew) (fun hSA0 => ?_)
        obtain ⟨w10d, hwA⟩ : ∃ x, x = w10.drew := ⟨_, rfl⟩
        rw [← hwA] at hSA0 ⊢
        clear hwA
        (refine wpAnyH_take (i := 0) (oi := ⟨some 72, .move (.tmp 3), 24, "law.go:59", #[], none⟩) (v := ?_) rfl (by kernel_rfl) (by kernel_rfl) (by kernel_rfl) (fun _ _ _ h => h) (Or.inl ⟨by rfl, fun w' hSw => ?_⟩) hSA0 ?_; rotate_left; focus (go_simp; try with_reducible rfl))
        simp only [Act.put, List.setIfInBounds_toArray, List.set_cons_zero, List.set_cons_succ]
        (refine wpAnyH_take (i := 2) (oi := ⟨some 74, .move (.tmp 4), 26, "law.go:59", #[], none⟩) (v := ?_) rfl (by kernel_rfl) (by kernel_rfl) (by kernel_rfl) (fun _ _ _ h => h) (Or.inl ⟨by rfl, fun w' hSw => ?_⟩) hSA0 ?_; rotate_left; focus (go_simp; try with_reducible rfl))
        simp only [Act.put, List.setIfInBounds_toArray, List.set_cons_zero, List.set_cons_succ]
        (refine wpAnyH_take (i := 3) (oi := ⟨some 75, .call { callee := .builtin .len, args := #[.tmp 74], argTypes := #[26] }, 3, "law.go:59", #[⟨2, .data⟩], none⟩) (v := ?_) rfl (by kernel_rfl) (by kernel_rfl) (by kernel_rfl) (fun _ _ _ h => h) (Or.inl ⟨by rfl, fun w' hSw => ?_⟩) hSA0 ?_; rotate_left; focus (go_simp; try with_reducible rfl))
        simp only [Act.put, List.setIfInBounds_toArray, List.set_cons_zero, List.set_cons_succ]
        refine wpAnyH_ready (rs := [1]) (by kernel_rfl) (by simp) ?_
        refine AllReadyH.cons rfl (fun K hK => ?_) AllReadyH.nil
        go_simp
        go_wp2_with (go_at_call 23; refine (WLenD_any w10d g ringP (ysj.map BlkV.d) (HJ.out.ring.under hSA0)).mono ?_; rintro e wz ⟨rfl, hwz⟩; rw [HLJ.out, hwz]; clear hwz)
        refine hK.out _ _ (hSA0) (fun hSA1 => ?_)
        clear hK K
        (refine wpAnyH_take (i := 4) (oi := ⟨some 76, .binOp .neq 3 (.tmp 73) (.tmp 75) 3, 4, "law.go:59", #[⟨1, .data⟩, ⟨3, .data⟩], none⟩) (v := ?_) rfl (by kernel_rfl) (by kernel_rfl) (by kernel_rfl) (fun _ _ _ h => h) (Or.inl ⟨by rfl, fun w' hSw => ?_⟩) hSA1 ?_; rotate_left; focus (go_simp; try with_reducible rfl))
        simp only [Act.put, List.setIfInBounds_toArray, List.set_cons_zero, List.set_cons_succ]
        (refine wpAnyH_take (i := 5) (oi := ⟨some 77, .move (.tmp 76), 4, "law.go:59", #[⟨4, .data⟩, ⟨1, .chain⟩], none⟩) (v := ?_) rfl (by kernel_rfl) (by kernel_rfl) (by kernel_rfl) (fun _ _ _ h => h) (Or.inl ⟨by rfl, fun w' hSw => ?_⟩) hSA1 ?_; rotate_left; focus (go_simp; try with_reducible rfl))
        simp only [Act.put, List.setIfInBounds_toArray, List.set_cons_zero, List.set_cons_succ]
        (refine wpAnyH_take (i := 6) (oi := ⟨some 78, .move (.tmp 3), 24, "law.go:59", #[⟨5, .guard⟩], some (5, false)⟩) (v := ?_) rfl (by kernel_rfl) (by kernel_rfl) (by kernel_rfl) (fun _ _ _ h => h) (Or.inl ⟨by rfl, fun w' hSw => ?_⟩) hSA1 ?_; rotate_left; focus (go_simp; try with_reducible rfl))
        simp only [Act.put, List.setIfInBounds_toArray, List.set_cons_zero, List.set_cons_succ]
        (refine wpAnyH_take (i := 7) (oi := ⟨some 79, .load 31 (.tmp 8), 31, "law.go:59", #[⟨5, .guard⟩], some (5, false)⟩) (v := ?_) rfl (by kernel_rfl) (by kernel_rfl) (by kernel_rfl) (fun _ _ _ h => h) (Or.inl ⟨by rfl, fun w' hSw => ?_⟩) hSA1 ?_; rotate_left; focus (have z1 := loadHashW_run w' w6.heap.size 0 H (range_under KJ.out.whole hSw) HHL.out; go_simp; try with_reducible rfl))
        simp only [Act.put, List.setIfInBounds_toArray, List.set_cons_zero, List.set_cons_succ]
        (refine wpAnyH_take (i := 9) (oi := ⟨some 81, .move (.tmp 4), 26, "law.go:59", #[⟨5, .guard⟩], some (5, false)⟩) (v := ?_) rfl (by kernel_rfl) (by kernel_rfl) (by kernel_rfl) (fun _ _ _ h => h) (Or.inl ⟨by rfl, fun w' hSw => ?_⟩) hSA1 ?_; rotate_left; focus (go_simp; try with_reducible rfl))
        simp only [Act.put, List.setIfInBounds_toArray, List.set_cons_zero, List.set_cons_succ]
        (refine wpAnyH_take (i := 10) (oi := ⟨some 82, .load 31 (.tmp 8), 31, "law.go:59", #[⟨5, .guard⟩], some (5, false)⟩) (v := ?_) rfl (by kernel_rfl) (by kernel_rfl) (by kernel_rfl) (fun _ _ _ h => h) (Or.inl ⟨by rfl, fun w' hSw => ?_⟩) hSA1 ?_; rotate_left; focus (have z1 := loadHashW_run w' w6.heap.size 0 H (range_under KJ.out.whole hSw) HHL.out; go_simp; try with_reducible rfl))
        simp only [Act.put, List.setIfInBounds_toArray, List.set_cons_zero, List.set_cons_succ]
        refine wpAnyH_ready (rs := [8]) (by kernel_rfl) (by simp) ?_
        refine AllReadyH.cons rfl (fun K hK => ?_) AllReadyH.nil
        go_simp
        go_simp
        go_wp2_with (go_at_call 24; refine (WHas_any w10d g ringP (ysj.map BlkV.d) H (HJ.out.ring.under hSA1) HHL.out).mono ?_; rintro e wh ⟨rfl, b9⟩; rw [HQ.out])
        have Bh := hide (Below.then_ hSA1 b9)
        clear b9
        refine hK.out _ _ (Bh.out) (fun hSA2 => ?_)
        clear hK K
        refine wpAnyH_ready (rs := [11]) (by kernel_rfl) (by simp) ?_
        refine AllReadyH.cons rfl (fun K hK => ?_) AllReadyH.nil
        go_simp
        go_simp
        go_wp2_with (go_at_call 25; refine (refWHas_any wh Aj kj cj ysj H (HJ.out.row.under hSA2).in_ (by have := HJ.out.few; omega) HHL.out).mono ?_; rintro e wi ⟨rfl, b9⟩; rw [hasL_d, HQ.out])
        have Bi := hide (Below.then_ hSA2 b9)
        clear b9
        refine hK.out _ _ (Bi.out) (fun hSA3 => ?_)
        clear hK K
        (refine wpAnyH_take (i := 12) (oi := ⟨some 84, .binOp .neq 4 (.tmp 80) (.tmp 83) 4, 4, "law.go:59", #[⟨8, .data⟩, ⟨11, .data⟩, ⟨5, .guard⟩], some (5, false)⟩) (v := ?_) rfl (by kernel_rfl) (by kernel_rfl) (by kernel_rfl) (fun _ _ _ h => h) (Or.inl ⟨by rfl, fun w' hSw => ?_⟩) hSA3 ?_; rotate_left; focus (go_simp; try with_reducible rfl))
        simp only [Act.put, List.setIfInBounds_toArray, List.set_cons_zero, List.set_cons_succ]
        (refine wpAnyH_take (i := 13) (oi := ⟨some 85, .pick (.tmp 77) (.const (.bool Bool.true)) (.tmp 84), 4, "law.go:59", #[⟨5, .data⟩, ⟨12, .data⟩], none⟩) (v := ?_) rfl (by kernel_rfl) (by kernel_rfl) (by kernel_rfl) (fun _ _ _ h => h) (Or.inl ⟨by rfl, fun w' hSw => ?_⟩) hSA3 ?_; rotate_left; focus (go_simp; try with_reducible rfl))
        simp only [Act.put, List.setIfInBounds_toArray, List.set_cons_zero, List.set_cons_succ]
        (refine wpAnyH_take (i := 14) (oi := ⟨some 86, .move (.tmp 85), 4, "law.go:59", #[⟨13, .data⟩, ⟨11, .chain⟩], none⟩) (v := ?_) rfl (by kernel_rfl) (by kernel_rfl) (by kernel_rfl) (fun _ _ _ h => h) (Or.inl ⟨by rfl, fun w' hSw => ?_⟩) hSA3 ?_; rotate_left; focus (go_simp; try with_reducible rfl))
        simp only [Act.put, List.setIfInBounds_toArray, List.set_cons_zero, List.set_cons_succ]
        (refine wpAnyH_take (i := 15) (oi := ⟨some 87, .move (.tmp 3), 24, "law.go:59", #[⟨14, .guard⟩], some (14, false)⟩) (v := ?_) rfl (by kernel_rfl) (by kernel_rfl) (by kernel_rfl) (fun _ _ _ h => h) (Or.inl ⟨by rfl, fun w' hSw => ?_⟩) hSA3 ?_; rotate_left; focus (go_simp; try with_reducible rfl))
        simp only [Act.put, List.setIfInBounds_toArray, List.set_cons_zero, List.set_cons_succ]
        (refine wpAnyH_take (i := 17) (oi := ⟨some 89, .move (.tmp 4), 26, "law.go:59", #[⟨14, .guard⟩], some (14, false)⟩) (v := ?_) rfl (by kernel_rfl) (by kernel_rfl) (by kernel_rfl) (fun _ _ _ h => h) (Or.inl ⟨by rfl, fun w' hSw => ?_⟩) hSA3 ?_; rotate_left; focus (go_simp; try with_reducible rfl))
        simp only [Act.put, List.setIfInBounds_toArray, List.set_cons_zero, List.set_cons_succ]
        refine wpAnyH_ready (rs := [16]) (by kernel_rfl) (by simp) ?_
        refine AllReadyH.cons rfl (fun K hK => ?_) AllReadyH.nil
        go_simp
        go_simp
        go_wp2_with (go_at_call 26; refine (All_any wi g ringP (ysj.map BlkV.d) (HJ.out.ring.under hSA3)).mono ?_; rintro e wa ⟨Aa, ca, zz, rfl, ha, had, b9⟩; rw [HLJ.out] at ha ⊢)
        have Ba := hide (Below.then_ hSA3 b9)
        have HAA := hide ha
        have HAD := hide had
        clear b9 ha had
        refine hK.out _ _ (Ba.out) (fun hSA4 => ?_)
        clear hK K
        refine wpAnyH_ready (rs := [18]) (by kernel_rfl) (by simp) ?_
        refine AllReadyH.cons rfl (fun K hK => ?_) AllReadyH.nil
        go_simp
        go_simp
        go_wp2_with (go_at_call 19; refine (refWSame_any wa Aa Aj kj ca kj cj zz ysj HAA.out.in_ (HJ.out.row.under hSA4).in_ (fun x hx => (HAA.out.good x hx).small) (fun x hx => (HJ.out.row.good x hx).small) (by have := HJ.out.few; omega) HAD.out).mono ?_; rintro e ws ⟨rfl, b9⟩)
        have Bs := hide (Below.then_ hSA4 b9)
        clear b9
        refine hK.out _ _ (Bs.out) (fun hSA5 => ?_)
        clear hK K
        (refine wpAnyH_take (i := 19) (oi := ⟨some 91, .unOp .not 4 (.tmp 90), 4, "law.go:59", #[⟨18, .data⟩, ⟨14, .guard⟩], some (14, false)⟩) (v := ?_) rfl (by kernel_rfl) (by kernel_rfl) (by kernel_rfl) (fun _ _ _ h => h) (Or.inl ⟨by rfl, fun w' hSw => ?_⟩) hSA5 ?_; rotate_left; focus (go_simp; try with_reducible rfl))
        simp only [Act.put, List.setIfInBounds_toArray, List.set_cons_zero, List.set_cons_succ]
        (refine wpAnyH_take (i := 20) (oi := ⟨some 92, .pick (.tmp 86) (.const (.bool Bool.true)) (.tmp 91), 4, "law.go:59", #[⟨14, .data⟩, ⟨19, .data⟩], none⟩) (v := ?_) rfl (by kernel_rfl) (by kernel_rfl) (by kernel_rfl) (fun _ _ _ h => h) (Or.inl ⟨by rfl, fun w' hSw => ?_⟩) hSA5 ?_; rotate_left; focus (go_simp; try with_reducible rfl))
        simp only [Act.put, List.setIfInBounds_toArray, List.set_cons_zero, List.set_cons_succ]
        refine wpAnyH_done (by kernel_rfl) ?_ _
        go_wp2_with fail
        exact ⟨⟨j + 1, Aj, kj, cj, ysj, by have := hjm.out; omega, by simp, rfl, HJ.out.under Bs.out⟩, by have := hjm.out; simp [intOf]; omega⟩
    · have i1 : ¬ (j : Int) < (n : Int) := by omega
      go_wp2_with fail
      go_ret
      exact ⟨rfl, HB.out⟩
end Go.Proofs.Ytbpmcnfmgaolnaa
