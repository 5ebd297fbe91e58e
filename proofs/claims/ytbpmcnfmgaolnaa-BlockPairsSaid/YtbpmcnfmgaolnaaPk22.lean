import Derived.Test.YtbpmcnfmgaolnaaPk20
/-
  The document: what stands for all hashes.
-/
namespace Go.Proofs.Ytbpmcnfmgaolnaa
open Go.RowKit

attribute [local go_sem ↓] loadHash_fold mkHash_fold eqlHash_fold mkHs1_fold
attribute [local go_sem] mkHash_zero guardHash
set_option maxHeartbeats 8000000 in
set_option maxRecDepth 100000 in
theorem refRoot_any : ∀ (k : Nat) (w : World) (A : Option Addr) (n c : Nat) (l : List (List Int)), l.length < k → HashesIn w A n l → n ≤ 1000 →
    Calls Try.prog 30 #[.slice A n c] w (RootPost w l) := by
  intro k
  induction k with
  | zero => intro w A n c l hk; omega
  | succ k ih =>
  intro w A n c l hk hH hn
  have HH := hide hH
  have HN := hide hn
  have HK := hide hk
  have hlen := hide hH.1
  have BZ := hide (Blk.new w 31 (bcs zero32))
  have b0 := hide (below_alloc (Below.refl _ w) (.cells (bcs zero32).toArray 31))
  have IH := hide ih
  clear hH hn hk ih
  by_cases h0 : n = 0
  · subst h0
    have hl : l = [] := List.eq_nil_of_length_eq_zero hlen.out
    subst hl
    go_enter Try.func30, Try.ntmps30
    go_wp2_with (first
      | (refine wpList_alloc_agg rfl 31 rfl (bcs zero32) zeroHash_info ?_; simp only [Act.put, List.setIfInBounds_toArray, List.set_cons_zero, List.set_cons_succ])
      | (refine wpList_store_blk rfl 31 _ _ rfl w.heap.size 0 31 (bcs zero32) (bcs zero32) (by rfl) (by rfl) BZ.out (Nat.le_refl _) (by exact isHash32) (bcs_one _) ?_; intro w9 o9 z9 b9; rw [lay_all _ _ rfl] at b9; simp only [Act.put]))
    refine bodyPost_ret (results_hash_tmp _ _ _ rfl _ _ w.heap.size zero32 rfl (by rfl) b9) rfl ⟨rfl, ?_⟩
    exact b0.out.trans (o9.below b0.out.size (fun i hi e => by have h9 : i = w.heap.size := e; omega))
  · by_cases h1 : n = 1
    · subst h1
      obtain ⟨x, hx⟩ : ∃ x, l = [x] := List.length_eq_one_iff.1 hlen.out
      subst hx
      obtain ⟨pb, off, rfl, hr⟩ := HH.out.2.2 (by decide)
      have hxf := HH.out.2.1 x (by simp)
      have hr0 := hr 0 x rfl
      have hr1 : w.rangeAt pb off (bcs x) := by simpa using hr0
      have hld := loadHashB_run (w.alloc (.cells (bcs zero32).toArray 31)) pb off x (range_under hr1 b0.out) hxf.1
      have HXL := hide hxf.1
      clear hr hr0 hr1
      go_enter Try.func30, Try.ntmps30
      go_wp2_with (first
        | (refine wpList_alloc_agg rfl 31 rfl (bcs zero32) zeroHash_info ?_; simp only [Act.put, List.setIfInBounds_toArray, List.set_cons_zero, List.set_cons_succ])
        | (refine wpList_store_blk rfl 31 _ _ rfl w.heap.size 0 31 (bcs zero32) (bcs x) (by rfl) (by rfl) BZ.out (by rw [bcs_length, bcs_length, HXL.out]; decide) (by rw [bcs_length, HXL.out]; exact isHash32) (bcs_one _) ?_; intro w9 o9 z9 b9; rw [lay_all _ _ (by rw [bcs_length, bcs_length, HXL.out]; rfl)] at b9; simp only [Act.put]))
      refine bodyPost_ret (results_hash_tmp _ _ _ rfl _ _ w.heap.size x HXL.out (by rfl) b9) rfl ⟨rfl, ?_⟩
      exact b0.out.trans (o9.below b0.out.size (fun i hi e => by have h9 : i = w.heap.size := e; omega))
    · have hc0 : ((n : Int) == 0) = false := by simp; omega
      have hc1 : ((n : Int) == 1) = false := by simp; omega
      go_enter Try.func30, Try.ntmps30
      go_wp2_with (refine wpList_alloc_agg rfl 31 rfl (bcs zero32) zeroHash_info ?_; simp only [Act.put, List.setIfInBounds_toArray, List.set_cons_zero, List.set_cons_succ])
      obtain ⟨w0, hw0⟩ : ∃ x, x = w.alloc (.cells (bcs zero32).toArray 31) := ⟨_, rfl⟩
      have hs0 : w.heap.size + 1 = w0.heap.size := by rw [hw0]; simp
      rw [← hw0] at BZ b0 ⊢
      rw [hs0]
      clear hw0 hs0
      obtain ⟨w1, hw1⟩ : ∃ x, x = w0.alloc (.cells #[] 31) := ⟨_, rfl⟩
      have M1 := hide (show MineR 31 32 w0 w1 (.slice (some ⟨w0.heap.size, 0, none⟩) 0 0) 0 (([] : List (List Int)).flatMap bcs) by rw [hw1]; exact MineR.empty [] rfl)
      rw [← hw1]
      clear hw1
      have h2 := hide (show 2 ≤ n by omega)
      go_loopw [4, 5, 6] (fun v s i ws => ∃ (j : Nat) (out : List (List Int)) (sb : Bool) (A' : Option Addr) (c' : Nat), j ≤ n + 1 ∧ i = .int .i64 (j : Int) ∧ v = .slice A' out.length c' ∧ s = .bool sb ∧ PairAt l j out sb ∧ out.length ≤ j ∧ (∀ x ∈ out, x.length = 32 ∧ Byt x) ∧ MineR 31 32 w0 ws (.slice A' out.length c') out.length (out.flatMap bcs)) (fun _ _ i _ => n + 1 - (intOf i).toNat)
      case atStart => exact ⟨0, [], false, _, _, by omega, rfl, rfl, rfl, PairAt.start l, by simp, by simp, M1.out⟩
      case round =>
        obtain ⟨j, out, sb, A4, c4, hj, rfl, rfl, rfl, hP, hol, hof, ht⟩ := hrel
        have HT := hide ht
        have HP := hide hP
        have HOL := hide hol
        have HOF := hide hof
        clear ht hP hol hof
        by_cases hlt : j < n
        · obtain ⟨x, hx⟩ : ∃ x, l[j]? = some x := ⟨_, List.getElem?_eq_getElem (by have := hlen.out; omega)⟩
          obtain ⟨pb, off, rfl, hrow⟩ := HH.out.2.2 (by omega)
          have hxf := hide (HH.out.2.1 x (List.mem_of_getElem? hx))
          have HX := hide hx
          have HRX := hide (range_under (range_under (hrow j x hx) b0.out) HT.out.below)
          have i1 : (j : Int) < (n : Int) := by omega
          have hlt9 := hide hlt
          have hj9 : (j : Int) ≤ 1000 := by have := HN.out; omega
          clear hx hrow
          go_wp2_with fail
          refine wp_region_held_drew (S := fun w' => Below wr.heap.size wr w') (by kernel_rfl) (by exact (Below.refl _ _).drew) (fun hSA0 => ?_)
          obtain ⟨wrd, hwA⟩ : ∃ x, x = wr.drew := ⟨_, rfl⟩
          rw [← hwA] at hSA0 ⊢
          clear hwA
          (refine wpAnyH_take (i := 0) (oi := ⟨some 28, .move (.tmp 0), 65, "ref.go:53", #[], none⟩) (v := ?_) rfl (by kernel_rfl) (by kernel_rfl) (by kernel_rfl) (fun _ _ _ h => h) (Or.inl ⟨by rfl, fun w' hSw => ?_⟩) hSA0 ?_; rotate_left; focus (go_simp; try with_reducible rfl))
          simp only [Act.put, List.setIfInBounds_toArray, List.set_cons_zero, List.set_cons_succ]
          (refine wpAnyH_take (i := 1) (oi := ⟨some 29, .move (.tmp 6), 3, "ref.go:53", #[], none⟩) (v := ?_) rfl (by kernel_rfl) (by kernel_rfl) (by kernel_rfl) (fun _ _ _ h => h) (Or.inl ⟨by rfl, fun w' hSw => ?_⟩) hSA0 ?_; rotate_left; focus (go_simp; try with_reducible rfl))
          simp only [Act.put, List.setIfInBounds_toArray, List.set_cons_zero, List.set_cons_succ]
          (refine wpAnyH_take (i := 2) (oi := ⟨some 30, .indexAddr 65 (.tmp 28) (.tmp 29), 0, "ref.go:53", #[⟨0, .data⟩, ⟨1, .data⟩], none⟩) (v := ?_) rfl (by kernel_rfl) (by kernel_rfl) (by kernel_rfl) (fun _ _ _ h => h) (Or.inl ⟨by rfl, fun w' hSw => ?_⟩) hSA0 ?_; rotate_left; focus (go_simp; try with_reducible rfl))
          simp only [Act.put, List.setIfInBounds_toArray, List.set_cons_zero, List.set_cons_succ]
          (refine wpAnyH_take (i := 3) (oi := ⟨some 31, .load 31 (.tmp 30), 31, "ref.go:53", #[⟨2, .data⟩], none⟩) (v := ?_) rfl (by kernel_rfl) (by kernel_rfl) (by kernel_rfl) (fun _ _ _ h => h) (Or.inl ⟨by rfl, fun w' hSw => ?_⟩) hSA0 ?_; rotate_left; focus (have hl := loadHashB_run w' pb (off + j * 32) x (range_under HRX.out hSw) hxf.out.1; go_simp; try with_reducible rfl))
          simp only [Act.put, List.setIfInBounds_toArray, List.set_cons_zero, List.set_cons_succ]
          (refine wpAnyH_take (i := 4) (oi := ⟨some 32, .move (.tmp 0), 65, "ref.go:53", #[], none⟩) (v := ?_) rfl (by kernel_rfl) (by kernel_rfl) (by kernel_rfl) (fun _ _ _ h => h) (Or.inl ⟨by rfl, fun w' hSw => ?_⟩) hSA0 ?_; rotate_left; focus (go_simp; try with_reducible rfl))
          simp only [Act.put, List.setIfInBounds_toArray, List.set_cons_zero, List.set_cons_succ]
          (refine wpAnyH_take (i := 5) (oi := ⟨some 33, .move (.tmp 6), 3, "ref.go:53", #[], none⟩) (v := ?_) rfl (by kernel_rfl) (by kernel_rfl) (by kernel_rfl) (fun _ _ _ h => h) (Or.inl ⟨by rfl, fun w' hSw => ?_⟩) hSA0 ?_; rotate_left; focus (go_simp; try with_reducible rfl))
          simp only [Act.put, List.setIfInBounds_toArray, List.set_cons_zero, List.set_cons_succ]
          (refine wpAnyH_take (i := 6) (oi := ⟨some 34, .indexAddr 65 (.tmp 32) (.tmp 33), 0, "ref.go:53", #[⟨4, .data⟩, ⟨5, .data⟩], none⟩) (v := ?_) rfl (by kernel_rfl) (by kernel_rfl) (by kernel_rfl) (fun _ _ _ h => h) (Or.inl ⟨by rfl, fun w' hSw => ?_⟩) hSA0 ?_; rotate_left; focus (go_simp; try with_reducible rfl))
          simp only [Act.put, List.setIfInBounds_toArray, List.set_cons_zero, List.set_cons_succ]
          (refine wpAnyH_take (i := 7) (oi := ⟨some 35, .load 31 (.tmp 34), 31, "ref.go:53", #[⟨6, .data⟩], none⟩) (v := ?_) rfl (by kernel_rfl) (by kernel_rfl) (by kernel_rfl) (fun _ _ _ h => h) (Or.inl ⟨by rfl, fun w' hSw => ?_⟩) hSA0 ?_; rotate_left; focus (have hl := loadHashB_run w' pb (off + j * 32) x (range_under HRX.out hSw) hxf.out.1; go_simp; try with_reducible rfl))
          simp only [Act.put, List.setIfInBounds_toArray, List.set_cons_zero, List.set_cons_succ]
          refine wpAnyH_ready (rs := [8, 9]) (by kernel_rfl) (by simp) ?_
          refine AllReadyH.cons rfl (fun K hK => ?_) (AllReadyH.cons rfl (fun K hK => ?_) AllReadyH.nil)
          · refine step_alloc_agg rfl 31 rfl (bcs zero32) zeroHash_info ?_
            have K7wrdp7 := hide (Blk.new wrd 31 (bcs zero32))
            have Twrdp7 := hide (below_alloc hSA0 (.cells (bcs zero32).toArray 31))
            obtain ⟨p7, hp7⟩ : ∃ p, p = wrd.heap.size := ⟨_, rfl⟩
            have P7 := hide (show wr.heap.size ≤ p7 by rw [hp7]; exact hSA0.size)
            obtain ⟨wrdp7, hwwrdp7⟩ : ∃ x, x = wrd.alloc (.cells (bcs zero32).toArray 31) := ⟨_, rfl⟩
            rw [← hwwrdp7] at K7wrdp7 Twrdp7 ⊢
            rw [← hp7] at K7wrdp7 ⊢
            clear hp7 hwwrdp7
            simp only [Act.put, List.setIfInBounds_toArray]
            refine hK.out _ _ (Twrdp7.out) (fun hSA1 => ?_)
            clear hK K
            refine wpAnyH_ready (rs := [9]) (by kernel_rfl) (by simp) ?_
            refine AllReadyH.cons rfl (fun K hK => ?_) AllReadyH.nil
            refine step_alloc_agg rfl 31 rfl (bcs zero32) zeroHash_info ?_
            have K8wrdp7p8 := hide (Blk.new wrdp7 31 (bcs zero32))
            have K7wrdp7p8 := hide (K7wrdp7.out.alloc (.cells (bcs zero32).toArray 31))
            have hltwrdp7p8 := K7wrdp7.out.lt
            have Twrdp7p8 := hide (below_alloc hSA1 (.cells (bcs zero32).toArray 31))
            obtain ⟨p8, hp8⟩ : ∃ p, p = wrdp7.heap.size := ⟨_, rfl⟩
            have P8 := hide (show wr.heap.size ≤ p8 by rw [hp8]; exact hSA1.size)
            have NE := hide (show ¬ p7 = p8 by omega)
            clear hltwrdp7p8
            obtain ⟨wrdp7p8, hwwrdp7p8⟩ : ∃ x, x = wrdp7.alloc (.cells (bcs zero32).toArray 31) := ⟨_, rfl⟩
            rw [← hwwrdp7p8] at K8wrdp7p8 Twrdp7p8 ⊢
            rw [← hwwrdp7p8] at K7wrdp7p8
            rw [← hp8] at K8wrdp7p8 ⊢
            clear hp8 hwwrdp7p8
            simp only [Act.put]
            refine hK.out _ _ (Twrdp7p8.out) (fun hSA2 => ?_)
            clear hK K
            refine wpAnyH_ready (rs := [10]) (by kernel_rfl) (by simp) ?_
            refine AllReadyH.cons rfl (fun K hK => ?_) AllReadyH.nil
            refine step_store_blk rfl 31 _ _ rfl p7 0 31 (bcs zero32) (bcs x) (by rfl) (by rfl) K7wrdp7p8.out (by rw [bcs_length, bcs_length, hxf.out.1]; decide) (by rw [bcs_length, hxf.out.1]; exact isHash32) (bcs_one _) ?_
            intro w7s ow7s zw7s bw7s
            rw [lay_all _ _ (by rw [bcs_length, bcs_length, hxf.out.1]; rfl)] at bw7s
            have K7w7s := hide bw7s
            have K8w7s := hide (ow7s.blk K8wrdp7p8.out (fun e => NE.out e.symm))
            have Tw7s := hide (ow7s.under hSA2 (fun i hi => by have h9 : i = p7 := hi; have := P7.out; omega))
            clear ow7s zw7s bw7s
            simp only [Act.put]
            refine hK.out _ _ (Tw7s.out) (fun hSA3 => ?_)
            clear hK K
            refine wpAnyH_ready (rs := [11]) (by kernel_rfl) (by simp) ?_
            refine AllReadyH.cons rfl (fun K hK => ?_) AllReadyH.nil
            refine step_store_blk rfl 31 _ _ rfl p8 0 31 (bcs zero32) (bcs x) (by rfl) (by rfl) K8w7s.out (by rw [bcs_length, bcs_length, hxf.out.1]; decide) (by rw [bcs_length, hxf.out.1]; exact isHash32) (bcs_one _) ?_
            intro w8s ow8s zw8s bw8s
            rw [lay_all _ _ (by rw [bcs_length, bcs_length, hxf.out.1]; rfl)] at bw8s
            have K8w8s := hide bw8s
            have K7w8s := hide (ow8s.blk K7w7s.out NE.out)
            have Tw8s := hide (ow8s.under hSA3 (fun i hi => by have h9 : i = p8 := hi; have := P8.out; omega))
            clear ow8s zw8s bw8s
            simp only [Act.put]
            refine hK.out _ _ (Tw8s.out) (fun hSA4 => ?_)
            clear hK K
            refine wpAnyH_done (by kernel_rfl) ?_ _
            by_cases hb : j + 1 < n
            · have i2 : (j : Int) + 1 < (n : Int) := by omega
              obtain ⟨y, hy⟩ : ∃ y, l[j + 1]? = some y := ⟨_, List.getElem?_eq_getElem (by have := hlen.out; omega)⟩
              obtain ⟨pb', off', he9, hrow2⟩ := HH.out.2.2 (by omega)
              injection he9 with he9
              injection he9 with he9 he10 _
              subst he9
              subst he10
              have hyf := hide (HH.out.2.1 y (List.mem_of_getElem? hy))
              have HY := hide hy
              have hrb := range_under (range_under (range_under (hrow2 (j + 1) y hy) b0.out) HT.out.below) hSA4
              have hld2 := loadHashB_run w8s pb (off + (j + 1) * 32) y hrb hyf.out.1
              have K7n := hide K7w8s.out
              have K8n := hide K8w8s.out
              have TWn := hide hSA4
              clear hy hrow2 hrb
              have hq := fun w => eqlHash_run x y hxf.out.1 hyf.out.1 w
              obtain ⟨q, hqq⟩ : ∃ q, q = (x == y) := ⟨_, rfl⟩
              rw [← hqq] at hq
              have HQ := hide hqq
              clear hqq
              have hld := fun (w' : World) (h7 : Blk w' p7 31 (bcs x)) => loadHashB_run w' p7 0 x h7.whole hxf.out.1
              cases sb <;> cases q <;>
              (go_wp2_with (refine wpList_store_blk rfl 31 _ _ rfl p8 0 31 (bcs x) (bcs y) (by rfl) (by rfl) K8n.out (by rw [bcs_length, bcs_length, hxf.out.1, hyf.out.1]; decide) (by rw [bcs_length, hyf.out.1]; exact isHash32) (bcs_one _) ?_; intro wz o9 z9 b9; rw [lay_all _ _ (by rw [bcs_length, bcs_length, hxf.out.1, hyf.out.1])] at b9; have K8z := hide b9; have K7z := hide (o9.blk K7n.out NE.out); have TWm := hide (o9.under TWn.out (fun i hi => by have h9 : i = p8 := hi; have := P8.out; omega)); have hlx := hld wz K7z.out; have hly := loadHashB_run wz p8 0 y b9.whole hyf.out.1; clear o9 z9 b9; simp only [Act.put])
               have HTz := hide (HT.out.keep TWm.out)
               clear hlx hly hq hld hld2
               refine wp_region_held_drew (S := fun _ => True) (by kernel_rfl) (trivial) (fun hSZ0 => ?_)
               obtain ⟨wzd, hwZ⟩ : ∃ x, x = wz.drew := ⟨_, rfl⟩
               have Bz := hide (show Below wz.heap.size wz wzd by rw [hwZ]; exact (Below.refl _ _).drew)
               rw [← hwZ]
               clear hwZ
               (refine wpAnyH_take (i := 0) (oi := ⟨some 52, .move (.tmp 4), 65, "ref.go:58", #[], none⟩) (v := ?_) rfl (by kernel_rfl) (by kernel_rfl) (by kernel_rfl) (fun _ _ _ h => h) (Or.inl ⟨by rfl, fun w' hSw => ?_⟩) hSZ0 ?_; rotate_left; focus (go_simp; try with_reducible rfl))
               simp only [Act.put, List.setIfInBounds_toArray, List.set_cons_zero, List.set_cons_succ]
               (refine wpAnyH_take (i := 2) (oi := ⟨some 54, .slice 31 (.tmp 7) Option.none Option.none Option.none, 56, "ref.go:58", #[], none⟩) (v := ?_) rfl (by kernel_rfl) (by kernel_rfl) (by kernel_rfl) (fun _ _ _ h => h) (Or.inl ⟨by rfl, fun w' hSw => ?_⟩) hSZ0 ?_; rotate_left; focus (go_simp; try with_reducible rfl))
               simp only [Act.put, List.setIfInBounds_toArray, List.set_cons_zero, List.set_cons_succ]
               (refine wpAnyH_take (i := 4) (oi := ⟨some 56, .slice 31 (.tmp 8) Option.none Option.none Option.none, 56, "ref.go:58", #[], none⟩) (v := ?_) rfl (by kernel_rfl) (by kernel_rfl) (by kernel_rfl) (fun _ _ _ h => h) (Or.inl ⟨by rfl, fun w' hSw => ?_⟩) hSZ0 ?_; rotate_left; focus (go_simp; try with_reducible rfl))
               simp only [Act.put, List.setIfInBounds_toArray, List.set_cons_zero, List.set_cons_succ]
               refine wpAnyH_ready (rs := [1]) (by kernel_rfl) (by simp) ?_
               refine AllReadyH.cons rfl (fun K hK => ?_) AllReadyH.nil
               go_simp
               have Ma := hide (show Mine 5 wzd (wzd.alloc (.cells #[] 5)) (some ⟨wzd.heap.size, 0, none⟩) 0 0 [] from Mine.row0 (below_alloc (Below.refl _ wzd) _) (Nat.le_refl _) (heap_alloc_new wzd _) (by decide) rfl)
               have Ba := hide (below_alloc Bz.out (.cells #[] 5))
               obtain ⟨wa, hwa⟩ : ∃ x, x = wzd.alloc (.cells #[] 5) := ⟨_, rfl⟩
               rw [← hwa] at Ma Ba ⊢
               clear hwa
               refine hK.out _ _ (trivial) (fun hSZ1 => ?_)
               clear hK K
               refine wpAnyH_ready (rs := [3]) (by kernel_rfl) (by simp) ?_
               refine AllReadyH.cons rfl (fun K hK => ?_) AllReadyH.nil
               refine step_app (by rfl) _ (by rfl) _ _ (by rfl) wzd (some ⟨wzd.heap.size, 0, none⟩) 0 0 [] (by rfl) Ma.out (some ⟨p7, 0, none⟩) 32 32 x (by rfl) (by have h9 := Bys.of_blk (K7z.out.under Ba.out) hxf.out.2; rwa [hxf.out.1] at h9) (by decide) ?_
               intro A3 n3 c3 w3 t3 f3
               have M3 := hide t3
               have B3 := hide (Below.then_ Bz.out t3.below)
               have e3 := hide (show n3 = 32 by rw [← t3.len, List.nil_append]; exact hxf.out.1)
               clear t3 f3
               refine hK.out _ _ (trivial) (fun hSZ2 => ?_)
               clear hK K
               refine wpAnyH_ready (rs := [5]) (by kernel_rfl) (by simp) ?_
               refine AllReadyH.cons rfl (fun K hK => ?_) AllReadyH.nil
               refine step_app (by rfl) _ (by rfl) _ _ (by rfl) wzd A3 n3 c3 _ (by rfl) M3.out (some ⟨p8, 0, none⟩) 32 32 y (by rfl) (by have h9 := Bys.of_blk (K8z.out.under B3.out) hyf.out.2; rwa [hyf.out.1] at h9) (by rw [e3.out]; decide) ?_
               intro Ay ny cy w4 t4 f4
               have M4 := hide t4
               have B4 := hide (Below.then_ Bz.out t4.below)
               have e4 := hide (show ny = 64 by have h1 := t4.len; have h2 := hxf.out.1; have h3 := hyf.out.1; simp only [List.nil_append, List.length_append] at h1; omega)
               clear t4 f4
               refine hK.out _ _ (trivial) (fun hSZ3 => ?_)
               clear hK K
               refine wpAnyH_ready (rs := [6]) (by kernel_rfl) (by simp) ?_
               refine AllReadyH.cons rfl (fun K hK => ?_) AllReadyH.nil
               go_simp
               go_wp2_with (go_at_call 67; refine (rtwice_any w4 Ay ny cy (x ++ y) (by have h9 := M4.out.bys; rwa [List.nil_append] at h9) (by rw [e4.out]; decide)).mono ?_; rintro e w5 ⟨rfl, hb5⟩)
               have B5 := hide (Below.then_ B4.out hb5)
               clear hb5
               obtain ⟨H, hH⟩ : ∃ H, H = sha2 (x ++ y) := ⟨_, rfl⟩
               have HL := hide (show H.length = 32 ∧ Byt H by rw [hH]; exact ⟨sha2_len _, sha2_byt _⟩)
               rw [← hH]
               have HHH := hide hH
               clear hH
               refine hK.out _ _ (trivial) (fun hSZ4 => ?_)
               clear hK K
               refine wpAnyH_ready (rs := [7]) (by kernel_rfl) (by simp) ?_
               refine AllReadyH.cons rfl (fun K hK => ?_) AllReadyH.nil
               have hmk := mkHs1_run w5 H HL.out.1
               go_simp
               clear hmk
               have NB := hide (show (w5.alloc (.cells (bcs H).toArray 31)).rangeAt w5.heap.size 0 (bcs H) from (Blk.new w5 31 (bcs H)).whole)
               have B6 := hide (below_alloc B5.out (.cells (bcs H).toArray 31))
               refine hK.out _ _ (trivial) (fun hSZ5 => ?_)
               clear hK K
               refine wpAnyH_ready (rs := [8]) (by kernel_rfl) (by simp) ?_
               refine AllReadyH.cons rfl (fun K hK => ?_) AllReadyH.nil
               refine step_mineR (by rfl) _ (by rfl) _ _ 65 (by rfl) 31 32 32 Try.underlying65 hash_infoR (by decide) w0 (.slice A4 out.length c4) out.length _ (by rfl) (HTz.out.keep B6.out) w5.heap.size 0 1 1 (bcs H) (by rfl) (by rw [bcs_length, HL.out.1]) NB.out (bcs_one _) (by have := HOL.out; have := hlt9.out; have := HN.out; omega) (by decide) ?_
               intro A7 c7 w7 q1
               have T7 := hide q1
               clear q1
               refine hK.out _ _ (trivial) (fun hSZ6 => ?_)
               clear hK K
               (refine wpAnyH_take (i := 9) (oi := ⟨some 4, .assign (.tmp 60), 65, "ref.go:58", #[⟨8, .data⟩, ⟨8, .chain⟩, ⟨0, .phase⟩, ⟨1, .phase⟩, ⟨2, .phase⟩, ⟨3, .phase⟩, ⟨4, .phase⟩, ⟨5, .phase⟩, ⟨6, .phase⟩, ⟨7, .phase⟩, ⟨8, .phase⟩], none⟩) (v := ?_) rfl (by kernel_rfl) (by kernel_rfl) (by kernel_rfl) (fun _ _ _ h => h) (Or.inl ⟨by rfl, fun w' hSw => ?_⟩) hSZ6 ?_; rotate_left; focus (go_simp; try with_reducible rfl))
               simp only [Act.put, List.setIfInBounds_toArray, List.set_cons_zero, List.set_cons_succ]
               refine wpAnyH_done (by kernel_rfl) ?_ _
               go_wp2_with fail
               exact ⟨⟨j + 2, out ++ [H], _, A7, c7, by have := hlt9.out; omega, by simp, by simp, rfl, by rw [HHH.out]; exact (by have h9 := HP.out.two HX.out HY.out; rw [← HQ.out] at h9; exact h9), by rw [List.length_append]; have := HOL.out; simp; omega, (fun a ha => by rcases List.mem_append.1 ha with h | h; exact HOF.out a h; rw [List.mem_singleton.1 h]; exact HL.out), by rw [List.length_append, List.flatMap_append]; simpa using T7.out⟩, by simp [intOf]; omega⟩)
            · have i2 : ¬ (j : Int) + 1 < (n : Int) := by omega
              have hld := loadHashB_run w8s p7 0 x K7w8s.out.whole hxf.out.1
              go_wp2_with fail
              have HTz := hide (HT.out.keep hSA4)
              have K7z := hide K7w8s.out
              have K8z := hide K8w8s.out
              clear hld
              obtain ⟨wz, hwz⟩ : ∃ z, z = w8s := ⟨_, rfl⟩
              rw [← hwz] at HTz K7z K8z ⊢
              clear hwz
              refine wp_region_held_drew (S := fun _ => True) (by kernel_rfl) (trivial) (fun hSZ0 => ?_)
              obtain ⟨wzd, hwZ⟩ : ∃ x, x = wz.drew := ⟨_, rfl⟩
              have Bz := hide (show Below wz.heap.size wz wzd by rw [hwZ]; exact (Below.refl _ _).drew)
              rw [← hwZ]
              clear hwZ
              (refine wpAnyH_take (i := 0) (oi := ⟨some 52, .move (.tmp 4), 65, "ref.go:58", #[], none⟩) (v := ?_) rfl (by kernel_rfl) (by kernel_rfl) (by kernel_rfl) (fun _ _ _ h => h) (Or.inl ⟨by rfl, fun w' hSw => ?_⟩) hSZ0 ?_; rotate_left; focus (go_simp; try with_reducible rfl))
              simp only [Act.put, List.setIfInBounds_toArray, List.set_cons_zero, List.set_cons_succ]
              (refine wpAnyH_take (i := 2) (oi := ⟨some 54, .slice 31 (.tmp 7) Option.none Option.none Option.none, 56, "ref.go:58", #[], none⟩) (v := ?_) rfl (by kernel_rfl) (by kernel_rfl) (by kernel_rfl) (fun _ _ _ h => h) (Or.inl ⟨by rfl, fun w' hSw => ?_⟩) hSZ0 ?_; rotate_left; focus (go_simp; try with_reducible rfl))
              simp only [Act.put, List.setIfInBounds_toArray, List.set_cons_zero, List.set_cons_succ]
              (refine wpAnyH_take (i := 4) (oi := ⟨some 56, .slice 31 (.tmp 8) Option.none Option.none Option.none, 56, "ref.go:58", #[], none⟩) (v := ?_) rfl (by kernel_rfl) (by kernel_rfl) (by kernel_rfl) (fun _ _ _ h => h) (Or.inl ⟨by rfl, fun w' hSw => ?_⟩) hSZ0 ?_; rotate_left; focus (go_simp; try with_reducible rfl))
              simp only [Act.put, List.setIfInBounds_toArray, List.set_cons_zero, List.set_cons_succ]
              refine wpAnyH_ready (rs := [1]) (by kernel_rfl) (by simp) ?_
              refine AllReadyH.cons rfl (fun K hK => ?_) AllReadyH.nil
              go_simp
              have Ma := hide (show Mine 5 wzd (wzd.alloc (.cells #[] 5)) (some ⟨wzd.heap.size, 0, none⟩) 0 0 [] from Mine.row0 (below_alloc (Below.refl _ wzd) _) (Nat.le_refl _) (heap_alloc_new wzd _) (by decide) rfl)
              have Ba := hide (below_alloc Bz.out (.cells #[] 5))
              obtain ⟨wa, hwa⟩ : ∃ x, x = wzd.alloc (.cells #[] 5) := ⟨_, rfl⟩
              rw [← hwa] at Ma Ba ⊢
              clear hwa
              refine hK.out _ _ (trivial) (fun hSZ1 => ?_)
              clear hK K
              refine wpAnyH_ready (rs := [3]) (by kernel_rfl) (by simp) ?_
              refine AllReadyH.cons rfl (fun K hK => ?_) AllReadyH.nil
              refine step_app (by rfl) _ (by rfl) _ _ (by rfl) wzd (some ⟨wzd.heap.size, 0, none⟩) 0 0 [] (by rfl) Ma.out (some ⟨p7, 0, none⟩) 32 32 x (by rfl) (by have h9 := Bys.of_blk (K7z.out.under Ba.out) hxf.out.2; rwa [hxf.out.1] at h9) (by decide) ?_
              intro A3 n3 c3 w3 t3 f3
              have M3 := hide t3
              have B3 := hide (Below.then_ Bz.out t3.below)
              have e3 := hide (show n3 = 32 by rw [← t3.len, List.nil_append]; exact hxf.out.1)
              clear t3 f3
              refine hK.out _ _ (trivial) (fun hSZ2 => ?_)
              clear hK K
              refine wpAnyH_ready (rs := [5]) (by kernel_rfl) (by simp) ?_
              refine AllReadyH.cons rfl (fun K hK => ?_) AllReadyH.nil
              refine step_app (by rfl) _ (by rfl) _ _ (by rfl) wzd A3 n3 c3 _ (by rfl) M3.out (some ⟨p8, 0, none⟩) 32 32 x (by rfl) (by have h9 := Bys.of_blk (K8z.out.under B3.out) hxf.out.2; rwa [hxf.out.1] at h9) (by rw [e3.out]; decide) ?_
              intro Ay ny cy w4 t4 f4
              have M4 := hide t4
              have B4 := hide (Below.then_ Bz.out t4.below)
              have e4 := hide (show ny = 64 by have h1 := t4.len; have h2 := hxf.out.1; have h3 := hxf.out.1; simp only [List.nil_append, List.length_append] at h1; omega)
              clear t4 f4
              refine hK.out _ _ (trivial) (fun hSZ3 => ?_)
              clear hK K
              refine wpAnyH_ready (rs := [6]) (by kernel_rfl) (by simp) ?_
              refine AllReadyH.cons rfl (fun K hK => ?_) AllReadyH.nil
              go_simp
              go_wp2_with (go_at_call 67; refine (rtwice_any w4 Ay ny cy (x ++ x) (by have h9 := M4.out.bys; rwa [List.nil_append] at h9) (by rw [e4.out]; decide)).mono ?_; rintro e w5 ⟨rfl, hb5⟩)
              have B5 := hide (Below.then_ B4.out hb5)
              clear hb5
              obtain ⟨H, hH⟩ : ∃ H, H = sha2 (x ++ x) := ⟨_, rfl⟩
              have HL := hide (show H.length = 32 ∧ Byt H by rw [hH]; exact ⟨sha2_len _, sha2_byt _⟩)
              rw [← hH]
              have HHH := hide hH
              clear hH
              refine hK.out _ _ (trivial) (fun hSZ4 => ?_)
              clear hK K
              refine wpAnyH_ready (rs := [7]) (by kernel_rfl) (by simp) ?_
              refine AllReadyH.cons rfl (fun K hK => ?_) AllReadyH.nil
              have hmk := mkHs1_run w5 H HL.out.1
              go_simp
              clear hmk
              have NB := hide (show (w5.alloc (.cells (bcs H).toArray 31)).rangeAt w5.heap.size 0 (bcs H) from (Blk.new w5 31 (bcs H)).whole)
              have B6 := hide (below_alloc B5.out (.cells (bcs H).toArray 31))
              refine hK.out _ _ (trivial) (fun hSZ5 => ?_)
              clear hK K
              refine wpAnyH_ready (rs := [8]) (by kernel_rfl) (by simp) ?_
              refine AllReadyH.cons rfl (fun K hK => ?_) AllReadyH.nil
              refine step_mineR (by rfl) _ (by rfl) _ _ 65 (by rfl) 31 32 32 Try.underlying65 hash_infoR (by decide) w0 (.slice A4 out.length c4) out.length _ (by rfl) (HTz.out.keep B6.out) w5.heap.size 0 1 1 (bcs H) (by rfl) (by rw [bcs_length, HL.out.1]) NB.out (bcs_one _) (by have := HOL.out; have := hlt9.out; have := HN.out; omega) (by decide) ?_
              intro A7 c7 w7 q1
              have T7 := hide q1
              clear q1
              refine hK.out _ _ (trivial) (fun hSZ6 => ?_)
              clear hK K
              (refine wpAnyH_take (i := 9) (oi := ⟨some 4, .assign (.tmp 60), 65, "ref.go:58", #[⟨8, .data⟩, ⟨8, .chain⟩, ⟨0, .phase⟩, ⟨1, .phase⟩, ⟨2, .phase⟩, ⟨3, .phase⟩, ⟨4, .phase⟩, ⟨5, .phase⟩, ⟨6, .phase⟩, ⟨7, .phase⟩, ⟨8, .phase⟩], none⟩) (v := ?_) rfl (by kernel_rfl) (by kernel_rfl) (by kernel_rfl) (fun _ _ _ h => h) (Or.inl ⟨by rfl, fun w' hSw => ?_⟩) hSZ6 ?_; rotate_left; focus (go_simp; try with_reducible rfl))
              simp only [Act.put, List.setIfInBounds_toArray, List.set_cons_zero, List.set_cons_succ]
              refine wpAnyH_done (by kernel_rfl) ?_ _
              go_wp2_with fail
              exact ⟨⟨j + 2, out ++ [H], _, A7, c7, by have := hlt9.out; omega, by simp, by simp, rfl, by rw [HHH.out]; exact (HP.out.one HX.out (by have := hlen.out; omega)), by rw [List.length_append]; have := HOL.out; simp; omega, (fun a ha => by rcases List.mem_append.1 ha with h | h; exact HOF.out a h; rw [List.mem_singleton.1 h]; exact HL.out), by rw [List.length_append, List.flatMap_append]; simpa using T7.out⟩, by simp [intOf]; omega⟩
          · refine step_alloc_agg rfl 31 rfl (bcs zero32) zeroHash_info ?_
            have K8wrdp8 := hide (Blk.new wrd 31 (bcs zero32))
            have Twrdp8 := hide (below_alloc hSA0 (.cells (bcs zero32).toArray 31))
            obtain ⟨p8, hp8⟩ : ∃ p, p = wrd.heap.size := ⟨_, rfl⟩
            have P8 := hide (show wr.heap.size ≤ p8 by rw [hp8]; exact hSA0.size)
            obtain ⟨wrdp8, hwwrdp8⟩ : ∃ x, x = wrd.alloc (.cells (bcs zero32).toArray 31) := ⟨_, rfl⟩
            rw [← hwwrdp8] at K8wrdp8 Twrdp8 ⊢
            rw [← hp8] at K8wrdp8 ⊢
            clear hp8 hwwrdp8
            simp only [Act.put, List.setIfInBounds_toArray]
            refine hK.out _ _ (Twrdp8.out) (fun hSA1 => ?_)
            clear hK K
            refine wpAnyH_ready (rs := [8]) (by kernel_rfl) (by simp) ?_
            refine AllReadyH.cons rfl (fun K hK => ?_) AllReadyH.nil
            refine step_alloc_agg rfl 31 rfl (bcs zero32) zeroHash_info ?_
            have K7wrdp8p7 := hide (Blk.new wrdp8 31 (bcs zero32))
            have K8wrdp8p7 := hide (K8wrdp8.out.alloc (.cells (bcs zero32).toArray 31))
            have hltwrdp8p7 := K8wrdp8.out.lt
            have Twrdp8p7 := hide (below_alloc hSA1 (.cells (bcs zero32).toArray 31))
            obtain ⟨p7, hp7⟩ : ∃ p, p = wrdp8.heap.size := ⟨_, rfl⟩
            have P7 := hide (show wr.heap.size ≤ p7 by rw [hp7]; exact hSA1.size)
            have NE := hide (show ¬ p7 = p8 by omega)
            clear hltwrdp8p7
            obtain ⟨wrdp8p7, hwwrdp8p7⟩ : ∃ x, x = wrdp8.alloc (.cells (bcs zero32).toArray 31) := ⟨_, rfl⟩
            rw [← hwwrdp8p7] at K7wrdp8p7 Twrdp8p7 ⊢
            rw [← hwwrdp8p7] at K8wrdp8p7
            rw [← hp7] at K7wrdp8p7 ⊢
            clear hp7 hwwrdp8p7
            simp only [Act.put]
            refine hK.out _ _ (Twrdp8p7.out) (fun hSA2 => ?_)
            clear hK K
            refine wpAnyH_ready (rs := [10]) (by kernel_rfl) (by simp) ?_
            refine AllReadyH.cons rfl (fun K hK => ?_) AllReadyH.nil
            refine step_store_blk rfl 31 _ _ rfl p7 0 31 (bcs zero32) (bcs x) (by rfl) (by rfl) K7wrdp8p7.out (by rw [bcs_length, bcs_length, hxf.out.1]; decide) (by rw [bcs_length, hxf.out.1]; exact isHash32) (bcs_one _) ?_
            intro w7s ow7s zw7s bw7s
            rw [lay_all _ _ (by rw [bcs_length, bcs_length, hxf.out.1]; rfl)] at bw7s
            have K7w7s := hide bw7s
            have K8w7s := hide (ow7s.blk K8wrdp8p7.out (fun e => NE.out e.symm))
            have Tw7s := hide (ow7s.under hSA2 (fun i hi => by have h9 : i = p7 := hi; have := P7.out; omega))
            clear ow7s zw7s bw7s
            simp only [Act.put]
            refine hK.out _ _ (Tw7s.out) (fun hSA3 => ?_)
            clear hK K
            refine wpAnyH_ready (rs := [11]) (by kernel_rfl) (by simp) ?_
            refine AllReadyH.cons rfl (fun K hK => ?_) AllReadyH.nil
            refine step_store_blk rfl 31 _ _ rfl p8 0 31 (bcs zero32) (bcs x) (by rfl) (by rfl) K8w7s.out (by rw [bcs_length, bcs_length, hxf.out.1]; decide) (by rw [bcs_length, hxf.out.1]; exact isHash32) (bcs_one _) ?_
            intro w8s ow8s zw8s bw8s
            rw [lay_all _ _ (by rw [bcs_length, bcs_length, hxf.out.1]; rfl)] at bw8s
            have K8w8s := hide bw8s
            have K7w8s := hide (ow8s.blk K7w7s.out NE.out)
            have Tw8s := hide (ow8s.under hSA3 (fun i hi => by have h9 : i = p8 := hi; have := P8.out; omega))
            clear ow8s zw8s bw8s
            simp only [Act.put]
            refine hK.out _ _ (Tw8s.out) (fun hSA4 => ?_)
            clear hK K
            refine wpAnyH_done (by kernel_rfl) ?_ _
            by_cases hb : j + 1 < n
            · have i2 : (j : Int) + 1 < (n : Int) := by omega
              obtain ⟨y, hy⟩ : ∃ y, l[j + 1]? = some y := ⟨_, List.getElem?_eq_getElem (by have := hlen.out; omega)⟩
              obtain ⟨pb', off', he9, hrow2⟩ := HH.out.2.2 (by omega)
              injection he9 with he9
              injection he9 with he9 he10 _
              subst he9
              subst he10
              have hyf := hide (HH.out.2.1 y (List.mem_of_getElem? hy))
              have HY := hide hy
              have hrb := range_under (range_under (range_under (hrow2 (j + 1) y hy) b0.out) HT.out.below) hSA4
              have hld2 := loadHashB_run w8s pb (off + (j + 1) * 32) y hrb hyf.out.1
              have K7n := hide K7w8s.out
              have K8n := hide K8w8s.out
              have TWn := hide hSA4
              clear hy hrow2 hrb
              have hq := fun w => eqlHash_run x y hxf.out.1 hyf.out.1 w
              obtain ⟨q, hqq⟩ : ∃ q, q = (x == y) := ⟨_, rfl⟩
              rw [← hqq] at hq
              have HQ := hide hqq
              clear hqq
              have hld := fun (w' : World) (h7 : Blk w' p7 31 (bcs x)) => loadHashB_run w' p7 0 x h7.whole hxf.out.1
              cases sb <;> cases q <;>
              (go_wp2_with (refine wpList_store_blk rfl 31 _ _ rfl p8 0 31 (bcs x) (bcs y) (by rfl) (by rfl) K8n.out (by rw [bcs_length, bcs_length, hxf.out.1, hyf.out.1]; decide) (by rw [bcs_length, hyf.out.1]; exact isHash32) (bcs_one _) ?_; intro wz o9 z9 b9; rw [lay_all _ _ (by rw [bcs_length, bcs_length, hxf.out.1, hyf.out.1])] at b9; have K8z := hide b9; have K7z := hide (o9.blk K7n.out NE.out); have TWm := hide (o9.under TWn.out (fun i hi => by have h9 : i = p8 := hi; have := P8.out; omega)); have hlx := hld wz K7z.out; have hly := loadHashB_run wz p8 0 y b9.whole hyf.out.1; clear o9 z9 b9; simp only [Act.put])
               have HTz := hide (HT.out.keep TWm.out)
               clear hlx hly hq hld hld2
               refine wp_region_held_drew (S := fun _ => True) (by kernel_rfl) (trivial) (fun hSZ0 => ?_)
               obtain ⟨wzd, hwZ⟩ : ∃ x, x = wz.drew := ⟨_, rfl⟩
               have Bz := hide (show Below wz.heap.size wz wzd by rw [hwZ]; exact (Below.refl _ _).drew)
               rw [← hwZ]
               clear hwZ
               (refine wpAnyH_take (i := 0) (oi := ⟨some 52, .move (.tmp 4), 65, "ref.go:58", #[], none⟩) (v := ?_) rfl (by kernel_rfl) (by kernel_rfl) (by kernel_rfl) (fun _ _ _ h => h) (Or.inl ⟨by rfl, fun w' hSw => ?_⟩) hSZ0 ?_; rotate_left; focus (go_simp; try with_reducible rfl))
               simp only [Act.put, List.setIfInBounds_toArray, List.set_cons_zero, List.set_cons_succ]
               (refine wpAnyH_take (i := 2) (oi := ⟨some 54, .slice 31 (.tmp 7) Option.none Option.none Option.none, 56, "ref.go:58", #[], none⟩) (v := ?_) rfl (by kernel_rfl) (by kernel_rfl) (by kernel_rfl) (fun _ _ _ h => h) (Or.inl ⟨by rfl, fun w' hSw => ?_⟩) hSZ0 ?_; rotate_left; focus (go_simp; try with_reducible rfl))
               simp only [Act.put, List.setIfInBounds_toArray, List.set_cons_zero, List.set_cons_succ]
               (refine wpAnyH_take (i := 4) (oi := ⟨some 56, .slice 31 (.tmp 8) Option.none Option.none Option.none, 56, "ref.go:58", #[], none⟩) (v := ?_) rfl (by kernel_rfl) (by kernel_rfl) (by kernel_rfl) (fun _ _ _ h => h) (Or.inl ⟨by rfl, fun w' hSw => ?_⟩) hSZ0 ?_; rotate_left; focus (go_simp; try with_reducible rfl))
               simp only [Act.put, List.setIfInBounds_toArray, List.set_cons_zero, List.set_cons_succ]
               refine wpAnyH_ready (rs := [1]) (by kernel_rfl) (by simp) ?_
               refine AllReadyH.cons rfl (fun K hK => ?_) AllReadyH.nil
               go_simp
               have Ma := hide (show Mine 5 wzd (wzd.alloc (.cells #[] 5)) (some ⟨wzd.heap.size, 0, none⟩) 0 0 [] from Mine.row0 (below_alloc (Below.refl _ wzd) _) (Nat.le_refl _) (heap_alloc_new wzd _) (by decide) rfl)
               have Ba := hide (below_alloc Bz.out (.cells #[] 5))
               obtain ⟨wa, hwa⟩ : ∃ x, x = wzd.alloc (.cells #[] 5) := ⟨_, rfl⟩
               rw [← hwa] at Ma Ba ⊢
               clear hwa
               refine hK.out _ _ (trivial) (fun hSZ1 => ?_)
               clear hK K
               refine wpAnyH_ready (rs := [3]) (by kernel_rfl) (by simp) ?_
               refine AllReadyH.cons rfl (fun K hK => ?_) AllReadyH.nil
               refine step_app (by rfl) _ (by rfl) _ _ (by rfl) wzd (some ⟨wzd.heap.size, 0, none⟩) 0 0 [] (by rfl) Ma.out (some ⟨p7, 0, none⟩) 32 32 x (by rfl) (by have h9 := Bys.of_blk (K7z.out.under Ba.out) hxf.out.2; rwa [hxf.out.1] at h9) (by decide) ?_
               intro A3 n3 c3 w3 t3 f3
               have M3 := hide t3
               have B3 := hide (Below.then_ Bz.out t3.below)
               have e3 := hide (show n3 = 32 by rw [← t3.len, List.nil_append]; exact hxf.out.1)
               clear t3 f3
               refine hK.out _ _ (trivial) (fun hSZ2 => ?_)
               clear hK K
               refine wpAnyH_ready (rs := [5]) (by kernel_rfl) (by simp) ?_
               refine AllReadyH.cons rfl (fun K hK => ?_) AllReadyH.nil
               refine step_app (by rfl) _ (by rfl) _ _ (by rfl) wzd A3 n3 c3 _ (by rfl) M3.out (some ⟨p8, 0, none⟩) 32 32 y (by rfl) (by have h9 := Bys.of_blk (K8z.out.under B3.out) hyf.out.2; rwa [hyf.out.1] at h9) (by rw [e3.out]; decide) ?_
               intro Ay ny cy w4 t4 f4
               have M4 := hide t4
               have B4 := hide (Below.then_ Bz.out t4.below)
               have e4 := hide (show ny = 64 by have h1 := t4.len; have h2 := hxf.out.1; have h3 := hyf.out.1; simp only [List.nil_append, List.length_append] at h1; omega)
               clear t4 f4
               refine hK.out _ _ (trivial) (fun hSZ3 => ?_)
               clear hK K
               refine wpAnyH_ready (rs := [6]) (by kernel_rfl) (by simp) ?_
               refine AllReadyH.cons rfl (fun K hK => ?_) AllReadyH.nil
               go_simp
               go_wp2_with (go_at_call 67; refine (rtwice_any w4 Ay ny cy (x ++ y) (by have h9 := M4.out.bys; rwa [List.nil_append] at h9) (by rw [e4.out]; decide)).mono ?_; rintro e w5 ⟨rfl, hb5⟩)
               have B5 := hide (Below.then_ B4.out hb5)
               clear hb5
               obtain ⟨H, hH⟩ : ∃ H, H = sha2 (x ++ y) := ⟨_, rfl⟩
               have HL := hide (show H.length = 32 ∧ Byt H by rw [hH]; exact ⟨sha2_len _, sha2_byt _⟩)
               rw [← hH]
               have HHH := hide hH
               clear hH
               refine hK.out _ _ (trivial) (fun hSZ4 => ?_)
               clear hK K
               refine wpAnyH_ready (rs := [7]) (by kernel_rfl) (by simp) ?_
               refine AllReadyH.cons rfl (fun K hK => ?_) AllReadyH.nil
               have hmk := mkHs1_run w5 H HL.out.1
               go_simp
               clear hmk
               have NB := hide (show (w5.alloc (.cells (bcs H).toArray 31)).rangeAt w5.heap.size 0 (bcs H) from (Blk.new w5 31 (bcs H)).whole)
               have B6 := hide (below_alloc B5.out (.cells (bcs H).toArray 31))
               refine hK.out _ _ (trivial) (fun hSZ5 => ?_)
               clear hK K
               refine wpAnyH_ready (rs := [8]) (by kernel_rfl) (by simp) ?_
               refine AllReadyH.cons rfl (fun K hK => ?_) AllReadyH.nil
               refine step_mineR (by rfl) _ (by rfl) _ _ 65 (by rfl) 31 32 32 Try.underlying65 hash_infoR (by decide) w0 (.slice A4 out.length c4) out.length _ (by rfl) (HTz.out.keep B6.out) w5.heap.size 0 1 1 (bcs H) (by rfl) (by rw [bcs_length, HL.out.1]) NB.out (bcs_one _) (by have := HOL.out; have := hlt9.out; have := HN.out; omega) (by decide) ?_
               intro A7 c7 w7 q1
               have T7 := hide q1
               clear q1
               refine hK.out _ _ (trivial) (fun hSZ6 => ?_)
               clear hK K
               (refine wpAnyH_take (i := 9) (oi := ⟨some 4, .assign (.tmp 60), 65, "ref.go:58", #[⟨8, .data⟩, ⟨8, .chain⟩, ⟨0, .phase⟩, ⟨1, .phase⟩, ⟨2, .phase⟩, ⟨3, .phase⟩, ⟨4, .phase⟩, ⟨5, .phase⟩, ⟨6, .phase⟩, ⟨7, .phase⟩, ⟨8, .phase⟩], none⟩) (v := ?_) rfl (by kernel_rfl) (by kernel_rfl) (by kernel_rfl) (fun _ _ _ h => h) (Or.inl ⟨by rfl, fun w' hSw => ?_⟩) hSZ6 ?_; rotate_left; focus (go_simp; try with_reducible rfl))
               simp only [Act.put, List.setIfInBounds_toArray, List.set_cons_zero, List.set_cons_succ]
               refine wpAnyH_done (by kernel_rfl) ?_ _
               go_wp2_with fail
               exact ⟨⟨j + 2, out ++ [H], _, A7, c7, by have := hlt9.out; omega, by simp, by simp, rfl, by rw [HHH.out]; exact (by have h9 := HP.out.two HX.out HY.out; rw [← HQ.out] at h9; exact h9), by rw [List.length_append]; have := HOL.out; simp; omega, (fun a ha => by rcases List.mem_append.1 ha with h | h; exact HOF.out a h; rw [List.mem_singleton.1 h]; exact HL.out), by rw [List.length_append, List.flatMap_append]; simpa using T7.out⟩, by simp [intOf]; omega⟩)
            · have i2 : ¬ (j : Int) + 1 < (n : Int) := by omega
              have hld := loadHashB_run w8s p7 0 x K7w8s.out.whole hxf.out.1
              go_wp2_with fail
              have HTz := hide (HT.out.keep hSA4)
              have K7z := hide K7w8s.out
              have K8z := hide K8w8s.out
              clear hld
              obtain ⟨wz, hwz⟩ : ∃ z, z = w8s := ⟨_, rfl⟩
              rw [← hwz] at HTz K7z K8z ⊢
              clear hwz
              refine wp_region_held_drew (S := fun _ => True) (by kernel_rfl) (trivial) (fun hSZ0 => ?_)
              obtain ⟨wzd, hwZ⟩ : ∃ x, x = wz.drew := ⟨_, rfl⟩
              have Bz := hide (show Below wz.heap.size wz wzd by rw [hwZ]; exact (Below.refl _ _).drew)
              rw [← hwZ]
              clear hwZ
              (refine wpAnyH_take (i := 0) (oi := ⟨some 52, .move (.tmp 4), 65, "ref.go:58", #[], none⟩) (v := ?_) rfl (by kernel_rfl) (by kernel_rfl) (by kernel_rfl) (fun _ _ _ h => h) (Or.inl ⟨by rfl, fun w' hSw => ?_⟩) hSZ0 ?_; rotate_left; focus (go_simp; try with_reducible rfl))
              simp only [Act.put, List.setIfInBounds_toArray, List.set_cons_zero, List.set_cons_succ]
              (refine wpAnyH_take (i := 2) (oi := ⟨some 54, .slice 31 (.tmp 7) Option.none Option.none Option.none, 56, "ref.go:58", #[], none⟩) (v := ?_) rfl (by kernel_rfl) (by kernel_rfl) (by kernel_rfl) (fun _ _ _ h => h) (Or.inl ⟨by rfl, fun w' hSw => ?_⟩) hSZ0 ?_; rotate_left; focus (go_simp; try with_reducible rfl))
              simp only [Act.put, List.setIfInBounds_toArray, List.set_cons_zero, List.set_cons_succ]
              (refine wpAnyH_take (i := 4) (oi := ⟨some 56, .slice 31 (.tmp 8) Option.none Option.none Option.none, 56, "ref.go:58", #[], none⟩) (v := ?_) rfl (by kernel_rfl) (by kernel_rfl) (by kernel_rfl) (fun _ _ _ h => h) (Or.inl ⟨by rfl, fun w' hSw => ?_⟩) hSZ0 ?_; rotate_left; focus (go_simp; try with_reducible rfl))
              simp only [Act.put, List.setIfInBounds_toArray, List.set_cons_zero, List.set_cons_succ]
              refine wpAnyH_ready (rs := [1]) (by kernel_rfl) (by simp) ?_
              refine AllReadyH.cons rfl (fun K hK => ?_) AllReadyH.nil
              go_simp
              have Ma := hide (show Mine 5 wzd (wzd.alloc (.cells #[] 5)) (some ⟨wzd.heap.size, 0, none⟩) 0 0 [] from Mine.row0 (below_alloc (Below.refl _ wzd) _) (Nat.le_refl _) (heap_alloc_new wzd _) (by decide) rfl)
              have Ba := hide (below_alloc Bz.out (.cells #[] 5))
              obtain ⟨wa, hwa⟩ : ∃ x, x = wzd.alloc (.cells #[] 5) := ⟨_, rfl⟩
              rw [← hwa] at Ma Ba ⊢
              clear hwa
              refine hK.out _ _ (trivial) (fun hSZ1 => ?_)
              clear hK K
              refine wpAnyH_ready (rs := [3]) (by kernel_rfl) (by simp) ?_
              refine AllReadyH.cons rfl (fun K hK => ?_) AllReadyH.nil
              refine step_app (by rfl) _ (by rfl) _ _ (by rfl) wzd (some ⟨wzd.heap.size, 0, none⟩) 0 0 [] (by rfl) Ma.out (some ⟨p7, 0, none⟩) 32 32 x (by rfl) (by have h9 := Bys.of_blk (K7z.out.under Ba.out) hxf.out.2; rwa [hxf.out.1] at h9) (by decide) ?_
              intro A3 n3 c3 w3 t3 f3
              have M3 := hide t3
              have B3 := hide (Below.then_ Bz.out t3.below)
              have e3 := hide (show n3 = 32 by rw [← t3.len, List.nil_append]; exact hxf.out.1)
              clear t3 f3
              refine hK.out _ _ (trivial) (fun hSZ2 => ?_)
              clear hK K
              refine wpAnyH_ready (rs := [5]) (by kernel_rfl) (by simp) ?_
              refine AllReadyH.cons rfl (fun K hK => ?_) AllReadyH.nil
              refine step_app (by rfl) _ (by rfl) _ _ (by rfl) wzd A3 n3 c3 _ (by rfl) M3.out (some ⟨p8, 0, none⟩) 32 32 x (by rfl) (by have h9 := Bys.of_blk (K8z.out.under B3.out) hxf.out.2; rwa [hxf.out.1] at h9) (by rw [e3.out]; decide) ?_
              intro Ay ny cy w4 t4 f4
              have M4 := hide t4
              have B4 := hide (Below.then_ Bz.out t4.below)
              have e4 := hide (show ny = 64 by have h1 := t4.len; have h2 := hxf.out.1; have h3 := hxf.out.1; simp only [List.nil_append, List.length_append] at h1; omega)
              clear t4 f4
              refine hK.out _ _ (trivial) (fun hSZ3 => ?_)
              clear hK K
              refine wpAnyH_ready (rs := [6]) (by kernel_rfl) (by simp) ?_
              refine AllReadyH.cons rfl (fun K hK => ?_) AllReadyH.nil
              go_simp
              go_wp2_with (go_at_call 67; refine (rtwice_any w4 Ay ny cy (x ++ x) (by have h9 := M4.out.bys; rwa [List.nil_append] at h9) (by rw [e4.out]; decide)).mono ?_; rintro e w5 ⟨rfl, hb5⟩)
              have B5 := hide (Below.then_ B4.out hb5)
              clear hb5
              obtain ⟨H, hH⟩ : ∃ H, H = sha2 (x ++ x) := ⟨_, rfl⟩
              have HL := hide (show H.length = 32 ∧ Byt H by rw [hH]; exact ⟨sha2_len _, sha2_byt _⟩)
              rw [← hH]
              have HHH := hide hH
              clear hH
              refine hK.out _ _ (trivial) (fun hSZ4 => ?_)
              clear hK K
              refine wpAnyH_ready (rs := [7]) (by kernel_rfl) (by simp) ?_
              refine AllReadyH.cons rfl (fun K hK => ?_) AllReadyH.nil
              have hmk := mkHs1_run w5 H HL.out.1
              go_simp
              clear hmk
              have NB := hide (show (w5.alloc (.cells (bcs H).toArray 31)).rangeAt w5.heap.size 0 (bcs H) from (Blk.new w5 31 (bcs H)).whole)
              have B6 := hide (below_alloc B5.out (.cells (bcs H).toArray 31))
              refine hK.out _ _ (trivial) (fun hSZ5 => ?_)
              clear hK K
              refine wpAnyH_ready (rs := [8]) (by kernel_rfl) (by simp) ?_
              refine AllReadyH.cons rfl (fun K hK => ?_) AllReadyH.nil
              refine step_mineR (by rfl) _ (by rfl) _ _ 65 (by rfl) 31 32 32 Try.underlying65 hash_infoR (by decide) w0 (.slice A4 out.length c4) out.length _ (by rfl) (HTz.out.keep B6.out) w5.heap.size 0 1 1 (bcs H) (by rfl) (by rw [bcs_length, HL.out.1]) NB.out (bcs_one _) (by have := HOL.out; have := hlt9.out; have := HN.out; omega) (by decide) ?_
              intro A7 c7 w7 q1
              have T7 := hide q1
              clear q1
              refine hK.out _ _ (trivial) (fun hSZ6 => ?_)
              clear hK K
              (refine wpAnyH_take (i := 9) (oi := ⟨some 4, .assign (.tmp 60), 65, "ref.go:58", #[⟨8, .data⟩, ⟨8, .chain⟩, ⟨0, .phase⟩, ⟨1, .phase⟩, ⟨2, .phase⟩, ⟨3, .phase⟩, ⟨4, .phase⟩, ⟨5, .phase⟩, ⟨6, .phase⟩, ⟨7, .phase⟩, ⟨8, .phase⟩], none⟩) (v := ?_) rfl (by kernel_rfl) (by kernel_rfl) (by kernel_rfl) (fun _ _ _ h => h) (Or.inl ⟨by rfl, fun w' hSw => ?_⟩) hSZ6 ?_; rotate_left; focus (go_simp; try with_reducible rfl))
              simp only [Act.put, List.setIfInBounds_toArray, List.set_cons_zero, List.set_cons_succ]
              refine wpAnyH_done (by kernel_rfl) ?_ _
              go_wp2_with fail
              exact ⟨⟨j + 2, out ++ [H], _, A7, c7, by have := hlt9.out; omega, by simp, by simp, rfl, by rw [HHH.out]; exact (HP.out.one HX.out (by have := hlen.out; omega)), by rw [List.length_append]; have := HOL.out; simp; omega, (fun a ha => by rcases List.mem_append.1 ha with h | h; exact HOF.out a h; rw [List.mem_singleton.1 h]; exact HL.out), by rw [List.length_append, List.flatMap_append]; simpa using T7.out⟩, by simp [intOf]; omega⟩
        · have i1 : ¬ (j : Int) < (n : Int) := by omega
          obtain ⟨rfl, rfl⟩ := HP.out.done (by have := hlen.out; omega)
          have hl2 := HOL.out
          have hnl := nextL_len l
          have HL2 := hide (show (nextL l).length < k ∧ (nextL l).length ≤ 1000 by have := HK.out; have := hlen.out; have := HN.out; have := h2.out; omega)
          have HHN := hide (show HashesIn wr A4 (nextL l).length (nextL l) from rows_of rfl (fun a ha => by rw [bcs_length, (HOF.out a ha).1]) HT.out.2 HOF.out)
          clear hl2 hnl
          go_wp2_with fail
          refine (IH.out wr A4 (nextL l).length c4 (nextL l) HL2.out.1 HHN.out HL2.out.2).mono ?_
          rintro e w5 ⟨rfl, hb5⟩
          have hst := rootL_two l (by rw [hlen.out]; exact h2.out)
          have hrl := (rootL_len (nextL l) HOF.out).1
          obtain ⟨H, hH⟩ : ∃ H, H = (rootL (nextL l)).1 := ⟨_, rfl⟩
          obtain ⟨s2, hs2⟩ : ∃ s, s = (rootL (nextL l)).2 := ⟨_, rfl⟩
          rw [← hH, ← hs2] at hst
          rw [← hH] at hrl
          rw [← hH, ← hs2]
          obtain ⟨s1, hs1⟩ : ∃ s, s = pairL l := ⟨_, rfl⟩
          rw [← hs1] at hst ⊢
          clear hH hs2 hs1
          have HST := hide hst
          have HRL := hide hrl
          have B5 := hide ((BZ.out.under HT.out.below).under hb5)
          have Bw5 := hide (Below.then_ (Below.then_ b0.out HT.out.below) hb5)
          have KZ := hide (Blk.new w5 31 (bcs zero32))
          clear hst hrl hb5
          cases s1 <;> cases s2 <;>
          (go_wp2_with (first
            | (refine wpList_alloc_agg rfl 31 rfl (bcs zero32) zeroHash_info ?_; simp only [Act.put, List.setIfInBounds_toArray, List.set_cons_zero, List.set_cons_succ])
            | (refine wpList_store_blk rfl 31 _ _ rfl w5.heap.size 0 31 (bcs zero32) (bcs H) (by rfl) (by rfl) KZ.out (by rw [bcs_length, bcs_length, HRL.out]; decide) (by rw [bcs_length, HRL.out]; exact isHash32) (bcs_one _) ?_; intro w7 o7 z7 b7; rw [lay_all _ _ (by rw [bcs_length, bcs_length, HRL.out]; rfl)] at b7; have l7 := loadHashB_run w7 w5.heap.size 0 H b7.whole HRL.out; have O7 := hide ((Only.alloc0 (F := fun i => i = w5.heap.size) w5 (.cells (bcs zero32).toArray 31)).trans o7 (fun _ _ h => h)); have hlt5 := B5.out.lt; have B7 := hide (O7.out.blk B5.out (show ¬ w.heap.size = w5.heap.size by omega)); clear o7 z7 b7 hlt5; simp only [Act.put])
            | (refine wpList_store_blk rfl 31 _ _ rfl w.heap.size 0 31 (bcs zero32) (bcs H) (by rfl) (by rfl) B7.out (by rw [bcs_length, bcs_length, HRL.out]; decide) (by rw [bcs_length, HRL.out]; exact isHash32) (bcs_one _) ?_; intro w9 o9 z9 b9; rw [lay_all _ _ (by rw [bcs_length, bcs_length, HRL.out]; rfl)] at b9; simp only [Act.put]))
           refine bodyPost_ret (results_hash_tmp _ _ _ rfl _ _ w.heap.size H HRL.out (by rfl) b9) rfl ⟨by rw [HST.out]; rfl, ?_⟩
           have hlt5 := B5.out.lt
           have b7 := Bw5.out.trans (O7.out.below Bw5.out.size (fun i hi e => by have h9 : i = w5.heap.size := e; omega))
           exact b7.trans (o9.below b7.size (fun i hi e => by have h9 : i = w.heap.size := e; omega)))
end Go.Proofs.Ytbpmcnfmgaolnaa
