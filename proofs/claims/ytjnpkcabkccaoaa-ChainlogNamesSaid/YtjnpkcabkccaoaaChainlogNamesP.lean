import Derived.Test.YtjnpkcabkccaoaaPk12
/-
  ChainlogNames: the law's walk.
-/
namespace Go.Proofs.Ytjnpkcabkccaoaa
open Go.RowKit

def zeros (n : Nat) : List Int := List.replicate n 0
theorem zeros_byt (n : Nat) : Byt (zeros n) := fun x hx => by have := List.eq_of_mem_replicate hx; omega
theorem make_zeros (n : Nat) (hn : n ≤ 1000) (w : World) : (Instr.makeSlice 28 (.int .i64 (n : Int)) (.int .i64 (n : Int))).run Try.prog w = .ok (.slice (some ⟨w.heap.size, 0, none⟩) n n) (w.alloc (.cells (bcs (zeros n)).toArray 5)) := by
  obtain ⟨i, z, hi, hz, hs1, hby, hzs⟩ := u8_info
  have hz8 : z = .int .u8 0 := by
    have h9 : (Try.prog.info? 5).map (·.zero) = some (some (.int .u8 0)) := by kernel_rfl
    rw [hi] at h9
    simp only [Option.map_some, Option.some.injEq] at h9
    rw [hz] at h9
    exact Option.some.inj h9
  have h := run_make_rowN (P := Try.prog) 28 5 i z Try.underlying28 hi hz .i64 .i64 n n (Nat.le_refl _) (by rw [hby]; omega) (by omega) w
  have e : madeCells (Value.int .u8 0).cells (n * 1) = (bcs (zeros n)).toArray := by
    apply Array.ext
    · simp [madeCells, bcs, zeros]
    · intro i h1 h2
      simp [madeCells, bcs, zeros, Value.cells, Nat.mod_one]
  rw [h, hz8, hs1, e]
/-- A log on a device, both new since w0. -/
structure LogW (w0 W : World) (g b : Nat) (F : Nat → Prop) (d : Dev) (l : LogD) : Prop where
  dev : DevRep W b F d
  log : LogAt W g b l
  ng : ¬ F g
  gl : g < W.heap.size
  g0 : w0.heap.size ≤ g
  below : Below w0.heap.size w0 W
  fresh : ∀ i, F i → w0.heap.size ≤ i
theorem LogW.under {w0 W W' : World} {g b : Nat} {F : Nat → Prop} {d : Dev} {l : LogD} (h : LogW w0 W g b F d l) (hb : Below W.heap.size W W') : LogW w0 W' g b F d l :=
  ⟨h.dev.under hb, h.log.under hb, h.ng, Nat.lt_of_lt_of_le h.gl hb.size, h.g0, Below.then_ h.below hb, h.fresh⟩
theorem LogW.post {w0 W W' : World} {g b : Nat} {F : Nat → Prop} {d : Dev} {l : LogD} {r : Dev × LogD × Int} {e : Ending} (h : LogW w0 W g b F d l) (hp : LogPost W g b F r e W') :
    e = .returned (.int .i64 r.2.2) ∧ ∃ F', LogW w0 W' g b F' r.1 r.2.1 ∧ (∀ i, F' i → F i ∨ W.heap.size ≤ i) ∧ Only (fun i => F i ∨ i = g) W W' := by
  obtain ⟨h1, F', h2, h3, h4, h5, h6, h7, h8, h9⟩ := hp.out h.gl h.ng h.below h.fresh h.g0
  exact ⟨h1, F', ⟨h2, h3, h4, h5, h.g0, h6, h7⟩, h8, h9⟩
/-- Bytes of another block. -/
structure ByW (W : World) (F : Nat → Prop) (g p n : Nat) (bs : List Int) : Prop where
  bys : Bys W (some ⟨p, 0, none⟩) n bs
  nf : ¬ F p
  ne : p ≠ g
  lt : p < W.heap.size
theorem ByW.new {w0 W : World} {g b : Nat} {F : Nat → Prop} {d : Dev} {l : LogD} (h : LogW w0 W g b F d l) (n : Nat) : ByW (W.alloc (.cells (bcs (zeros n)).toArray 5)) F g W.heap.size n (zeros n) := by
  have hB := Blk.new W 5 (bcs (zeros n))
  have h9 := hB.bys (zeros_byt n) 0 n (by simp [zeros])
  rw [List.drop_zero, List.take_of_length_le (by simp [zeros])] at h9
  exact ⟨h9, fun hf => by have := h.dev.lt _ hf; omega, fun e => by have := h.gl; omega, hB.lt⟩
theorem ByW.under {W W' : World} {F : Nat → Prop} {g p n : Nat} {bs : List Int} (h : ByW W F g p n bs) (hb : Below W.heap.size W W') : ByW W' F g p n bs := ⟨h.bys.below hb, h.nf, h.ne, Nat.lt_of_lt_of_le h.lt hb.size⟩
theorem ByW.post {W W' : World} {F F' : Nat → Prop} {g p n : Nat} {bs : List Int} (h : ByW W F g p n bs) (ho : Only (fun i => F i ∨ i = g) W W') (hF : ∀ i, F' i → F i ∨ W.heap.size ≤ i) : ByW W' F' g p n bs :=
  ⟨h.bys.keep ho (fun _ ad e hf => by injection e with e; subst e; rcases hf with hf | hf; exact h.nf hf; exact h.ne hf), fun hf => by rcases hF p hf with h1 | h1; exact h.nf h1; have := h.lt; omega, h.ne, Nat.lt_of_lt_of_le h.lt ho.size⟩
theorem addL_off (d : Dev) (b : List Int) : addL d (openAt 1) b = (d, openAt 1, 141) := rfl
theorem syncL_off (d : Dev) : syncL d (openAt 1) = (d, openAt 1, 141) := rfl
theorem fits84 : fitsB (newDev 4) 84 = false := by decide
theorem begin84 : beginL (newDev 4) (openAt 1) (zeros 84) = (newDev 4, openAt 1, 142) := by
  unfold beginL
  rw [if_pos (.inl (by rw [show (zeros 84).length = 84 by simp [zeros]]; exact fits84))]
theorem slabs83 (W : World) : Calls Try.prog 60 #[.int .i64 83] W fun e w' => e = .returned (.int .i64 1) ∧ W = w' := Slabs_any W 83 (by decide)
theorem slabs84 (W : World) : Calls Try.prog 60 #[.int .i64 84] W fun e w' => e = .returned (.int .i64 2) ∧ W = w' := Slabs_any W 84 (by decide)
theorem slabsm1 (W : World) : Calls Try.prog 60 #[.int .i64 (-1)] W fun e w' => e = .returned (.int .i64 0) ∧ W = w' := Slabs_any W (-1) (by decide)
theorem fits_no (W : World) (b : Nat) (F : Nat → Prop) (h : DevRep W b F (newDev 4096)) : Calls Try.prog 61 #[.pointer (some ⟨b, 0, none⟩), .int .i64 100001] W fun e w' => e = .returned (.bool false) ∧ W = w' := by
  have h9 := Fits_any W b F _ h 100001 (by decide)
  rwa [show fitsB (newDev 4096) 100001 = false by simp [fitsB]] at h9
set_option maxHeartbeats 8000000 in
set_option maxRecDepth 100000 in
theorem chainnames_any (w : World) : Calls Try.prog 6 #[] w fun e w' => e = .returned (.bool true) ∧ Below w.heap.size w w' := by
  go_enter Try.func6, Try.ntmps6
  go_wp2_with (go_at_call 55; refine (alive_any w).mono ?_; rintro e w1 ⟨rfl, b1⟩; have B1 := hide b1; clear b1)
  refine (new_any w1 4).mono ?_
  rintro e w2 ⟨b, F0, rfl, h1, b2, f2⟩
  have D2 := hide h1
  have C0 := hide (new_calm h1.good)
  have B2 := hide (Below.then_ B1.out b2)
  have FR := hide f2
  have W12 := hide B1.out.size
  have W23 := hide b2.size
  clear h1 b2 f2
  go_wp2_with fail
  refine (Open_any w2 b F0 _ D2.out (new_bytes 4)).mono ?_
  rintro e w3 h
  rw [new_open] at h
  obtain ⟨g, B0, img, recs, rfl, hl, hg1, hg2, hg3, b3, hc⟩ := h
  obtain ⟨rfl, rfl⟩ : img = .slice none 0 0 ∧ recs = .slice none 0 0 := by
    rcases hc with ⟨_, h1, h2⟩ | ⟨A, n, c, R, m, d, x, xs, _, _, h3, _⟩
    · exact ⟨h1, h2⟩
    · cases h3
  rw [show decide ((1, ([] : List (List Int))).snd ≠ []) = false from rfl]
  have Lw3 := hide (show LogW w w3 g b F0 (newDev 4) (openAt 1) from ⟨D2.out.under b3, hl, fun h => by have := D2.out.lt g h; omega, hl.blk.lt, by have := W12.out; have := W23.out; omega, Below.then_ B2.out b3, fun i hi => by have := FR.out i hi; have := W12.out; omega⟩)
  obtain ⟨d4, l4, e4, hd4, hw4, st4, hk4, hh4, hm4, ha4⟩ := begin_stand (d := newDev 4) (l := openAt 1) (b := zeros 83) C0.out (by decide) (by decide) (by rw [new_top]; decide)
  have hr4 : d4.room = 2 := by rw [room_of hk4]; rfl
  have HA4 := hide (show l4.at_ = 2 by rw [ha4]; rfl)
  have E9 := hide (show addL d4 l4 [] = (d4, l4, 142) by
    rw [addL, if_neg (by rw [st4.ready]; decide), if_pos (.inr (by rw [leftL, st4.ready, hr4, ha4]; decide))])
  have HR4 := hide hr4
  have E4 := hide e4
  have HB4 := hide (show d4.Bytes by rw [hd4]; exact (writeL_bytes (writeL_bytes (new_bytes 4) _ _ (sealedB_byt _) _) _ _ (boundB_byt (by decide) (zeros_byt _)) _).sync)
  have HW4 := hide (show d4.written.length ≤ 800000 by rw [hw4]; decide)
  clear hd4 hw4 st4 hk4 hh4 hm4 ha4 hr4 e4 hl hg1 hg2 hg3 b3 hc
  go_wp2_with fail
  rename_i K hK
  have q83 : fitsB d4 83 = true := by rw [fitsB, HR4.out]; decide
  have q84 : fitsB d4 84 = false := by rw [fitsB, HR4.out]; decide
  have qm1 : fitsB d4 (-1) = false := by rw [fitsB, HR4.out]; decide
  have hrest : ∀ (u0 u2 u3 u4 u5 u11 u12 u13 u14 u15 u16 u17 u18 u19 u20 u21 u22 u23 u24 u25 u26 u27 u28 u29 u30 u31 u32 u33 u34 u35 u36 u37 u38 u39 u40 u41 u42 u43 u44 u45 u46 u47 u48 u49 u50 u51 u52 u53 u54 u55 u56 u57 u58 u59 u60 u61 u62 u63 u64 u65 u66 u67 u68 u69 u70 u71 u72 u73 u74 u75 u76 u77 u78 u79 u80 u81 u82 u83 : Value) (F4 : Nat → Prop) (W : World), DevRep W b F4 d4 → Below w.heap.size w W → K { tmps := (List.toArray (u0 :: .pointer (some ⟨b, 0, none⟩) :: u2 :: u3 :: u4 :: u5 :: .int .i64 141 :: .int .i64 141 :: .int .i64 142 :: .int .i64 0 :: .int .i64 142 :: u11 :: u12 :: u13 :: u14 :: u15 :: u16 :: u17 :: u18 :: u19 :: u20 :: u21 :: u22 :: u23 :: u24 :: u25 :: u26 :: u27 :: u28 :: u29 :: u30 :: u31 :: u32 :: u33 :: u34 :: u35 :: u36 :: u37 :: u38 :: u39 :: u40 :: u41 :: u42 :: u43 :: u44 :: u45 :: u46 :: u47 :: u48 :: u49 :: u50 :: u51 :: u52 :: u53 :: u54 :: u55 :: u56 :: u57 :: u58 :: u59 :: u60 :: u61 :: u62 :: u63 :: u64 :: u65 :: u66 :: u67 :: u68 :: u69 :: u70 :: u71 :: u72 :: u73 :: u74 :: u75 :: u76 :: u77 :: u78 :: u79 :: u80 :: u81 :: u82 :: u83 :: [])), defers := [] } W := by
    intro u0 u2 u3 u4 u5 u11 u12 u13 u14 u15 u16 u17 u18 u19 u20 u21 u22 u23 u24 u25 u26 u27 u28 u29 u30 u31 u32 u33 u34 u35 u36 u37 u38 u39 u40 u41 u42 u43 u44 u45 u46 u47 u48 u49 u50 u51 u52 u53 u54 u55 u56 u57 u58 u59 u60 u61 u62 u63 u64 u65 u66 u67 u68 u69 u70 u71 u72 u73 u74 u75 u76 u77 u78 u79 u80 u81 u82 u83 F4 W hD hBW
    refine hK _ _ ?_
    clear hK
    have f83 := hide (show Calls Try.prog 61 #[.pointer (some ⟨b, 0, none⟩), .int .i64 83] W fun e w' => e = .returned (.bool true) ∧ W = w' by have h9 := Fits_any W b F4 d4 hD 83 (by decide); rwa [q83] at h9)
    have f84 := hide (show Calls Try.prog 61 #[.pointer (some ⟨b, 0, none⟩), .int .i64 84] W fun e w' => e = .returned (.bool false) ∧ W = w' by have h9 := Fits_any W b F4 d4 hD 84 (by decide); rwa [q84] at h9)
    have fm1 := hide (show Calls Try.prog 61 #[.pointer (some ⟨b, 0, none⟩), .int .i64 (-1)] W fun e w' => e = .returned (.bool false) ∧ W = w' by have h9 := Fits_any W b F4 d4 hD (-1) (by decide); rwa [qm1] at h9)
    go_wp2_with fail
    refine (slabs83 W).mono ?_
    rintro e w' ⟨rfl, rfl⟩
    go_wp2_with fail
    refine (slabs84 W).mono ?_
    rintro e w' ⟨rfl, rfl⟩
    go_wp2_with fail
    refine (slabsm1 W).mono ?_
    rintro e w' ⟨rfl, rfl⟩
    go_wp2_with fail
    refine f83.out.mono ?_
    rintro e w' ⟨rfl, rfl⟩
    go_wp2_with fail
    refine f84.out.mono ?_
    rintro e w' ⟨rfl, rfl⟩
    go_wp2_with fail
    refine fm1.out.mono ?_
    rintro e w' ⟨rfl, rfl⟩
    go_wp2_with fail
    refine (new_any W 4096).mono ?_
    rintro e wn ⟨bn, Fn, rfl, hn, bnn, _⟩
    go_wp2_with fail
    refine (fits_no wn bn Fn hn).mono ?_
    rintro e w' ⟨rfl, rfl⟩
    go_wp2_with fail
    go_ret
    exact ⟨rfl, Below.then_ hBW bnn⟩
  have HREST := hide hrest
  clear hK hrest q83 q84 qm1
  refine wp_region_held_drew (S := fun w' => True) (by kernel_rfl) (trivial) (fun hSA0 => ?_)
  obtain ⟨w3d, hwA⟩ : ∃ x, x = w3.drew := ⟨_, rfl⟩
  obtain ⟨Fw3d, hFw3d⟩ : ∃ z, z = F0 := ⟨_, rfl⟩
  have Lw3d := hide (show LogW w w3d g b Fw3d (newDev 4) (openAt 1) by rw [hwA, hFw3d]; exact Lw3.out.under (Below.refl _ _).drew)
  rw [← hwA] 
  clear hFw3d
  clear hwA
  (refine wpAnyH_take (i := 0) (oi := ⟨some 21, .move (.tmp 2), 86, "law.go:30", #[], none⟩) (v := ?_) rfl (by kernel_rfl) (by kernel_rfl) (by kernel_rfl) (fun _ _ _ h => h) (Or.inl ⟨by rfl, fun w' hSw => ?_⟩) hSA0 ?_; rotate_left; focus (go_simp; try with_reducible rfl))
  simp only [Act.put, List.setIfInBounds_toArray, List.set_cons_zero, List.set_cons_succ]
  (refine wpAnyH_take (i := 2) (oi := ⟨some 23, .move (.tmp 2), 86, "law.go:30", #[], none⟩) (v := ?_) rfl (by kernel_rfl) (by kernel_rfl) (by kernel_rfl) (fun _ _ _ h => h) (Or.inl ⟨by rfl, fun w' hSw => ?_⟩) hSA0 ?_; rotate_left; focus (go_simp; try with_reducible rfl))
  simp only [Act.put, List.setIfInBounds_toArray, List.set_cons_zero, List.set_cons_succ]
  (refine wpAnyH_take (i := 4) (oi := ⟨some 25, .move (.tmp 2), 86, "law.go:30", #[], none⟩) (v := ?_) rfl (by kernel_rfl) (by kernel_rfl) (by kernel_rfl) (fun _ _ _ h => h) (Or.inl ⟨by rfl, fun w' hSw => ?_⟩) hSA0 ?_; rotate_left; focus (go_simp; try with_reducible rfl))
  simp only [Act.put, List.setIfInBounds_toArray, List.set_cons_zero, List.set_cons_succ]
  (refine wpAnyH_take (i := 7) (oi := ⟨some 28, .move (.tmp 2), 86, "law.go:30", #[], none⟩) (v := ?_) rfl (by kernel_rfl) (by kernel_rfl) (by kernel_rfl) (fun _ _ _ h => h) (Or.inl ⟨by rfl, fun w' hSw => ?_⟩) hSA0 ?_; rotate_left; focus (go_simp; try with_reducible rfl))
  simp only [Act.put, List.setIfInBounds_toArray, List.set_cons_zero, List.set_cons_succ]
  (refine wpAnyH_take (i := 10) (oi := ⟨some 31, .move (.tmp 2), 86, "law.go:30", #[], none⟩) (v := ?_) rfl (by kernel_rfl) (by kernel_rfl) (by kernel_rfl) (fun _ _ _ h => h) (Or.inl ⟨by rfl, fun w' hSw => ?_⟩) hSA0 ?_; rotate_left; focus (go_simp; try with_reducible rfl))
  simp only [Act.put, List.setIfInBounds_toArray, List.set_cons_zero, List.set_cons_succ]
  refine wpAnyH_ready (rs := [1, 5, 8]) (by kernel_rfl) (by simp) ?_
  refine AllReadyH.cons rfl (fun K hK => ?_) (AllReadyH.cons rfl (fun K hK => ?_) (AllReadyH.cons rfl (fun K hK => ?_) AllReadyH.nil))
  · go_simp
    go_simp
    go_wp2_with (go_at_call 57; refine (Add_any w3d g b Fw3d (newDev 4) (openAt 1) none 0 0 [] Lw3d.out.log Lw3d.out.dev (new_bytes 4) Lw3d.out.ng (Bys.nil _ _) (by decide) (by decide) (by decide) (by decide)).mono ?_; intro e v1 hp; rw [addL_off] at hp; obtain ⟨rfl, Fv1, hl, hs, ho⟩ := Lw3d.out.post hp; have Lv1 := hide hl; clear hp hl hs ho)
    refine hK.out _ _ (trivial) (fun hSA1 => ?_)
    clear hK K
    refine wpAnyH_ready (rs := [3, 5, 8]) (by kernel_rfl) (by simp) ?_
    refine AllReadyH.cons rfl (fun K hK => ?_) (AllReadyH.cons rfl (fun K hK => ?_) (AllReadyH.cons rfl (fun K hK => ?_) AllReadyH.nil))
    · go_simp
      go_simp
      go_wp2_with (go_at_call 58; refine (Sync_any v1 g b Fv1 (newDev 4) (openAt 1) Lv1.out.log Lv1.out.dev Lv1.out.ng (by decide)).mono ?_; intro e v2 hp; rw [syncL_off] at hp; obtain ⟨rfl, Fv2, hl, hs, ho⟩ := Lv1.out.post hp; have Lv2 := hide hl; clear hp hl hs ho)
      refine hK.out _ _ (trivial) (fun hSA2 => ?_)
      clear hK K
      refine wpAnyH_ready (rs := [5, 8]) (by kernel_rfl) (by simp) ?_
      refine AllReadyH.cons rfl (fun K hK => ?_) (AllReadyH.cons rfl (fun K hK => ?_) AllReadyH.nil)
      · have zm : (Instr.makeSlice 28 (.int .i64 84) (.int .i64 84)).run Try.prog v2 = .ok (.slice (some ⟨v2.heap.size, 0, none⟩) 84 84) (v2.alloc (.cells (bcs (zeros 84)).toArray 5)) := make_zeros 84 (by decide) v2
        go_simp
        have by0 := hide (ByW.new Lv2.out 84)
        obtain ⟨pv3, hpv3⟩ : ∃ z, z = v2.heap.size := ⟨_, rfl⟩
        have bb : Below v2.heap.size v2 (v2.alloc (.cells (bcs (zeros 84)).toArray 5)) := below_alloc (Below.refl _ _) _
        obtain ⟨v3, hwv3⟩ : ∃ z, z = v2.alloc (.cells (bcs (zeros 84)).toArray 5) := ⟨_, rfl⟩
        rw [← hwv3] at by0 bb ⊢
        rw [← hpv3] at by0 ⊢
        obtain ⟨Fv3, hFv3⟩ : ∃ z, z = Fv2 := ⟨_, rfl⟩
        have Lv3 := hide (show LogW w v3 g b Fv3 (newDev 4) (openAt 1) by rw [hFv3]; exact Lv2.out.under bb)
        have Y84v3 := hide (show ByW v3 Fv3 g pv3 84 (zeros 84) by rw [hFv3]; exact by0.out)
        clear by0 bb zm hwv3 hpv3 hFv3
        refine hK.out _ _ (trivial) (fun hSA3 => ?_)
        clear hK K
        refine wpAnyH_ready (rs := [6, 8]) (by kernel_rfl) (by simp) ?_
        refine AllReadyH.cons rfl (fun K hK => ?_) (AllReadyH.cons rfl (fun K hK => ?_) AllReadyH.nil)
        · go_simp
          go_simp
          go_wp2_with (go_at_call 59; refine (Begin_any v3 g b Fv3 (newDev 4) (openAt 1) (some ⟨pv3, 0, none⟩) 84 84 (zeros 84) Lv3.out.log Lv3.out.dev (new_bytes 4) Lv3.out.ng Y84v3.out.bys (fun _ ad e h => by injection e with e; subst e; exact Y84v3.out.ne h) (by decide) (by decide)).mono ?_; intro e v4 hp; rw [begin84] at hp; obtain ⟨rfl, Fv4, hl, hs, ho⟩ := Lv3.out.post hp; have Lv4 := hide hl; have Y84v4 := hide (Y84v3.out.post ho hs); clear hp hl hs ho)
          refine hK.out _ _ (trivial) (fun hSA4 => ?_)
          clear hK K
          refine wpAnyH_ready (rs := [8]) (by kernel_rfl) (by simp) ?_
          refine AllReadyH.cons rfl (fun K hK => ?_) AllReadyH.nil
          have zm : (Instr.makeSlice 28 (.int .i64 83) (.int .i64 83)).run Try.prog v4 = .ok (.slice (some ⟨v4.heap.size, 0, none⟩) 83 83) (v4.alloc (.cells (bcs (zeros 83)).toArray 5)) := make_zeros 83 (by decide) v4
          go_simp
          have by0 := hide (ByW.new Lv4.out 83)
          obtain ⟨pv5, hpv5⟩ : ∃ z, z = v4.heap.size := ⟨_, rfl⟩
          have bb : Below v4.heap.size v4 (v4.alloc (.cells (bcs (zeros 83)).toArray 5)) := below_alloc (Below.refl _ _) _
          obtain ⟨v5, hwv5⟩ : ∃ z, z = v4.alloc (.cells (bcs (zeros 83)).toArray 5) := ⟨_, rfl⟩
          rw [← hwv5] at by0 bb ⊢
          rw [← hpv5] at by0 ⊢
          obtain ⟨Fv5, hFv5⟩ : ∃ z, z = Fv4 := ⟨_, rfl⟩
          have Lv5 := hide (show LogW w v5 g b Fv5 (newDev 4) (openAt 1) by rw [hFv5]; exact Lv4.out.under bb)
          have Y83v5 := hide (show ByW v5 Fv5 g pv5 83 (zeros 83) by rw [hFv5]; exact by0.out)
          clear by0 bb zm hwv5 hpv5 hFv5
          refine hK.out _ _ (trivial) (fun hSA5 => ?_)
          clear hK K
          refine wpAnyH_ready (rs := [9]) (by kernel_rfl) (by simp) ?_
          refine AllReadyH.cons rfl (fun K hK => ?_) AllReadyH.nil
          go_simp
          go_simp
          go_wp2_with (go_at_call 59; refine (Begin_any v5 g b Fv5 (newDev 4) (openAt 1) (some ⟨pv5, 0, none⟩) 83 83 (zeros 83) Lv5.out.log Lv5.out.dev (new_bytes 4) Lv5.out.ng Y83v5.out.bys (fun _ ad e h => by injection e with e; subst e; exact Y83v5.out.ne h) (by decide) (by decide)).mono ?_; intro e v6 hp; rw [E4.out] at hp; obtain ⟨rfl, Fv6, hl, hs, ho⟩ := Lv5.out.post hp; have Lv6 := hide hl; have Y83v6 := hide (Y83v5.out.post ho hs); clear hp hl hs ho)
          refine hK.out _ _ (trivial) (fun hSA6 => ?_)
          clear hK K
          refine wpAnyH_ready (rs := [11]) (by kernel_rfl) (by simp) ?_
          refine AllReadyH.cons rfl (fun K hK => ?_) AllReadyH.nil
          go_simp
          go_simp
          go_wp2_with (go_at_call 57; refine (Add_any v6 g b Fv6 d4 l4 none 0 0 [] Lv6.out.log Lv6.out.dev HB4.out Lv6.out.ng (Bys.nil _ _) (by decide) (by rw [HA4.out]; decide) (by rw [HA4.out]; decide) HW4.out).mono ?_; intro e v7 hp; rw [E9.out] at hp; obtain ⟨rfl, Fv7, hl, hs, ho⟩ := Lv6.out.post hp; have Lv7 := hide hl; clear hp hl hs ho)
          refine hK.out _ _ (trivial) (fun hSA7 => ?_)
          clear hK K
          (refine wpAnyH_take (i := 12) (oi := ⟨some 6, .assign (.tmp 22), 31, "law.go:30", #[⟨1, .data⟩, ⟨11, .chain⟩, ⟨0, .phase⟩, ⟨1, .phase⟩, { on := 2, ground := Go.Ground.textOnly Go.Departure.lateStores }, { on := 3, ground := Go.Ground.textOnly Go.Departure.lateStoresUnsure }, { on := 4, ground := Go.Ground.textOnly Go.Departure.lateStores }, { on := 5, ground := Go.Ground.textOnly Go.Departure.lateStoresUnsure }, { on := 6, ground := Go.Ground.textOnly Go.Departure.lateStoresUnsure }, { on := 7, ground := Go.Ground.textOnly Go.Departure.lateStores }, { on := 8, ground := Go.Ground.textOnly Go.Departure.lateStoresUnsure }, { on := 9, ground := Go.Ground.textOnly Go.Departure.lateStoresUnsure }, { on := 10, ground := Go.Ground.textOnly Go.Departure.lateStores }, { on := 11, ground := Go.Ground.textOnly Go.Departure.lateStoresUnsure }], none⟩) (v := ?_) rfl (by kernel_rfl) (by kernel_rfl) (by kernel_rfl) (fun _ _ _ h => h) (Or.inl ⟨by rfl, fun w' hSw => ?_⟩) hSA7 ?_; rotate_left; focus (go_simp; try with_reducible rfl))
          simp only [Act.put, List.setIfInBounds_toArray, List.set_cons_zero, List.set_cons_succ]
          (refine wpAnyH_take (i := 13) (oi := ⟨some 7, .assign (.tmp 24), 31, "law.go:30", #[⟨3, .data⟩, ⟨12, .chain⟩, ⟨0, .phase⟩, ⟨1, .phase⟩, ⟨2, .phase⟩, ⟨3, .phase⟩, { on := 4, ground := Go.Ground.textOnly Go.Departure.lateStores }, { on := 5, ground := Go.Ground.textOnly Go.Departure.lateStoresUnsure }, { on := 6, ground := Go.Ground.textOnly Go.Departure.lateStoresUnsure }, { on := 7, ground := Go.Ground.textOnly Go.Departure.lateStores }, { on := 8, ground := Go.Ground.textOnly Go.Departure.lateStoresUnsure }, { on := 9, ground := Go.Ground.textOnly Go.Departure.lateStoresUnsure }, { on := 10, ground := Go.Ground.textOnly Go.Departure.lateStores }, { on := 11, ground := Go.Ground.textOnly Go.Departure.lateStoresUnsure }, ⟨12, .phase⟩], none⟩) (v := ?_) rfl (by kernel_rfl) (by kernel_rfl) (by kernel_rfl) (fun _ _ _ h => h) (Or.inl ⟨by rfl, fun w' hSw => ?_⟩) hSA7 ?_; rotate_left; focus (go_simp; try with_reducible rfl))
          simp only [Act.put, List.setIfInBounds_toArray, List.set_cons_zero, List.set_cons_succ]
          (refine wpAnyH_take (i := 14) (oi := ⟨some 8, .assign (.tmp 27), 31, "law.go:30", #[⟨6, .data⟩, ⟨13, .chain⟩, ⟨0, .phase⟩, ⟨1, .phase⟩, ⟨2, .phase⟩, ⟨3, .phase⟩, ⟨4, .phase⟩, ⟨5, .phase⟩, ⟨6, .phase⟩, { on := 7, ground := Go.Ground.textOnly Go.Departure.lateStores }, { on := 8, ground := Go.Ground.textOnly Go.Departure.lateStoresUnsure }, { on := 9, ground := Go.Ground.textOnly Go.Departure.lateStoresUnsure }, { on := 10, ground := Go.Ground.textOnly Go.Departure.lateStores }, { on := 11, ground := Go.Ground.textOnly Go.Departure.lateStoresUnsure }, ⟨12, .phase⟩, ⟨13, .phase⟩], none⟩) (v := ?_) rfl (by kernel_rfl) (by kernel_rfl) (by kernel_rfl) (fun _ _ _ h => h) (Or.inl ⟨by rfl, fun w' hSw => ?_⟩) hSA7 ?_; rotate_left; focus (go_simp; try with_reducible rfl))
          simp only [Act.put, List.setIfInBounds_toArray, List.set_cons_zero, List.set_cons_succ]
          (refine wpAnyH_take (i := 15) (oi := ⟨some 9, .assign (.tmp 30), 31, "law.go:30", #[⟨9, .data⟩, ⟨14, .chain⟩, ⟨0, .phase⟩, ⟨1, .phase⟩, ⟨2, .phase⟩, ⟨3, .phase⟩, ⟨4, .phase⟩, ⟨5, .phase⟩, ⟨6, .phase⟩, ⟨7, .phase⟩, ⟨8, .phase⟩, ⟨9, .phase⟩, { on := 10, ground := Go.Ground.textOnly Go.Departure.lateStores }, { on := 11, ground := Go.Ground.textOnly Go.Departure.lateStoresUnsure }, ⟨12, .phase⟩, ⟨13, .phase⟩, ⟨14, .phase⟩], none⟩) (v := ?_) rfl (by kernel_rfl) (by kernel_rfl) (by kernel_rfl) (fun _ _ _ h => h) (Or.inl ⟨by rfl, fun w' hSw => ?_⟩) hSA7 ?_; rotate_left; focus (go_simp; try with_reducible rfl))
          simp only [Act.put, List.setIfInBounds_toArray, List.set_cons_zero, List.set_cons_succ]
          (refine wpAnyH_take (i := 16) (oi := ⟨some 10, .assign (.tmp 32), 31, "law.go:30", #[⟨11, .data⟩, ⟨15, .chain⟩, ⟨0, .phase⟩, ⟨1, .phase⟩, ⟨2, .phase⟩, ⟨3, .phase⟩, ⟨4, .phase⟩, ⟨5, .phase⟩, ⟨6, .phase⟩, ⟨7, .phase⟩, ⟨8, .phase⟩, ⟨9, .phase⟩, ⟨10, .phase⟩, ⟨11, .phase⟩, ⟨12, .phase⟩, ⟨13, .phase⟩, ⟨14, .phase⟩, ⟨15, .phase⟩], none⟩) (v := ?_) rfl (by kernel_rfl) (by kernel_rfl) (by kernel_rfl) (fun _ _ _ h => h) (Or.inl ⟨by rfl, fun w' hSw => ?_⟩) hSA7 ?_; rotate_left; focus (go_simp; try with_reducible rfl))
          simp only [Act.put, List.setIfInBounds_toArray, List.set_cons_zero, List.set_cons_succ]
          refine wpAnyH_done (by kernel_rfl) ?_ _
          exact HREST.out _ _ _ _ _ _ _ _ _ _ _ _ _ _ _ _ _ _ _ _ _ _ _ _ _ _ _ _ _ _ _ _ _ _ _ _ _ _ _ _ _ _ _ _ _ _ _ _ _ _ _ _ _ _ _ _ _ _ _ _ _ _ _ _ _ _ _ _ _ _ _ _ _ _ _ _ _ _ Fv7 v7 Lv7.out.dev Lv7.out.below
        · have zm : (Instr.makeSlice 28 (.int .i64 83) (.int .i64 83)).run Try.prog v3 = .ok (.slice (some ⟨v3.heap.size, 0, none⟩) 83 83) (v3.alloc (.cells (bcs (zeros 83)).toArray 5)) := make_zeros 83 (by decide) v3
          go_simp
          have by0 := hide (ByW.new Lv3.out 83)
          obtain ⟨pv8, hpv8⟩ : ∃ z, z = v3.heap.size := ⟨_, rfl⟩
          have bb : Below v3.heap.size v3 (v3.alloc (.cells (bcs (zeros 83)).toArray 5)) := below_alloc (Below.refl _ _) _
          obtain ⟨v8, hwv8⟩ : ∃ z, z = v3.alloc (.cells (bcs (zeros 83)).toArray 5) := ⟨_, rfl⟩
          rw [← hwv8] at by0 bb ⊢
          rw [← hpv8] at by0 ⊢
          obtain ⟨Fv8, hFv8⟩ : ∃ z, z = Fv3 := ⟨_, rfl⟩
          have Lv8 := hide (show LogW w v8 g b Fv8 (newDev 4) (openAt 1) by rw [hFv8]; exact Lv3.out.under bb)
          have Y83v8 := hide (show ByW v8 Fv8 g pv8 83 (zeros 83) by rw [hFv8]; exact by0.out)
          have Y84v8 := hide (show ByW v8 Fv8 g pv3 84 (zeros 84) by rw [hFv8]; exact Y84v3.out.under bb)
          clear by0 bb zm hwv8 hpv8 hFv8
          refine hK.out _ _ (trivial) (fun hSA4 => ?_)
          clear hK K
          refine wpAnyH_ready (rs := [6]) (by kernel_rfl) (by simp) ?_
          refine AllReadyH.cons rfl (fun K hK => ?_) AllReadyH.nil
          go_simp
          go_simp
          go_wp2_with (go_at_call 59; refine (Begin_any v8 g b Fv8 (newDev 4) (openAt 1) (some ⟨pv3, 0, none⟩) 84 84 (zeros 84) Lv8.out.log Lv8.out.dev (new_bytes 4) Lv8.out.ng Y84v8.out.bys (fun _ ad e h => by injection e with e; subst e; exact Y84v8.out.ne h) (by decide) (by decide)).mono ?_; intro e v9 hp; rw [begin84] at hp; obtain ⟨rfl, Fv9, hl, hs, ho⟩ := Lv8.out.post hp; have Lv9 := hide hl; have Y84v9 := hide (Y84v8.out.post ho hs); have Y83v9 := hide (Y83v8.out.post ho hs); clear hp hl hs ho)
          refine hK.out _ _ (trivial) (fun hSA5 => ?_)
          clear hK K
          refine wpAnyH_ready (rs := [9]) (by kernel_rfl) (by simp) ?_
          refine AllReadyH.cons rfl (fun K hK => ?_) AllReadyH.nil
          go_simp
          go_simp
          go_wp2_with (go_at_call 59; refine (Begin_any v9 g b Fv9 (newDev 4) (openAt 1) (some ⟨pv8, 0, none⟩) 83 83 (zeros 83) Lv9.out.log Lv9.out.dev (new_bytes 4) Lv9.out.ng Y83v9.out.bys (fun _ ad e h => by injection e with e; subst e; exact Y83v9.out.ne h) (by decide) (by decide)).mono ?_; intro e v10 hp; rw [E4.out] at hp; obtain ⟨rfl, Fv10, hl, hs, ho⟩ := Lv9.out.post hp; have Lv10 := hide hl; have Y83v10 := hide (Y83v9.out.post ho hs); clear hp hl hs ho)
          refine hK.out _ _ (trivial) (fun hSA6 => ?_)
          clear hK K
          refine wpAnyH_ready (rs := [11]) (by kernel_rfl) (by simp) ?_
          refine AllReadyH.cons rfl (fun K hK => ?_) AllReadyH.nil
          go_simp
          go_simp
          go_wp2_with (go_at_call 57; refine (Add_any v10 g b Fv10 d4 l4 none 0 0 [] Lv10.out.log Lv10.out.dev HB4.out Lv10.out.ng (Bys.nil _ _) (by decide) (by rw [HA4.out]; decide) (by rw [HA4.out]; decide) HW4.out).mono ?_; intro e v11 hp; rw [E9.out] at hp; obtain ⟨rfl, Fv11, hl, hs, ho⟩ := Lv10.out.post hp; have Lv11 := hide hl; clear hp hl hs ho)
          refine hK.out _ _ (trivial) (fun hSA7 => ?_)
          clear hK K
          (refine wpAnyH_take (i := 12) (oi := ⟨some 6, .assign (.tmp 22), 31, "law.go:30", #[⟨1, .data⟩, ⟨11, .chain⟩, ⟨0, .phase⟩, ⟨1, .phase⟩, { on := 2, ground := Go.Ground.textOnly Go.Departure.lateStores }, { on := 3, ground := Go.Ground.textOnly Go.Departure.lateStoresUnsure }, { on := 4, ground := Go.Ground.textOnly Go.Departure.lateStores }, { on := 5, ground := Go.Ground.textOnly Go.Departure.lateStoresUnsure }, { on := 6, ground := Go.Ground.textOnly Go.Departure.lateStoresUnsure }, { on := 7, ground := Go.Ground.textOnly Go.Departure.lateStores }, { on := 8, ground := Go.Ground.textOnly Go.Departure.lateStoresUnsure }, { on := 9, ground := Go.Ground.textOnly Go.Departure.lateStoresUnsure }, { on := 10, ground := Go.Ground.textOnly Go.Departure.lateStores }, { on := 11, ground := Go.Ground.textOnly Go.Departure.lateStoresUnsure }], none⟩) (v := ?_) rfl (by kernel_rfl) (by kernel_rfl) (by kernel_rfl) (fun _ _ _ h => h) (Or.inl ⟨by rfl, fun w' hSw => ?_⟩) hSA7 ?_; rotate_left; focus (go_simp; try with_reducible rfl))
          simp only [Act.put, List.setIfInBounds_toArray, List.set_cons_zero, List.set_cons_succ]
          (refine wpAnyH_take (i := 13) (oi := ⟨some 7, .assign (.tmp 24), 31, "law.go:30", #[⟨3, .data⟩, ⟨12, .chain⟩, ⟨0, .phase⟩, ⟨1, .phase⟩, ⟨2, .phase⟩, ⟨3, .phase⟩, { on := 4, ground := Go.Ground.textOnly Go.Departure.lateStores }, { on := 5, ground := Go.Ground.textOnly Go.Departure.lateStoresUnsure }, { on := 6, ground := Go.Ground.textOnly Go.Departure.lateStoresUnsure }, { on := 7, ground := Go.Ground.textOnly Go.Departure.lateStores }, { on := 8, ground := Go.Ground.textOnly Go.Departure.lateStoresUnsure }, { on := 9, ground := Go.Ground.textOnly Go.Departure.lateStoresUnsure }, { on := 10, ground := Go.Ground.textOnly Go.Departure.lateStores }, { on := 11, ground := Go.Ground.textOnly Go.Departure.lateStoresUnsure }, ⟨12, .phase⟩], none⟩) (v := ?_) rfl (by kernel_rfl) (by kernel_rfl) (by kernel_rfl) (fun _ _ _ h => h) (Or.inl ⟨by rfl, fun w' hSw => ?_⟩) hSA7 ?_; rotate_left; focus (go_simp; try with_reducible rfl))
          simp only [Act.put, List.setIfInBounds_toArray, List.set_cons_zero, List.set_cons_succ]
          (refine wpAnyH_take (i := 14) (oi := ⟨some 8, .assign (.tmp 27), 31, "law.go:30", #[⟨6, .data⟩, ⟨13, .chain⟩, ⟨0, .phase⟩, ⟨1, .phase⟩, ⟨2, .phase⟩, ⟨3, .phase⟩, ⟨4, .phase⟩, ⟨5, .phase⟩, ⟨6, .phase⟩, { on := 7, ground := Go.Ground.textOnly Go.Departure.lateStores }, { on := 8, ground := Go.Ground.textOnly Go.Departure.lateStoresUnsure }, { on := 9, ground := Go.Ground.textOnly Go.Departure.lateStoresUnsure }, { on := 10, ground := Go.Ground.textOnly Go.Departure.lateStores }, { on := 11, ground := Go.Ground.textOnly Go.Departure.lateStoresUnsure }, ⟨12, .phase⟩, ⟨13, .phase⟩], none⟩) (v := ?_) rfl (by kernel_rfl) (by kernel_rfl) (by kernel_rfl) (fun _ _ _ h => h) (Or.inl ⟨by rfl, fun w' hSw => ?_⟩) hSA7 ?_; rotate_left; focus (go_simp; try with_reducible rfl))
          simp only [Act.put, List.setIfInBounds_toArray, List.set_cons_zero, List.set_cons_succ]
          (refine wpAnyH_take (i := 15) (oi := ⟨some 9, .assign (.tmp 30), 31, "law.go:30", #[⟨9, .data⟩, ⟨14, .chain⟩, ⟨0, .phase⟩, ⟨1, .phase⟩, ⟨2, .phase⟩, ⟨3, .phase⟩, ⟨4, .phase⟩, ⟨5, .phase⟩, ⟨6, .phase⟩, ⟨7, .phase⟩, ⟨8, .phase⟩, ⟨9, .phase⟩, { on := 10, ground := Go.Ground.textOnly Go.Departure.lateStores }, { on := 11, ground := Go.Ground.textOnly Go.Departure.lateStoresUnsure }, ⟨12, .phase⟩, ⟨13, .phase⟩, ⟨14, .phase⟩], none⟩) (v := ?_) rfl (by kernel_rfl) (by kernel_rfl) (by kernel_rfl) (fun _ _ _ h => h) (Or.inl ⟨by rfl, fun w' hSw => ?_⟩) hSA7 ?_; rotate_left; focus (go_simp; try with_reducible rfl))
          simp only [Act.put, List.setIfInBounds_toArray, List.set_cons_zero, List.set_cons_succ]
          (refine wpAnyH_take (i := 16) (oi := ⟨some 10, .assign (.tmp 32), 31, "law.go:30", #[⟨11, .data⟩, ⟨15, .chain⟩, ⟨0, .phase⟩, ⟨1, .phase⟩, ⟨2, .phase⟩, ⟨3, .phase⟩, ⟨4, .phase⟩, ⟨5, .phase⟩, ⟨6, .phase⟩, ⟨7, .phase⟩, ⟨8, .phase⟩, ⟨9, .phase⟩, ⟨10, .phase⟩, ⟨11, .phase⟩, ⟨12, .phase⟩, ⟨13, .phase⟩, ⟨14, .phase⟩, ⟨15, .phase⟩], none⟩) (v := ?_) rfl (by kernel_rfl) (by kernel_rfl) (by kernel_rfl) (fun _ _ _ h => h) (Or.inl ⟨by rfl, fun w' hSw => ?_⟩) hSA7 ?_; rotate_left; focus (go_simp; try with_reducible rfl))
          simp only [Act.put, List.setIfInBounds_toArray, List.set_cons_zero, List.set_cons_succ]
          refine wpAnyH_done (by kernel_rfl) ?_ _
          exact HREST.out _ _ _ _ _ _ _ _ _ _ _ _ _ _ _ _ _ _ _ _ _ _ _ _ _ _ _ _ _ _ _ _ _ _ _ _ _ _ _ _ _ _ _ _ _ _ _ _ _ _ _ _ _ _ _ _ _ _ _ _ _ _ _ _ _ _ _ _ _ _ _ _ _ _ _ _ _ _ Fv11 v11 Lv11.out.dev Lv11.out.below
      · have zm : (Instr.makeSlice 28 (.int .i64 83) (.int .i64 83)).run Try.prog v2 = .ok (.slice (some ⟨v2.heap.size, 0, none⟩) 83 83) (v2.alloc (.cells (bcs (zeros 83)).toArray 5)) := make_zeros 83 (by decide) v2
        go_simp
        have by0 := hide (ByW.new Lv2.out 83)
        obtain ⟨pv12, hpv12⟩ : ∃ z, z = v2.heap.size := ⟨_, rfl⟩
        have bb : Below v2.heap.size v2 (v2.alloc (.cells (bcs (zeros 83)).toArray 5)) := below_alloc (Below.refl _ _) _
        obtain ⟨v12, hwv12⟩ : ∃ z, z = v2.alloc (.cells (bcs (zeros 83)).toArray 5) := ⟨_, rfl⟩
        rw [← hwv12] at by0 bb ⊢
        rw [← hpv12] at by0 ⊢
        obtain ⟨Fv12, hFv12⟩ : ∃ z, z = Fv2 := ⟨_, rfl⟩
        have Lv12 := hide (show LogW w v12 g b Fv12 (newDev 4) (openAt 1) by rw [hFv12]; exact Lv2.out.under bb)
        have Y83v12 := hide (show ByW v12 Fv12 g pv12 83 (zeros 83) by rw [hFv12]; exact by0.out)
        clear by0 bb zm hwv12 hpv12 hFv12
        refine hK.out _ _ (trivial) (fun hSA3 => ?_)
        clear hK K
        refine wpAnyH_ready (rs := [5]) (by kernel_rfl) (by simp) ?_
        refine AllReadyH.cons rfl (fun K hK => ?_) AllReadyH.nil
        have zm : (Instr.makeSlice 28 (.int .i64 84) (.int .i64 84)).run Try.prog v12 = .ok (.slice (some ⟨v12.heap.size, 0, none⟩) 84 84) (v12.alloc (.cells (bcs (zeros 84)).toArray 5)) := make_zeros 84 (by decide) v12
        go_simp
        have by0 := hide (ByW.new Lv12.out 84)
        obtain ⟨pv13, hpv13⟩ : ∃ z, z = v12.heap.size := ⟨_, rfl⟩
        have bb : Below v12.heap.size v12 (v12.alloc (.cells (bcs (zeros 84)).toArray 5)) := below_alloc (Below.refl _ _) _
        obtain ⟨v13, hwv13⟩ : ∃ z, z = v12.alloc (.cells (bcs (zeros 84)).toArray 5) := ⟨_, rfl⟩
        rw [← hwv13] at by0 bb ⊢
        rw [← hpv13] at by0 ⊢
        obtain ⟨Fv13, hFv13⟩ : ∃ z, z = Fv12 := ⟨_, rfl⟩
        have Lv13 := hide (show LogW w v13 g b Fv13 (newDev 4) (openAt 1) by rw [hFv13]; exact Lv12.out.under bb)
        have Y84v13 := hide (show ByW v13 Fv13 g pv13 84 (zeros 84) by rw [hFv13]; exact by0.out)
        have Y83v13 := hide (show ByW v13 Fv13 g pv12 83 (zeros 83) by rw [hFv13]; exact Y83v12.out.under bb)
        clear by0 bb zm hwv13 hpv13 hFv13
        refine hK.out _ _ (trivial) (fun hSA4 => ?_)
        clear hK K
        refine wpAnyH_ready (rs := [6]) (by kernel_rfl) (by simp) ?_
        refine AllReadyH.cons rfl (fun K hK => ?_) AllReadyH.nil
        go_simp
        go_simp
        go_wp2_with (go_at_call 59; refine (Begin_any v13 g b Fv13 (newDev 4) (openAt 1) (some ⟨pv13, 0, none⟩) 84 84 (zeros 84) Lv13.out.log Lv13.out.dev (new_bytes 4) Lv13.out.ng Y84v13.out.bys (fun _ ad e h => by injection e with e; subst e; exact Y84v13.out.ne h) (by decide) (by decide)).mono ?_; intro e v14 hp; rw [begin84] at hp; obtain ⟨rfl, Fv14, hl, hs, ho⟩ := Lv13.out.post hp; have Lv14 := hide hl; have Y84v14 := hide (Y84v13.out.post ho hs); have Y83v14 := hide (Y83v13.out.post ho hs); clear hp hl hs ho)
        refine hK.out _ _ (trivial) (fun hSA5 => ?_)
        clear hK K
        refine wpAnyH_ready (rs := [9]) (by kernel_rfl) (by simp) ?_
        refine AllReadyH.cons rfl (fun K hK => ?_) AllReadyH.nil
        go_simp
        go_simp
        go_wp2_with (go_at_call 59; refine (Begin_any v14 g b Fv14 (newDev 4) (openAt 1) (some ⟨pv12, 0, none⟩) 83 83 (zeros 83) Lv14.out.log Lv14.out.dev (new_bytes 4) Lv14.out.ng Y83v14.out.bys (fun _ ad e h => by injection e with e; subst e; exact Y83v14.out.ne h) (by decide) (by decide)).mono ?_; intro e v15 hp; rw [E4.out] at hp; obtain ⟨rfl, Fv15, hl, hs, ho⟩ := Lv14.out.post hp; have Lv15 := hide hl; have Y83v15 := hide (Y83v14.out.post ho hs); clear hp hl hs ho)
        refine hK.out _ _ (trivial) (fun hSA6 => ?_)
        clear hK K
        refine wpAnyH_ready (rs := [11]) (by kernel_rfl) (by simp) ?_
        refine AllReadyH.cons rfl (fun K hK => ?_) AllReadyH.nil
        go_simp
        go_simp
        go_wp2_with (go_at_call 57; refine (Add_any v15 g b Fv15 d4 l4 none 0 0 [] Lv15.out.log Lv15.out.dev HB4.out Lv15.out.ng (Bys.nil _ _) (by decide) (by rw [HA4.out]; decide) (by rw [HA4.out]; decide) HW4.out).mono ?_; intro e v16 hp; rw [E9.out] at hp; obtain ⟨rfl, Fv16, hl, hs, ho⟩ := Lv15.out.post hp; have Lv16 := hide hl; clear hp hl hs ho)
        refine hK.out _ _ (trivial) (fun hSA7 => ?_)
        clear hK K
        (refine wpAnyH_take (i := 12) (oi := ⟨some 6, .assign (.tmp 22), 31, "law.go:30", #[⟨1, .data⟩, ⟨11, .chain⟩, ⟨0, .phase⟩, ⟨1, .phase⟩, { on := 2, ground := Go.Ground.textOnly Go.Departure.lateStores }, { on := 3, ground := Go.Ground.textOnly Go.Departure.lateStoresUnsure }, { on := 4, ground := Go.Ground.textOnly Go.Departure.lateStores }, { on := 5, ground := Go.Ground.textOnly Go.Departure.lateStoresUnsure }, { on := 6, ground := Go.Ground.textOnly Go.Departure.lateStoresUnsure }, { on := 7, ground := Go.Ground.textOnly Go.Departure.lateStores }, { on := 8, ground := Go.Ground.textOnly Go.Departure.lateStoresUnsure }, { on := 9, ground := Go.Ground.textOnly Go.Departure.lateStoresUnsure }, { on := 10, ground := Go.Ground.textOnly Go.Departure.lateStores }, { on := 11, ground := Go.Ground.textOnly Go.Departure.lateStoresUnsure }], none⟩) (v := ?_) rfl (by kernel_rfl) (by kernel_rfl) (by kernel_rfl) (fun _ _ _ h => h) (Or.inl ⟨by rfl, fun w' hSw => ?_⟩) hSA7 ?_; rotate_left; focus (go_simp; try with_reducible rfl))
        simp only [Act.put, List.setIfInBounds_toArray, List.set_cons_zero, List.set_cons_succ]
        (refine wpAnyH_take (i := 13) (oi := ⟨some 7, .assign (.tmp 24), 31, "law.go:30", #[⟨3, .data⟩, ⟨12, .chain⟩, ⟨0, .phase⟩, ⟨1, .phase⟩, ⟨2, .phase⟩, ⟨3, .phase⟩, { on := 4, ground := Go.Ground.textOnly Go.Departure.lateStores }, { on := 5, ground := Go.Ground.textOnly Go.Departure.lateStoresUnsure }, { on := 6, ground := Go.Ground.textOnly Go.Departure.lateStoresUnsure }, { on := 7, ground := Go.Ground.textOnly Go.Departure.lateStores }, { on := 8, ground := Go.Ground.textOnly Go.Departure.lateStoresUnsure }, { on := 9, ground := Go.Ground.textOnly Go.Departure.lateStoresUnsure }, { on := 10, ground := Go.Ground.textOnly Go.Departure.lateStores }, { on := 11, ground := Go.Ground.textOnly Go.Departure.lateStoresUnsure }, ⟨12, .phase⟩], none⟩) (v := ?_) rfl (by kernel_rfl) (by kernel_rfl) (by kernel_rfl) (fun _ _ _ h => h) (Or.inl ⟨by rfl, fun w' hSw => ?_⟩) hSA7 ?_; rotate_left; focus (go_simp; try with_reducible rfl))
        simp only [Act.put, List.setIfInBounds_toArray, List.set_cons_zero, List.set_cons_succ]
        (refine wpAnyH_take (i := 14) (oi := ⟨some 8, .assign (.tmp 27), 31, "law.go:30", #[⟨6, .data⟩, ⟨13, .chain⟩, ⟨0, .phase⟩, ⟨1, .phase⟩, ⟨2, .phase⟩, ⟨3, .phase⟩, ⟨4, .phase⟩, ⟨5, .phase⟩, ⟨6, .phase⟩, { on := 7, ground := Go.Ground.textOnly Go.Departure.lateStores }, { on := 8, ground := Go.Ground.textOnly Go.Departure.lateStoresUnsure }, { on := 9, ground := Go.Ground.textOnly Go.Departure.lateStoresUnsure }, { on := 10, ground := Go.Ground.textOnly Go.Departure.lateStores }, { on := 11, ground := Go.Ground.textOnly Go.Departure.lateStoresUnsure }, ⟨12, .phase⟩, ⟨13, .phase⟩], none⟩) (v := ?_) rfl (by kernel_rfl) (by kernel_rfl) (by kernel_rfl) (fun _ _ _ h => h) (Or.inl ⟨by rfl, fun w' hSw => ?_⟩) hSA7 ?_; rotate_left; focus (go_simp; try with_reducible rfl))
        simp only [Act.put, List.setIfInBounds_toArray, List.set_cons_zero, List.set_cons_succ]
        (refine wpAnyH_take (i := 15) (oi := ⟨some 9, .assign (.tmp 30), 31, "law.go:30", #[⟨9, .data⟩, ⟨14, .chain⟩, ⟨0, .phase⟩, ⟨1, .phase⟩, ⟨2, .phase⟩, ⟨3, .phase⟩, ⟨4, .phase⟩, ⟨5, .phase⟩, ⟨6, .phase⟩, ⟨7, .phase⟩, ⟨8, .phase⟩, ⟨9, .phase⟩, { on := 10, ground := Go.Ground.textOnly Go.Departure.lateStores }, { on := 11, ground := Go.Ground.textOnly Go.Departure.lateStoresUnsure }, ⟨12, .phase⟩, ⟨13, .phase⟩, ⟨14, .phase⟩], none⟩) (v := ?_) rfl (by kernel_rfl) (by kernel_rfl) (by kernel_rfl) (fun _ _ _ h => h) (Or.inl ⟨by rfl, fun w' hSw => ?_⟩) hSA7 ?_; rotate_left; focus (go_simp; try with_reducible rfl))
        simp only [Act.put, List.setIfInBounds_toArray, List.set_cons_zero, List.set_cons_succ]
        (refine wpAnyH_take (i := 16) (oi := ⟨some 10, .assign (.tmp 32), 31, "law.go:30", #[⟨11, .data⟩, ⟨15, .chain⟩, ⟨0, .phase⟩, ⟨1, .phase⟩, ⟨2, .phase⟩, ⟨3, .phase⟩, ⟨4, .phase⟩, ⟨5, .phase⟩, ⟨6, .phase⟩, ⟨7, .phase⟩, ⟨8, .phase⟩, ⟨9, .phase⟩, ⟨10, .phase⟩, ⟨11, .phase⟩, ⟨12, .phase⟩, ⟨13, .phase⟩, ⟨14, .phase⟩, ⟨15, .phase⟩], none⟩) (v := ?_) rfl (by kernel_rfl) (by kernel_rfl) (by kernel_rfl) (fun _ _ _ h => h) (Or.inl ⟨by rfl, fun w' hSw => ?_⟩) hSA7 ?_; rotate_left; focus (go_simp; try with_reducible rfl))
        simp only [Act.put, List.setIfInBounds_toArray, List.set_cons_zero, List.set_cons_succ]
        refine wpAnyH_done (by kernel_rfl) ?_ _
        exact HREST.out _ _ _ _ _ _ _ _ _ _ _ _ _ _ _ _ _ _ _ _ _ _ _ _ _ _ _ _ _ _ _ _ _ _ _ _ _ _ _ _ _ _ _ _ _ _ _ _ _ _ _ _ _ _ _ _ _ _ _ _ _ _ _ _ _ _ _ _ _ _ _ _ _ _ _ _ _ _ Fv16 v16 Lv16.out.dev Lv16.out.below
    · have zm : (Instr.makeSlice 28 (.int .i64 84) (.int .i64 84)).run Try.prog v1 = .ok (.slice (some ⟨v1.heap.size, 0, none⟩) 84 84) (v1.alloc (.cells (bcs (zeros 84)).toArray 5)) := make_zeros 84 (by decide) v1
      go_simp
      have by0 := hide (ByW.new Lv1.out 84)
      obtain ⟨pv17, hpv17⟩ : ∃ z, z = v1.heap.size := ⟨_, rfl⟩
      have bb : Below v1.heap.size v1 (v1.alloc (.cells (bcs (zeros 84)).toArray 5)) := below_alloc (Below.refl _ _) _
      obtain ⟨v17, hwv17⟩ : ∃ z, z = v1.alloc (.cells (bcs (zeros 84)).toArray 5) := ⟨_, rfl⟩
      rw [← hwv17] at by0 bb ⊢
      rw [← hpv17] at by0 ⊢
      obtain ⟨Fv17, hFv17⟩ : ∃ z, z = Fv1 := ⟨_, rfl⟩
      have Lv17 := hide (show LogW w v17 g b Fv17 (newDev 4) (openAt 1) by rw [hFv17]; exact Lv1.out.under bb)
      have Y84v17 := hide (show ByW v17 Fv17 g pv17 84 (zeros 84) by rw [hFv17]; exact by0.out)
      clear by0 bb zm hwv17 hpv17 hFv17
      refine hK.out _ _ (trivial) (fun hSA2 => ?_)
      clear hK K
      refine wpAnyH_ready (rs := [3, 8]) (by kernel_rfl) (by simp) ?_
      refine AllReadyH.cons rfl (fun K hK => ?_) (AllReadyH.cons rfl (fun K hK => ?_) AllReadyH.nil)
      · go_simp
        go_simp
        go_wp2_with (go_at_call 58; refine (Sync_any v17 g b Fv17 (newDev 4) (openAt 1) Lv17.out.log Lv17.out.dev Lv17.out.ng (by decide)).mono ?_; intro e v18 hp; rw [syncL_off] at hp; obtain ⟨rfl, Fv18, hl, hs, ho⟩ := Lv17.out.post hp; have Lv18 := hide hl; have Y84v18 := hide (Y84v17.out.post ho hs); clear hp hl hs ho)
        refine hK.out _ _ (trivial) (fun hSA3 => ?_)
        clear hK K
        refine wpAnyH_ready (rs := [6, 8]) (by kernel_rfl) (by simp) ?_
        refine AllReadyH.cons rfl (fun K hK => ?_) (AllReadyH.cons rfl (fun K hK => ?_) AllReadyH.nil)
        · go_simp
          go_simp
          go_wp2_with (go_at_call 59; refine (Begin_any v18 g b Fv18 (newDev 4) (openAt 1) (some ⟨pv17, 0, none⟩) 84 84 (zeros 84) Lv18.out.log Lv18.out.dev (new_bytes 4) Lv18.out.ng Y84v18.out.bys (fun _ ad e h => by injection e with e; subst e; exact Y84v18.out.ne h) (by decide) (by decide)).mono ?_; intro e v19 hp; rw [begin84] at hp; obtain ⟨rfl, Fv19, hl, hs, ho⟩ := Lv18.out.post hp; have Lv19 := hide hl; have Y84v19 := hide (Y84v18.out.post ho hs); clear hp hl hs ho)
          refine hK.out _ _ (trivial) (fun hSA4 => ?_)
          clear hK K
          refine wpAnyH_ready (rs := [8]) (by kernel_rfl) (by simp) ?_
          refine AllReadyH.cons rfl (fun K hK => ?_) AllReadyH.nil
          have zm : (Instr.makeSlice 28 (.int .i64 83) (.int .i64 83)).run Try.prog v19 = .ok (.slice (some ⟨v19.heap.size, 0, none⟩) 83 83) (v19.alloc (.cells (bcs (zeros 83)).toArray 5)) := make_zeros 83 (by decide) v19
          go_simp
          have by0 := hide (ByW.new Lv19.out 83)
          obtain ⟨pv20, hpv20⟩ : ∃ z, z = v19.heap.size := ⟨_, rfl⟩
          have bb : Below v19.heap.size v19 (v19.alloc (.cells (bcs (zeros 83)).toArray 5)) := below_alloc (Below.refl _ _) _
          obtain ⟨v20, hwv20⟩ : ∃ z, z = v19.alloc (.cells (bcs (zeros 83)).toArray 5) := ⟨_, rfl⟩
          rw [← hwv20] at by0 bb ⊢
          rw [← hpv20] at by0 ⊢
          obtain ⟨Fv20, hFv20⟩ : ∃ z, z = Fv19 := ⟨_, rfl⟩
          have Lv20 := hide (show LogW w v20 g b Fv20 (newDev 4) (openAt 1) by rw [hFv20]; exact Lv19.out.under bb)
          have Y83v20 := hide (show ByW v20 Fv20 g pv20 83 (zeros 83) by rw [hFv20]; exact by0.out)
          clear by0 bb zm hwv20 hpv20 hFv20
          refine hK.out _ _ (trivial) (fun hSA5 => ?_)
          clear hK K
          refine wpAnyH_ready (rs := [9]) (by kernel_rfl) (by simp) ?_
          refine AllReadyH.cons rfl (fun K hK => ?_) AllReadyH.nil
          go_simp
          go_simp
          go_wp2_with (go_at_call 59; refine (Begin_any v20 g b Fv20 (newDev 4) (openAt 1) (some ⟨pv20, 0, none⟩) 83 83 (zeros 83) Lv20.out.log Lv20.out.dev (new_bytes 4) Lv20.out.ng Y83v20.out.bys (fun _ ad e h => by injection e with e; subst e; exact Y83v20.out.ne h) (by decide) (by decide)).mono ?_; intro e v21 hp; rw [E4.out] at hp; obtain ⟨rfl, Fv21, hl, hs, ho⟩ := Lv20.out.post hp; have Lv21 := hide hl; have Y83v21 := hide (Y83v20.out.post ho hs); clear hp hl hs ho)
          refine hK.out _ _ (trivial) (fun hSA6 => ?_)
          clear hK K
          refine wpAnyH_ready (rs := [11]) (by kernel_rfl) (by simp) ?_
          refine AllReadyH.cons rfl (fun K hK => ?_) AllReadyH.nil
          go_simp
          go_simp
          go_wp2_with (go_at_call 57; refine (Add_any v21 g b Fv21 d4 l4 none 0 0 [] Lv21.out.log Lv21.out.dev HB4.out Lv21.out.ng (Bys.nil _ _) (by decide) (by rw [HA4.out]; decide) (by rw [HA4.out]; decide) HW4.out).mono ?_; intro e v22 hp; rw [E9.out] at hp; obtain ⟨rfl, Fv22, hl, hs, ho⟩ := Lv21.out.post hp; have Lv22 := hide hl; clear hp hl hs ho)
          refine hK.out _ _ (trivial) (fun hSA7 => ?_)
          clear hK K
          (refine wpAnyH_take (i := 12) (oi := ⟨some 6, .assign (.tmp 22), 31, "law.go:30", #[⟨1, .data⟩, ⟨11, .chain⟩, ⟨0, .phase⟩, ⟨1, .phase⟩, { on := 2, ground := Go.Ground.textOnly Go.Departure.lateStores }, { on := 3, ground := Go.Ground.textOnly Go.Departure.lateStoresUnsure }, { on := 4, ground := Go.Ground.textOnly Go.Departure.lateStores }, { on := 5, ground := Go.Ground.textOnly Go.Departure.lateStoresUnsure }, { on := 6, ground := Go.Ground.textOnly Go.Departure.lateStoresUnsure }, { on := 7, ground := Go.Ground.textOnly Go.Departure.lateStores }, { on := 8, ground := Go.Ground.textOnly Go.Departure.lateStoresUnsure }, { on := 9, ground := Go.Ground.textOnly Go.Departure.lateStoresUnsure }, { on := 10, ground := Go.Ground.textOnly Go.Departure.lateStores }, { on := 11, ground := Go.Ground.textOnly Go.Departure.lateStoresUnsure }], none⟩) (v := ?_) rfl (by kernel_rfl) (by kernel_rfl) (by kernel_rfl) (fun _ _ _ h => h) (Or.inl ⟨by rfl, fun w' hSw => ?_⟩) hSA7 ?_; rotate_left; focus (go_simp; try with_reducible rfl))
          simp only [Act.put, List.setIfInBounds_toArray, List.set_cons_zero, List.set_cons_succ]
          (refine wpAnyH_take (i := 13) (oi := ⟨some 7, .assign (.tmp 24), 31, "law.go:30", #[⟨3, .data⟩, ⟨12, .chain⟩, ⟨0, .phase⟩, ⟨1, .phase⟩, ⟨2, .phase⟩, ⟨3, .phase⟩, { on := 4, ground := Go.Ground.textOnly Go.Departure.lateStores }, { on := 5, ground := Go.Ground.textOnly Go.Departure.lateStoresUnsure }, { on := 6, ground := Go.Ground.textOnly Go.Departure.lateStoresUnsure }, { on := 7, ground := Go.Ground.textOnly Go.Departure.lateStores }, { on := 8, ground := Go.Ground.textOnly Go.Departure.lateStoresUnsure }, { on := 9, ground := Go.Ground.textOnly Go.Departure.lateStoresUnsure }, { on := 10, ground := Go.Ground.textOnly Go.Departure.lateStores }, { on := 11, ground := Go.Ground.textOnly Go.Departure.lateStoresUnsure }, ⟨12, .phase⟩], none⟩) (v := ?_) rfl (by kernel_rfl) (by kernel_rfl) (by kernel_rfl) (fun _ _ _ h => h) (Or.inl ⟨by rfl, fun w' hSw => ?_⟩) hSA7 ?_; rotate_left; focus (go_simp; try with_reducible rfl))
          simp only [Act.put, List.setIfInBounds_toArray, List.set_cons_zero, List.set_cons_succ]
          (refine wpAnyH_take (i := 14) (oi := ⟨some 8, .assign (.tmp 27), 31, "law.go:30", #[⟨6, .data⟩, ⟨13, .chain⟩, ⟨0, .phase⟩, ⟨1, .phase⟩, ⟨2, .phase⟩, ⟨3, .phase⟩, ⟨4, .phase⟩, ⟨5, .phase⟩, ⟨6, .phase⟩, { on := 7, ground := Go.Ground.textOnly Go.Departure.lateStores }, { on := 8, ground := Go.Ground.textOnly Go.Departure.lateStoresUnsure }, { on := 9, ground := Go.Ground.textOnly Go.Departure.lateStoresUnsure }, { on := 10, ground := Go.Ground.textOnly Go.Departure.lateStores }, { on := 11, ground := Go.Ground.textOnly Go.Departure.lateStoresUnsure }, ⟨12, .phase⟩, ⟨13, .phase⟩], none⟩) (v := ?_) rfl (by kernel_rfl) (by kernel_rfl) (by kernel_rfl) (fun _ _ _ h => h) (Or.inl ⟨by rfl, fun w' hSw => ?_⟩) hSA7 ?_; rotate_left; focus (go_simp; try with_reducible rfl))
          simp only [Act.put, List.setIfInBounds_toArray, List.set_cons_zero, List.set_cons_succ]
          (refine wpAnyH_take (i := 15) (oi := ⟨some 9, .assign (.tmp 30), 31, "law.go:30", #[⟨9, .data⟩, ⟨14, .chain⟩, ⟨0, .phase⟩, ⟨1, .phase⟩, ⟨2, .phase⟩, ⟨3, .phase⟩, ⟨4, .phase⟩, ⟨5, .phase⟩, ⟨6, .phase⟩, ⟨7, .phase⟩, ⟨8, .phase⟩, ⟨9, .phase⟩, { on := 10, ground := Go.Ground.textOnly Go.Departure.lateStores }, { on := 11, ground := Go.Ground.textOnly Go.Departure.lateStoresUnsure }, ⟨12, .phase⟩, ⟨13, .phase⟩, ⟨14, .phase⟩], none⟩) (v := ?_) rfl (by kernel_rfl) (by kernel_rfl) (by kernel_rfl) (fun _ _ _ h => h) (Or.inl ⟨by rfl, fun w' hSw => ?_⟩) hSA7 ?_; rotate_left; focus (go_simp; try with_reducible rfl))
          simp only [Act.put, List.setIfInBounds_toArray, List.set_cons_zero, List.set_cons_succ]
          (refine wpAnyH_take (i := 16) (oi := ⟨some 10, .assign (.tmp 32), 31, "law.go:30", #[⟨11, .data⟩, ⟨15, .chain⟩, ⟨0, .phase⟩, ⟨1, .phase⟩, ⟨2, .phase⟩, ⟨3, .phase⟩, ⟨4, .phase⟩, ⟨5, .phase⟩, ⟨6, .phase⟩, ⟨7, .phase⟩, ⟨8, .phase⟩, ⟨9, .phase⟩, ⟨10, .phase⟩, ⟨11, .phase⟩, ⟨12, .phase⟩, ⟨13, .phase⟩, ⟨14, .phase⟩, ⟨15, .phase⟩], none⟩) (v := ?_) rfl (by kernel_rfl) (by kernel_rfl) (by kernel_rfl) (fun _ _ _ h => h) (Or.inl ⟨by rfl, fun w' hSw => ?_⟩) hSA7 ?_; rotate_left; focus (go_simp; try with_reducible rfl))
          simp only [Act.put, List.setIfInBounds_toArray, List.set_cons_zero, List.set_cons_succ]
          refine wpAnyH_done (by kernel_rfl) ?_ _
          exact HREST.out _ _ _ _ _ _ _ _ _ _ _ _ _ _ _ _ _ _ _ _ _ _ _ _ _ _ _ _ _ _ _ _ _ _ _ _ _ _ _ _ _ _ _ _ _ _ _ _ _ _ _ _ _ _ _ _ _ _ _ _ _ _ _ _ _ _ _ _ _ _ _ _ _ _ _ _ _ _ Fv22 v22 Lv22.out.dev Lv22.out.below
        · have zm : (Instr.makeSlice 28 (.int .i64 83) (.int .i64 83)).run Try.prog v18 = .ok (.slice (some ⟨v18.heap.size, 0, none⟩) 83 83) (v18.alloc (.cells (bcs (zeros 83)).toArray 5)) := make_zeros 83 (by decide) v18
          go_simp
          have by0 := hide (ByW.new Lv18.out 83)
          obtain ⟨pv23, hpv23⟩ : ∃ z, z = v18.heap.size := ⟨_, rfl⟩
          have bb : Below v18.heap.size v18 (v18.alloc (.cells (bcs (zeros 83)).toArray 5)) := below_alloc (Below.refl _ _) _
          obtain ⟨v23, hwv23⟩ : ∃ z, z = v18.alloc (.cells (bcs (zeros 83)).toArray 5) := ⟨_, rfl⟩
          rw [← hwv23] at by0 bb ⊢
          rw [← hpv23] at by0 ⊢
          obtain ⟨Fv23, hFv23⟩ : ∃ z, z = Fv18 := ⟨_, rfl⟩
          have Lv23 := hide (show LogW w v23 g b Fv23 (newDev 4) (openAt 1) by rw [hFv23]; exact Lv18.out.under bb)
          have Y83v23 := hide (show ByW v23 Fv23 g pv23 83 (zeros 83) by rw [hFv23]; exact by0.out)
          have Y84v23 := hide (show ByW v23 Fv23 g pv17 84 (zeros 84) by rw [hFv23]; exact Y84v18.out.under bb)
          clear by0 bb zm hwv23 hpv23 hFv23
          refine hK.out _ _ (trivial) (fun hSA4 => ?_)
          clear hK K
          refine wpAnyH_ready (rs := [6]) (by kernel_rfl) (by simp) ?_
          refine AllReadyH.cons rfl (fun K hK => ?_) AllReadyH.nil
          go_simp
          go_simp
          go_wp2_with (go_at_call 59; refine (Begin_any v23 g b Fv23 (newDev 4) (openAt 1) (some ⟨pv17, 0, none⟩) 84 84 (zeros 84) Lv23.out.log Lv23.out.dev (new_bytes 4) Lv23.out.ng Y84v23.out.bys (fun _ ad e h => by injection e with e; subst e; exact Y84v23.out.ne h) (by decide) (by decide)).mono ?_; intro e v24 hp; rw [begin84] at hp; obtain ⟨rfl, Fv24, hl, hs, ho⟩ := Lv23.out.post hp; have Lv24 := hide hl; have Y84v24 := hide (Y84v23.out.post ho hs); have Y83v24 := hide (Y83v23.out.post ho hs); clear hp hl hs ho)
          refine hK.out _ _ (trivial) (fun hSA5 => ?_)
          clear hK K
          refine wpAnyH_ready (rs := [9]) (by kernel_rfl) (by simp) ?_
          refine AllReadyH.cons rfl (fun K hK => ?_) AllReadyH.nil
          go_simp
          go_simp
          go_wp2_with (go_at_call 59; refine (Begin_any v24 g b Fv24 (newDev 4) (openAt 1) (some ⟨pv23, 0, none⟩) 83 83 (zeros 83) Lv24.out.log Lv24.out.dev (new_bytes 4) Lv24.out.ng Y83v24.out.bys (fun _ ad e h => by injection e with e; subst e; exact Y83v24.out.ne h) (by decide) (by decide)).mono ?_; intro e v25 hp; rw [E4.out] at hp; obtain ⟨rfl, Fv25, hl, hs, ho⟩ := Lv24.out.post hp; have Lv25 := hide hl; have Y83v25 := hide (Y83v24.out.post ho hs); clear hp hl hs ho)
          refine hK.out _ _ (trivial) (fun hSA6 => ?_)
          clear hK K
          refine wpAnyH_ready (rs := [11]) (by kernel_rfl) (by simp) ?_
          refine AllReadyH.cons rfl (fun K hK => ?_) AllReadyH.nil
          go_simp
          go_simp
          go_wp2_with (go_at_call 57; refine (Add_any v25 g b Fv25 d4 l4 none 0 0 [] Lv25.out.log Lv25.out.dev HB4.out Lv25.out.ng (Bys.nil _ _) (by decide) (by rw [HA4.out]; decide) (by rw [HA4.out]; decide) HW4.out).mono ?_; intro e v26 hp; rw [E9.out] at hp; obtain ⟨rfl, Fv26, hl, hs, ho⟩ := Lv25.out.post hp; have Lv26 := hide hl; clear hp hl hs ho)
          refine hK.out _ _ (trivial) (fun hSA7 => ?_)
          clear hK K
          (refine wpAnyH_take (i := 12) (oi := ⟨some 6, .assign (.tmp 22), 31, "law.go:30", #[⟨1, .data⟩, ⟨11, .chain⟩, ⟨0, .phase⟩, ⟨1, .phase⟩, { on := 2, ground := Go.Ground.textOnly Go.Departure.lateStores }, { on := 3, ground := Go.Ground.textOnly Go.Departure.lateStoresUnsure }, { on := 4, ground := Go.Ground.textOnly Go.Departure.lateStores }, { on := 5, ground := Go.Ground.textOnly Go.Departure.lateStoresUnsure }, { on := 6, ground := Go.Ground.textOnly Go.Departure.lateStoresUnsure }, { on := 7, ground := Go.Ground.textOnly Go.Departure.lateStores }, { on := 8, ground := Go.Ground.textOnly Go.Departure.lateStoresUnsure }, { on := 9, ground := Go.Ground.textOnly Go.Departure.lateStoresUnsure }, { on := 10, ground := Go.Ground.textOnly Go.Departure.lateStores }, { on := 11, ground := Go.Ground.textOnly Go.Departure.lateStoresUnsure }], none⟩) (v := ?_) rfl (by kernel_rfl) (by kernel_rfl) (by kernel_rfl) (fun _ _ _ h => h) (Or.inl ⟨by rfl, fun w' hSw => ?_⟩) hSA7 ?_; rotate_left; focus (go_simp; try with_reducible rfl))
          simp only [Act.put, List.setIfInBounds_toArray, List.set_cons_zero, List.set_cons_succ]
          (refine wpAnyH_take (i := 13) (oi := ⟨some 7, .assign (.tmp 24), 31, "law.go:30", #[⟨3, .data⟩, ⟨12, .chain⟩, ⟨0, .phase⟩, ⟨1, .phase⟩, ⟨2, .phase⟩, ⟨3, .phase⟩, { on := 4, ground := Go.Ground.textOnly Go.Departure.lateStores }, { on := 5, ground := Go.Ground.textOnly Go.Departure.lateStoresUnsure }, { on := 6, ground := Go.Ground.textOnly Go.Departure.lateStoresUnsure }, { on := 7, ground := Go.Ground.textOnly Go.Departure.lateStores }, { on := 8, ground := Go.Ground.textOnly Go.Departure.lateStoresUnsure }, { on := 9, ground := Go.Ground.textOnly Go.Departure.lateStoresUnsure }, { on := 10, ground := Go.Ground.textOnly Go.Departure.lateStores }, { on := 11, ground := Go.Ground.textOnly Go.Departure.lateStoresUnsure }, ⟨12, .phase⟩], none⟩) (v := ?_) rfl (by kernel_rfl) (by kernel_rfl) (by kernel_rfl) (fun _ _ _ h => h) (Or.inl ⟨by rfl, fun w' hSw => ?_⟩) hSA7 ?_; rotate_left; focus (go_simp; try with_reducible rfl))
          simp only [Act.put, List.setIfInBounds_toArray, List.set_cons_zero, List.set_cons_succ]
          (refine wpAnyH_take (i := 14) (oi := ⟨some 8, .assign (.tmp 27), 31, "law.go:30", #[⟨6, .data⟩, ⟨13, .chain⟩, ⟨0, .phase⟩, ⟨1, .phase⟩, ⟨2, .phase⟩, ⟨3, .phase⟩, ⟨4, .phase⟩, ⟨5, .phase⟩, ⟨6, .phase⟩, { on := 7, ground := Go.Ground.textOnly Go.Departure.lateStores }, { on := 8, ground := Go.Ground.textOnly Go.Departure.lateStoresUnsure }, { on := 9, ground := Go.Ground.textOnly Go.Departure.lateStoresUnsure }, { on := 10, ground := Go.Ground.textOnly Go.Departure.lateStores }, { on := 11, ground := Go.Ground.textOnly Go.Departure.lateStoresUnsure }, ⟨12, .phase⟩, ⟨13, .phase⟩], none⟩) (v := ?_) rfl (by kernel_rfl) (by kernel_rfl) (by kernel_rfl) (fun _ _ _ h => h) (Or.inl ⟨by rfl, fun w' hSw => ?_⟩) hSA7 ?_; rotate_left; focus (go_simp; try with_reducible rfl))
          simp only [Act.put, List.setIfInBounds_toArray, List.set_cons_zero, List.set_cons_succ]
          (refine wpAnyH_take (i := 15) (oi := ⟨some 9, .assign (.tmp 30), 31, "law.go:30", #[⟨9, .data⟩, ⟨14, .chain⟩, ⟨0, .phase⟩, ⟨1, .phase⟩, ⟨2, .phase⟩, ⟨3, .phase⟩, ⟨4, .phase⟩, ⟨5, .phase⟩, ⟨6, .phase⟩, ⟨7, .phase⟩, ⟨8, .phase⟩, ⟨9, .phase⟩, { on := 10, ground := Go.Ground.textOnly Go.Departure.lateStores }, { on := 11, ground := Go.Ground.textOnly Go.Departure.lateStoresUnsure }, ⟨12, .phase⟩, ⟨13, .phase⟩, ⟨14, .phase⟩], none⟩) (v := ?_) rfl (by kernel_rfl) (by kernel_rfl) (by kernel_rfl) (fun _ _ _ h => h) (Or.inl ⟨by rfl, fun w' hSw => ?_⟩) hSA7 ?_; rotate_left; focus (go_simp; try with_reducible rfl))
          simp only [Act.put, List.setIfInBounds_toArray, List.set_cons_zero, List.set_cons_succ]
          (refine wpAnyH_take (i := 16) (oi := ⟨some 10, .assign (.tmp 32), 31, "law.go:30", #[⟨11, .data⟩, ⟨15, .chain⟩, ⟨0, .phase⟩, ⟨1, .phase⟩, ⟨2, .phase⟩, ⟨3, .phase⟩, ⟨4, .phase⟩, ⟨5, .phase⟩, ⟨6, .phase⟩, ⟨7, .phase⟩, ⟨8, .phase⟩, ⟨9, .phase⟩, ⟨10, .phase⟩, ⟨11, .phase⟩, ⟨12, .phase⟩, ⟨13, .phase⟩, ⟨14, .phase⟩, ⟨15, .phase⟩], none⟩) (v := ?_) rfl (by kernel_rfl) (by kernel_rfl) (by kernel_rfl) (fun _ _ _ h => h) (Or.inl ⟨by rfl, fun w' hSw => ?_⟩) hSA7 ?_; rotate_left; focus (go_simp; try with_reducible rfl))
          simp only [Act.put, List.setIfInBounds_toArray, List.set_cons_zero, List.set_cons_succ]
          refine wpAnyH_done (by kernel_rfl) ?_ _
          exact HREST.out _ _ _ _ _ _ _ _ _ _ _ _ _ _ _ _ _ _ _ _ _ _ _ _ _ _ _ _ _ _ _ _ _ _ _ _ _ _ _ _ _ _ _ _ _ _ _ _ _ _ _ _ _ _ _ _ _ _ _ _ _ _ _ _ _ _ _ _ _ _ _ _ _ _ _ _ _ _ Fv26 v26 Lv26.out.dev Lv26.out.below
      · have zm : (Instr.makeSlice 28 (.int .i64 83) (.int .i64 83)).run Try.prog v17 = .ok (.slice (some ⟨v17.heap.size, 0, none⟩) 83 83) (v17.alloc (.cells (bcs (zeros 83)).toArray 5)) := make_zeros 83 (by decide) v17
        go_simp
        have by0 := hide (ByW.new Lv17.out 83)
        obtain ⟨pv27, hpv27⟩ : ∃ z, z = v17.heap.size := ⟨_, rfl⟩
        have bb : Below v17.heap.size v17 (v17.alloc (.cells (bcs (zeros 83)).toArray 5)) := below_alloc (Below.refl _ _) _
        obtain ⟨v27, hwv27⟩ : ∃ z, z = v17.alloc (.cells (bcs (zeros 83)).toArray 5) := ⟨_, rfl⟩
        rw [← hwv27] at by0 bb ⊢
        rw [← hpv27] at by0 ⊢
        obtain ⟨Fv27, hFv27⟩ : ∃ z, z = Fv17 := ⟨_, rfl⟩
        have Lv27 := hide (show LogW w v27 g b Fv27 (newDev 4) (openAt 1) by rw [hFv27]; exact Lv17.out.under bb)
        have Y83v27 := hide (show ByW v27 Fv27 g pv27 83 (zeros 83) by rw [hFv27]; exact by0.out)
        have Y84v27 := hide (show ByW v27 Fv27 g pv17 84 (zeros 84) by rw [hFv27]; exact Y84v17.out.under bb)
        clear by0 bb zm hwv27 hpv27 hFv27
        refine hK.out _ _ (trivial) (fun hSA3 => ?_)
        clear hK K
        refine wpAnyH_ready (rs := [3]) (by kernel_rfl) (by simp) ?_
        refine AllReadyH.cons rfl (fun K hK => ?_) AllReadyH.nil
        go_simp
        go_simp
        go_wp2_with (go_at_call 58; refine (Sync_any v27 g b Fv27 (newDev 4) (openAt 1) Lv27.out.log Lv27.out.dev Lv27.out.ng (by decide)).mono ?_; intro e v28 hp; rw [syncL_off] at hp; obtain ⟨rfl, Fv28, hl, hs, ho⟩ := Lv27.out.post hp; have Lv28 := hide hl; have Y84v28 := hide (Y84v27.out.post ho hs); have Y83v28 := hide (Y83v27.out.post ho hs); clear hp hl hs ho)
        refine hK.out _ _ (trivial) (fun hSA4 => ?_)
        clear hK K
        refine wpAnyH_ready (rs := [6]) (by kernel_rfl) (by simp) ?_
        refine AllReadyH.cons rfl (fun K hK => ?_) AllReadyH.nil
        go_simp
        go_simp
        go_wp2_with (go_at_call 59; refine (Begin_any v28 g b Fv28 (newDev 4) (openAt 1) (some ⟨pv17, 0, none⟩) 84 84 (zeros 84) Lv28.out.log Lv28.out.dev (new_bytes 4) Lv28.out.ng Y84v28.out.bys (fun _ ad e h => by injection e with e; subst e; exact Y84v28.out.ne h) (by decide) (by decide)).mono ?_; intro e v29 hp; rw [begin84] at hp; obtain ⟨rfl, Fv29, hl, hs, ho⟩ := Lv28.out.post hp; have Lv29 := hide hl; have Y84v29 := hide (Y84v28.out.post ho hs); have Y83v29 := hide (Y83v28.out.post ho hs); clear hp hl hs ho)
        refine hK.out _ _ (trivial) (fun hSA5 => ?_)
        clear hK K
        refine wpAnyH_ready (rs := [9]) (by kernel_rfl) (by simp) ?_
        refine AllReadyH.cons rfl (fun K hK => ?_) AllReadyH.nil
        go_simp
        go_simp
        go_wp2_with (go_at_call 59; refine (Begin_any v29 g b Fv29 (newDev 4) (openAt 1) (some ⟨pv27, 0, none⟩) 83 83 (zeros 83) Lv29.out.log Lv29.out.dev (new_bytes 4) Lv29.out.ng Y83v29.out.bys (fun _ ad e h => by injection e with e; subst e; exact Y83v29.out.ne h) (by decide) (by decide)).mono ?_; intro e v30 hp; rw [E4.out] at hp; obtain ⟨rfl, Fv30, hl, hs, ho⟩ := Lv29.out.post hp; have Lv30 := hide hl; have Y83v30 := hide (Y83v29.out.post ho hs); clear hp hl hs ho)
        refine hK.out _ _ (trivial) (fun hSA6 => ?_)
        clear hK K
        refine wpAnyH_ready (rs := [11]) (by kernel_rfl) (by simp) ?_
        refine AllReadyH.cons rfl (fun K hK => ?_) AllReadyH.nil
        go_simp
        go_simp
        go_wp2_with (go_at_call 57; refine (Add_any v30 g b Fv30 d4 l4 none 0 0 [] Lv30.out.log Lv30.out.dev HB4.out Lv30.out.ng (Bys.nil _ _) (by decide) (by rw [HA4.out]; decide) (by rw [HA4.out]; decide) HW4.out).mono ?_; intro e v31 hp; rw [E9.out] at hp; obtain ⟨rfl, Fv31, hl, hs, ho⟩ := Lv30.out.post hp; have Lv31 := hide hl; clear hp hl hs ho)
        refine hK.out _ _ (trivial) (fun hSA7 => ?_)
        clear hK K
        (refine wpAnyH_take (i := 12) (oi := ⟨some 6, .assign (.tmp 22), 31, "law.go:30", #[⟨1, .data⟩, ⟨11, .chain⟩, ⟨0, .phase⟩, ⟨1, .phase⟩, { on := 2, ground := Go.Ground.textOnly Go.Departure.lateStores }, { on := 3, ground := Go.Ground.textOnly Go.Departure.lateStoresUnsure }, { on := 4, ground := Go.Ground.textOnly Go.Departure.lateStores }, { on := 5, ground := Go.Ground.textOnly Go.Departure.lateStoresUnsure }, { on := 6, ground := Go.Ground.textOnly Go.Departure.lateStoresUnsure }, { on := 7, ground := Go.Ground.textOnly Go.Departure.lateStores }, { on := 8, ground := Go.Ground.textOnly Go.Departure.lateStoresUnsure }, { on := 9, ground := Go.Ground.textOnly Go.Departure.lateStoresUnsure }, { on := 10, ground := Go.Ground.textOnly Go.Departure.lateStores }, { on := 11, ground := Go.Ground.textOnly Go.Departure.lateStoresUnsure }], none⟩) (v := ?_) rfl (by kernel_rfl) (by kernel_rfl) (by kernel_rfl) (fun _ _ _ h => h) (Or.inl ⟨by rfl, fun w' hSw => ?_⟩) hSA7 ?_; rotate_left; focus (go_simp; try with_reducible rfl))
        simp only [Act.put, List.setIfInBounds_toArray, List.set_cons_zero, List.set_cons_succ]
        (refine wpAnyH_take (i := 13) (oi := ⟨some 7, .assign (.tmp 24), 31, "law.go:30", #[⟨3, .data⟩, ⟨12, .chain⟩, ⟨0, .phase⟩, ⟨1, .phase⟩, ⟨2, .phase⟩, ⟨3, .phase⟩, { on := 4, ground := Go.Ground.textOnly Go.Departure.lateStores }, { on := 5, ground := Go.Ground.textOnly Go.Departure.lateStoresUnsure }, { on := 6, ground := Go.Ground.textOnly Go.Departure.lateStoresUnsure }, { on := 7, ground := Go.Ground.textOnly Go.Departure.lateStores }, { on := 8, ground := Go.Ground.textOnly Go.Departure.lateStoresUnsure }, { on := 9, ground := Go.Ground.textOnly Go.Departure.lateStoresUnsure }, { on := 10, ground := Go.Ground.textOnly Go.Departure.lateStores }, { on := 11, ground := Go.Ground.textOnly Go.Departure.lateStoresUnsure }, ⟨12, .phase⟩], none⟩) (v := ?_) rfl (by kernel_rfl) (by kernel_rfl) (by kernel_rfl) (fun _ _ _ h => h) (Or.inl ⟨by rfl, fun w' hSw => ?_⟩) hSA7 ?_; rotate_left; focus (go_simp; try with_reducible rfl))
        simp only [Act.put, List.setIfInBounds_toArray, List.set_cons_zero, List.set_cons_succ]
        (refine wpAnyH_take (i := 14) (oi := ⟨some 8, .assign (.tmp 27), 31, "law.go:30", #[⟨6, .data⟩, ⟨13, .chain⟩, ⟨0, .phase⟩, ⟨1, .phase⟩, ⟨2, .phase⟩, ⟨3, .phase⟩, ⟨4, .phase⟩, ⟨5, .phase⟩, ⟨6, .phase⟩, { on := 7, ground := Go.Ground.textOnly Go.Departure.lateStores }, { on := 8, ground := Go.Ground.textOnly Go.Departure.lateStoresUnsure }, { on := 9, ground := Go.Ground.textOnly Go.Departure.lateStoresUnsure }, { on := 10, ground := Go.Ground.textOnly Go.Departure.lateStores }, { on := 11, ground := Go.Ground.textOnly Go.Departure.lateStoresUnsure }, ⟨12, .phase⟩, ⟨13, .phase⟩], none⟩) (v := ?_) rfl (by kernel_rfl) (by kernel_rfl) (by kernel_rfl) (fun _ _ _ h => h) (Or.inl ⟨by rfl, fun w' hSw => ?_⟩) hSA7 ?_; rotate_left; focus (go_simp; try with_reducible rfl))
        simp only [Act.put, List.setIfInBounds_toArray, List.set_cons_zero, List.set_cons_succ]
        (refine wpAnyH_take (i := 15) (oi := ⟨some 9, .assign (.tmp 30), 31, "law.go:30", #[⟨9, .data⟩, ⟨14, .chain⟩, ⟨0, .phase⟩, ⟨1, .phase⟩, ⟨2, .phase⟩, ⟨3, .phase⟩, ⟨4, .phase⟩, ⟨5, .phase⟩, ⟨6, .phase⟩, ⟨7, .phase⟩, ⟨8, .phase⟩, ⟨9, .phase⟩, { on := 10, ground := Go.Ground.textOnly Go.Departure.lateStores }, { on := 11, ground := Go.Ground.textOnly Go.Departure.lateStoresUnsure }, ⟨12, .phase⟩, ⟨13, .phase⟩, ⟨14, .phase⟩], none⟩) (v := ?_) rfl (by kernel_rfl) (by kernel_rfl) (by kernel_rfl) (fun _ _ _ h => h) (Or.inl ⟨by rfl, fun w' hSw => ?_⟩) hSA7 ?_; rotate_left; focus (go_simp; try with_reducible rfl))
        simp only [Act.put, List.setIfInBounds_toArray, List.set_cons_zero, List.set_cons_succ]
        (refine wpAnyH_take (i := 16) (oi := ⟨some 10, .assign (.tmp 32), 31, "law.go:30", #[⟨11, .data⟩, ⟨15, .chain⟩, ⟨0, .phase⟩, ⟨1, .phase⟩, ⟨2, .phase⟩, ⟨3, .phase⟩, ⟨4, .phase⟩, ⟨5, .phase⟩, ⟨6, .phase⟩, ⟨7, .phase⟩, ⟨8, .phase⟩, ⟨9, .phase⟩, ⟨10, .phase⟩, ⟨11, .phase⟩, ⟨12, .phase⟩, ⟨13, .phase⟩, ⟨14, .phase⟩, ⟨15, .phase⟩], none⟩) (v := ?_) rfl (by kernel_rfl) (by kernel_rfl) (by kernel_rfl) (fun _ _ _ h => h) (Or.inl ⟨by rfl, fun w' hSw => ?_⟩) hSA7 ?_; rotate_left; focus (go_simp; try with_reducible rfl))
        simp only [Act.put, List.setIfInBounds_toArray, List.set_cons_zero, List.set_cons_succ]
        refine wpAnyH_done (by kernel_rfl) ?_ _
        exact HREST.out _ _ _ _ _ _ _ _ _ _ _ _ _ _ _ _ _ _ _ _ _ _ _ _ _ _ _ _ _ _ _ _ _ _ _ _ _ _ _ _ _ _ _ _ _ _ _ _ _ _ _ _ _ _ _ _ _ _ _ _ _ _ _ _ _ _ _ _ _ _ _ _ _ _ _ _ _ _ Fv31 v31 Lv31.out.dev Lv31.out.below
    · have zm : (Instr.makeSlice 28 (.int .i64 83) (.int .i64 83)).run Try.prog v1 = .ok (.slice (some ⟨v1.heap.size, 0, none⟩) 83 83) (v1.alloc (.cells (bcs (zeros 83)).toArray 5)) := make_zeros 83 (by decide) v1
      go_simp
      have by0 := hide (ByW.new Lv1.out 83)
      obtain ⟨pv32, hpv32⟩ : ∃ z, z = v1.heap.size := ⟨_, rfl⟩
      have bb : Below v1.heap.size v1 (v1.alloc (.cells (bcs (zeros 83)).toArray 5)) := below_alloc (Below.refl _ _) _
      obtain ⟨v32, hwv32⟩ : ∃ z, z = v1.alloc (.cells (bcs (zeros 83)).toArray 5) := ⟨_, rfl⟩
      rw [← hwv32] at by0 bb ⊢
      rw [← hpv32] at by0 ⊢
      obtain ⟨Fv32, hFv32⟩ : ∃ z, z = Fv1 := ⟨_, rfl⟩
      have Lv32 := hide (show LogW w v32 g b Fv32 (newDev 4) (openAt 1) by rw [hFv32]; exact Lv1.out.under bb)
      have Y83v32 := hide (show ByW v32 Fv32 g pv32 83 (zeros 83) by rw [hFv32]; exact by0.out)
      clear by0 bb zm hwv32 hpv32 hFv32
      refine hK.out _ _ (trivial) (fun hSA2 => ?_)
      clear hK K
      refine wpAnyH_ready (rs := [3, 5]) (by kernel_rfl) (by simp) ?_
      refine AllReadyH.cons rfl (fun K hK => ?_) (AllReadyH.cons rfl (fun K hK => ?_) AllReadyH.nil)
      · go_simp
        go_simp
        go_wp2_with (go_at_call 58; refine (Sync_any v32 g b Fv32 (newDev 4) (openAt 1) Lv32.out.log Lv32.out.dev Lv32.out.ng (by decide)).mono ?_; intro e v33 hp; rw [syncL_off] at hp; obtain ⟨rfl, Fv33, hl, hs, ho⟩ := Lv32.out.post hp; have Lv33 := hide hl; have Y83v33 := hide (Y83v32.out.post ho hs); clear hp hl hs ho)
        refine hK.out _ _ (trivial) (fun hSA3 => ?_)
        clear hK K
        refine wpAnyH_ready (rs := [5]) (by kernel_rfl) (by simp) ?_
        refine AllReadyH.cons rfl (fun K hK => ?_) AllReadyH.nil
        have zm : (Instr.makeSlice 28 (.int .i64 84) (.int .i64 84)).run Try.prog v33 = .ok (.slice (some ⟨v33.heap.size, 0, none⟩) 84 84) (v33.alloc (.cells (bcs (zeros 84)).toArray 5)) := make_zeros 84 (by decide) v33
        go_simp
        have by0 := hide (ByW.new Lv33.out 84)
        obtain ⟨pv34, hpv34⟩ : ∃ z, z = v33.heap.size := ⟨_, rfl⟩
        have bb : Below v33.heap.size v33 (v33.alloc (.cells (bcs (zeros 84)).toArray 5)) := below_alloc (Below.refl _ _) _
        obtain ⟨v34, hwv34⟩ : ∃ z, z = v33.alloc (.cells (bcs (zeros 84)).toArray 5) := ⟨_, rfl⟩
        rw [← hwv34] at by0 bb ⊢
        rw [← hpv34] at by0 ⊢
        obtain ⟨Fv34, hFv34⟩ : ∃ z, z = Fv33 := ⟨_, rfl⟩
        have Lv34 := hide (show LogW w v34 g b Fv34 (newDev 4) (openAt 1) by rw [hFv34]; exact Lv33.out.under bb)
        have Y84v34 := hide (show ByW v34 Fv34 g pv34 84 (zeros 84) by rw [hFv34]; exact by0.out)
        have Y83v34 := hide (show ByW v34 Fv34 g pv32 83 (zeros 83) by rw [hFv34]; exact Y83v33.out.under bb)
        clear by0 bb zm hwv34 hpv34 hFv34
        refine hK.out _ _ (trivial) (fun hSA4 => ?_)
        clear hK K
        refine wpAnyH_ready (rs := [6]) (by kernel_rfl) (by simp) ?_
        refine AllReadyH.cons rfl (fun K hK => ?_) AllReadyH.nil
        go_simp
        go_simp
        go_wp2_with (go_at_call 59; refine (Begin_any v34 g b Fv34 (newDev 4) (openAt 1) (some ⟨pv34, 0, none⟩) 84 84 (zeros 84) Lv34.out.log Lv34.out.dev (new_bytes 4) Lv34.out.ng Y84v34.out.bys (fun _ ad e h => by injection e with e; subst e; exact Y84v34.out.ne h) (by decide) (by decide)).mono ?_; intro e v35 hp; rw [begin84] at hp; obtain ⟨rfl, Fv35, hl, hs, ho⟩ := Lv34.out.post hp; have Lv35 := hide hl; have Y84v35 := hide (Y84v34.out.post ho hs); have Y83v35 := hide (Y83v34.out.post ho hs); clear hp hl hs ho)
        refine hK.out _ _ (trivial) (fun hSA5 => ?_)
        clear hK K
        refine wpAnyH_ready (rs := [9]) (by kernel_rfl) (by simp) ?_
        refine AllReadyH.cons rfl (fun K hK => ?_) AllReadyH.nil
        go_simp
        go_simp
        go_wp2_with (go_at_call 59; refine (Begin_any v35 g b Fv35 (newDev 4) (openAt 1) (some ⟨pv32, 0, none⟩) 83 83 (zeros 83) Lv35.out.log Lv35.out.dev (new_bytes 4) Lv35.out.ng Y83v35.out.bys (fun _ ad e h => by injection e with e; subst e; exact Y83v35.out.ne h) (by decide) (by decide)).mono ?_; intro e v36 hp; rw [E4.out] at hp; obtain ⟨rfl, Fv36, hl, hs, ho⟩ := Lv35.out.post hp; have Lv36 := hide hl; have Y83v36 := hide (Y83v35.out.post ho hs); clear hp hl hs ho)
        refine hK.out _ _ (trivial) (fun hSA6 => ?_)
        clear hK K
        refine wpAnyH_ready (rs := [11]) (by kernel_rfl) (by simp) ?_
        refine AllReadyH.cons rfl (fun K hK => ?_) AllReadyH.nil
        go_simp
        go_simp
        go_wp2_with (go_at_call 57; refine (Add_any v36 g b Fv36 d4 l4 none 0 0 [] Lv36.out.log Lv36.out.dev HB4.out Lv36.out.ng (Bys.nil _ _) (by decide) (by rw [HA4.out]; decide) (by rw [HA4.out]; decide) HW4.out).mono ?_; intro e v37 hp; rw [E9.out] at hp; obtain ⟨rfl, Fv37, hl, hs, ho⟩ := Lv36.out.post hp; have Lv37 := hide hl; clear hp hl hs ho)
        refine hK.out _ _ (trivial) (fun hSA7 => ?_)
        clear hK K
        (refine wpAnyH_take (i := 12) (oi := ⟨some 6, .assign (.tmp 22), 31, "law.go:30", #[⟨1, .data⟩, ⟨11, .chain⟩, ⟨0, .phase⟩, ⟨1, .phase⟩, { on := 2, ground := Go.Ground.textOnly Go.Departure.lateStores }, { on := 3, ground := Go.Ground.textOnly Go.Departure.lateStoresUnsure }, { on := 4, ground := Go.Ground.textOnly Go.Departure.lateStores }, { on := 5, ground := Go.Ground.textOnly Go.Departure.lateStoresUnsure }, { on := 6, ground := Go.Ground.textOnly Go.Departure.lateStoresUnsure }, { on := 7, ground := Go.Ground.textOnly Go.Departure.lateStores }, { on := 8, ground := Go.Ground.textOnly Go.Departure.lateStoresUnsure }, { on := 9, ground := Go.Ground.textOnly Go.Departure.lateStoresUnsure }, { on := 10, ground := Go.Ground.textOnly Go.Departure.lateStores }, { on := 11, ground := Go.Ground.textOnly Go.Departure.lateStoresUnsure }], none⟩) (v := ?_) rfl (by kernel_rfl) (by kernel_rfl) (by kernel_rfl) (fun _ _ _ h => h) (Or.inl ⟨by rfl, fun w' hSw => ?_⟩) hSA7 ?_; rotate_left; focus (go_simp; try with_reducible rfl))
        simp only [Act.put, List.setIfInBounds_toArray, List.set_cons_zero, List.set_cons_succ]
        (refine wpAnyH_take (i := 13) (oi := ⟨some 7, .assign (.tmp 24), 31, "law.go:30", #[⟨3, .data⟩, ⟨12, .chain⟩, ⟨0, .phase⟩, ⟨1, .phase⟩, ⟨2, .phase⟩, ⟨3, .phase⟩, { on := 4, ground := Go.Ground.textOnly Go.Departure.lateStores }, { on := 5, ground := Go.Ground.textOnly Go.Departure.lateStoresUnsure }, { on := 6, ground := Go.Ground.textOnly Go.Departure.lateStoresUnsure }, { on := 7, ground := Go.Ground.textOnly Go.Departure.lateStores }, { on := 8, ground := Go.Ground.textOnly Go.Departure.lateStoresUnsure }, { on := 9, ground := Go.Ground.textOnly Go.Departure.lateStoresUnsure }, { on := 10, ground := Go.Ground.textOnly Go.Departure.lateStores }, { on := 11, ground := Go.Ground.textOnly Go.Departure.lateStoresUnsure }, ⟨12, .phase⟩], none⟩) (v := ?_) rfl (by kernel_rfl) (by kernel_rfl) (by kernel_rfl) (fun _ _ _ h => h) (Or.inl ⟨by rfl, fun w' hSw => ?_⟩) hSA7 ?_; rotate_left; focus (go_simp; try with_reducible rfl))
        simp only [Act.put, List.setIfInBounds_toArray, List.set_cons_zero, List.set_cons_succ]
        (refine wpAnyH_take (i := 14) (oi := ⟨some 8, .assign (.tmp 27), 31, "law.go:30", #[⟨6, .data⟩, ⟨13, .chain⟩, ⟨0, .phase⟩, ⟨1, .phase⟩, ⟨2, .phase⟩, ⟨3, .phase⟩, ⟨4, .phase⟩, ⟨5, .phase⟩, ⟨6, .phase⟩, { on := 7, ground := Go.Ground.textOnly Go.Departure.lateStores }, { on := 8, ground := Go.Ground.textOnly Go.Departure.lateStoresUnsure }, { on := 9, ground := Go.Ground.textOnly Go.Departure.lateStoresUnsure }, { on := 10, ground := Go.Ground.textOnly Go.Departure.lateStores }, { on := 11, ground := Go.Ground.textOnly Go.Departure.lateStoresUnsure }, ⟨12, .phase⟩, ⟨13, .phase⟩], none⟩) (v := ?_) rfl (by kernel_rfl) (by kernel_rfl) (by kernel_rfl) (fun _ _ _ h => h) (Or.inl ⟨by rfl, fun w' hSw => ?_⟩) hSA7 ?_; rotate_left; focus (go_simp; try with_reducible rfl))
        simp only [Act.put, List.setIfInBounds_toArray, List.set_cons_zero, List.set_cons_succ]
        (refine wpAnyH_take (i := 15) (oi := ⟨some 9, .assign (.tmp 30), 31, "law.go:30", #[⟨9, .data⟩, ⟨14, .chain⟩, ⟨0, .phase⟩, ⟨1, .phase⟩, ⟨2, .phase⟩, ⟨3, .phase⟩, ⟨4, .phase⟩, ⟨5, .phase⟩, ⟨6, .phase⟩, ⟨7, .phase⟩, ⟨8, .phase⟩, ⟨9, .phase⟩, { on := 10, ground := Go.Ground.textOnly Go.Departure.lateStores }, { on := 11, ground := Go.Ground.textOnly Go.Departure.lateStoresUnsure }, ⟨12, .phase⟩, ⟨13, .phase⟩, ⟨14, .phase⟩], none⟩) (v := ?_) rfl (by kernel_rfl) (by kernel_rfl) (by kernel_rfl) (fun _ _ _ h => h) (Or.inl ⟨by rfl, fun w' hSw => ?_⟩) hSA7 ?_; rotate_left; focus (go_simp; try with_reducible rfl))
        simp only [Act.put, List.setIfInBounds_toArray, List.set_cons_zero, List.set_cons_succ]
        (refine wpAnyH_take (i := 16) (oi := ⟨some 10, .assign (.tmp 32), 31, "law.go:30", #[⟨11, .data⟩, ⟨15, .chain⟩, ⟨0, .phase⟩, ⟨1, .phase⟩, ⟨2, .phase⟩, ⟨3, .phase⟩, ⟨4, .phase⟩, ⟨5, .phase⟩, ⟨6, .phase⟩, ⟨7, .phase⟩, ⟨8, .phase⟩, ⟨9, .phase⟩, ⟨10, .phase⟩, ⟨11, .phase⟩, ⟨12, .phase⟩, ⟨13, .phase⟩, ⟨14, .phase⟩, ⟨15, .phase⟩], none⟩) (v := ?_) rfl (by kernel_rfl) (by kernel_rfl) (by kernel_rfl) (fun _ _ _ h => h) (Or.inl ⟨by rfl, fun w' hSw => ?_⟩) hSA7 ?_; rotate_left; focus (go_simp; try with_reducible rfl))
        simp only [Act.put, List.setIfInBounds_toArray, List.set_cons_zero, List.set_cons_succ]
        refine wpAnyH_done (by kernel_rfl) ?_ _
        exact HREST.out _ _ _ _ _ _ _ _ _ _ _ _ _ _ _ _ _ _ _ _ _ _ _ _ _ _ _ _ _ _ _ _ _ _ _ _ _ _ _ _ _ _ _ _ _ _ _ _ _ _ _ _ _ _ _ _ _ _ _ _ _ _ _ _ _ _ _ _ _ _ _ _ _ _ _ _ _ _ Fv37 v37 Lv37.out.dev Lv37.out.below
      · have zm : (Instr.makeSlice 28 (.int .i64 84) (.int .i64 84)).run Try.prog v32 = .ok (.slice (some ⟨v32.heap.size, 0, none⟩) 84 84) (v32.alloc (.cells (bcs (zeros 84)).toArray 5)) := make_zeros 84 (by decide) v32
        go_simp
        have by0 := hide (ByW.new Lv32.out 84)
        obtain ⟨pv38, hpv38⟩ : ∃ z, z = v32.heap.size := ⟨_, rfl⟩
        have bb : Below v32.heap.size v32 (v32.alloc (.cells (bcs (zeros 84)).toArray 5)) := below_alloc (Below.refl _ _) _
        obtain ⟨v38, hwv38⟩ : ∃ z, z = v32.alloc (.cells (bcs (zeros 84)).toArray 5) := ⟨_, rfl⟩
        rw [← hwv38] at by0 bb ⊢
        rw [← hpv38] at by0 ⊢
        obtain ⟨Fv38, hFv38⟩ : ∃ z, z = Fv32 := ⟨_, rfl⟩
        have Lv38 := hide (show LogW w v38 g b Fv38 (newDev 4) (openAt 1) by rw [hFv38]; exact Lv32.out.under bb)
        have Y84v38 := hide (show ByW v38 Fv38 g pv38 84 (zeros 84) by rw [hFv38]; exact by0.out)
        have Y83v38 := hide (show ByW v38 Fv38 g pv32 83 (zeros 83) by rw [hFv38]; exact Y83v32.out.under bb)
        clear by0 bb zm hwv38 hpv38 hFv38
        refine hK.out _ _ (trivial) (fun hSA3 => ?_)
        clear hK K
        refine wpAnyH_ready (rs := [3]) (by kernel_rfl) (by simp) ?_
        refine AllReadyH.cons rfl (fun K hK => ?_) AllReadyH.nil
        go_simp
        go_simp
        go_wp2_with (go_at_call 58; refine (Sync_any v38 g b Fv38 (newDev 4) (openAt 1) Lv38.out.log Lv38.out.dev Lv38.out.ng (by decide)).mono ?_; intro e v39 hp; rw [syncL_off] at hp; obtain ⟨rfl, Fv39, hl, hs, ho⟩ := Lv38.out.post hp; have Lv39 := hide hl; have Y84v39 := hide (Y84v38.out.post ho hs); have Y83v39 := hide (Y83v38.out.post ho hs); clear hp hl hs ho)
        refine hK.out _ _ (trivial) (fun hSA4 => ?_)
        clear hK K
        refine wpAnyH_ready (rs := [6]) (by kernel_rfl) (by simp) ?_
        refine AllReadyH.cons rfl (fun K hK => ?_) AllReadyH.nil
        go_simp
        go_simp
        go_wp2_with (go_at_call 59; refine (Begin_any v39 g b Fv39 (newDev 4) (openAt 1) (some ⟨pv38, 0, none⟩) 84 84 (zeros 84) Lv39.out.log Lv39.out.dev (new_bytes 4) Lv39.out.ng Y84v39.out.bys (fun _ ad e h => by injection e with e; subst e; exact Y84v39.out.ne h) (by decide) (by decide)).mono ?_; intro e v40 hp; rw [begin84] at hp; obtain ⟨rfl, Fv40, hl, hs, ho⟩ := Lv39.out.post hp; have Lv40 := hide hl; have Y84v40 := hide (Y84v39.out.post ho hs); have Y83v40 := hide (Y83v39.out.post ho hs); clear hp hl hs ho)
        refine hK.out _ _ (trivial) (fun hSA5 => ?_)
        clear hK K
        refine wpAnyH_ready (rs := [9]) (by kernel_rfl) (by simp) ?_
        refine AllReadyH.cons rfl (fun K hK => ?_) AllReadyH.nil
        go_simp
        go_simp
        go_wp2_with (go_at_call 59; refine (Begin_any v40 g b Fv40 (newDev 4) (openAt 1) (some ⟨pv32, 0, none⟩) 83 83 (zeros 83) Lv40.out.log Lv40.out.dev (new_bytes 4) Lv40.out.ng Y83v40.out.bys (fun _ ad e h => by injection e with e; subst e; exact Y83v40.out.ne h) (by decide) (by decide)).mono ?_; intro e v41 hp; rw [E4.out] at hp; obtain ⟨rfl, Fv41, hl, hs, ho⟩ := Lv40.out.post hp; have Lv41 := hide hl; have Y83v41 := hide (Y83v40.out.post ho hs); clear hp hl hs ho)
        refine hK.out _ _ (trivial) (fun hSA6 => ?_)
        clear hK K
        refine wpAnyH_ready (rs := [11]) (by kernel_rfl) (by simp) ?_
        refine AllReadyH.cons rfl (fun K hK => ?_) AllReadyH.nil
        go_simp
        go_simp
        go_wp2_with (go_at_call 57; refine (Add_any v41 g b Fv41 d4 l4 none 0 0 [] Lv41.out.log Lv41.out.dev HB4.out Lv41.out.ng (Bys.nil _ _) (by decide) (by rw [HA4.out]; decide) (by rw [HA4.out]; decide) HW4.out).mono ?_; intro e v42 hp; rw [E9.out] at hp; obtain ⟨rfl, Fv42, hl, hs, ho⟩ := Lv41.out.post hp; have Lv42 := hide hl; clear hp hl hs ho)
        refine hK.out _ _ (trivial) (fun hSA7 => ?_)
        clear hK K
        (refine wpAnyH_take (i := 12) (oi := ⟨some 6, .assign (.tmp 22), 31, "law.go:30", #[⟨1, .data⟩, ⟨11, .chain⟩, ⟨0, .phase⟩, ⟨1, .phase⟩, { on := 2, ground := Go.Ground.textOnly Go.Departure.lateStores }, { on := 3, ground := Go.Ground.textOnly Go.Departure.lateStoresUnsure }, { on := 4, ground := Go.Ground.textOnly Go.Departure.lateStores }, { on := 5, ground := Go.Ground.textOnly Go.Departure.lateStoresUnsure }, { on := 6, ground := Go.Ground.textOnly Go.Departure.lateStoresUnsure }, { on := 7, ground := Go.Ground.textOnly Go.Departure.lateStores }, { on := 8, ground := Go.Ground.textOnly Go.Departure.lateStoresUnsure }, { on := 9, ground := Go.Ground.textOnly Go.Departure.lateStoresUnsure }, { on := 10, ground := Go.Ground.textOnly Go.Departure.lateStores }, { on := 11, ground := Go.Ground.textOnly Go.Departure.lateStoresUnsure }], none⟩) (v := ?_) rfl (by kernel_rfl) (by kernel_rfl) (by kernel_rfl) (fun _ _ _ h => h) (Or.inl ⟨by rfl, fun w' hSw => ?_⟩) hSA7 ?_; rotate_left; focus (go_simp; try with_reducible rfl))
        simp only [Act.put, List.setIfInBounds_toArray, List.set_cons_zero, List.set_cons_succ]
        (refine wpAnyH_take (i := 13) (oi := ⟨some 7, .assign (.tmp 24), 31, "law.go:30", #[⟨3, .data⟩, ⟨12, .chain⟩, ⟨0, .phase⟩, ⟨1, .phase⟩, ⟨2, .phase⟩, ⟨3, .phase⟩, { on := 4, ground := Go.Ground.textOnly Go.Departure.lateStores }, { on := 5, ground := Go.Ground.textOnly Go.Departure.lateStoresUnsure }, { on := 6, ground := Go.Ground.textOnly Go.Departure.lateStoresUnsure }, { on := 7, ground := Go.Ground.textOnly Go.Departure.lateStores }, { on := 8, ground := Go.Ground.textOnly Go.Departure.lateStoresUnsure }, { on := 9, ground := Go.Ground.textOnly Go.Departure.lateStoresUnsure }, { on := 10, ground := Go.Ground.textOnly Go.Departure.lateStores }, { on := 11, ground := Go.Ground.textOnly Go.Departure.lateStoresUnsure }, ⟨12, .phase⟩], none⟩) (v := ?_) rfl (by kernel_rfl) (by kernel_rfl) (by kernel_rfl) (fun _ _ _ h => h) (Or.inl ⟨by rfl, fun w' hSw => ?_⟩) hSA7 ?_; rotate_left; focus (go_simp; try with_reducible rfl))
        simp only [Act.put, List.setIfInBounds_toArray, List.set_cons_zero, List.set_cons_succ]
        (refine wpAnyH_take (i := 14) (oi := ⟨some 8, .assign (.tmp 27), 31, "law.go:30", #[⟨6, .data⟩, ⟨13, .chain⟩, ⟨0, .phase⟩, ⟨1, .phase⟩, ⟨2, .phase⟩, ⟨3, .phase⟩, ⟨4, .phase⟩, ⟨5, .phase⟩, ⟨6, .phase⟩, { on := 7, ground := Go.Ground.textOnly Go.Departure.lateStores }, { on := 8, ground := Go.Ground.textOnly Go.Departure.lateStoresUnsure }, { on := 9, ground := Go.Ground.textOnly Go.Departure.lateStoresUnsure }, { on := 10, ground := Go.Ground.textOnly Go.Departure.lateStores }, { on := 11, ground := Go.Ground.textOnly Go.Departure.lateStoresUnsure }, ⟨12, .phase⟩, ⟨13, .phase⟩], none⟩) (v := ?_) rfl (by kernel_rfl) (by kernel_rfl) (by kernel_rfl) (fun _ _ _ h => h) (Or.inl ⟨by rfl, fun w' hSw => ?_⟩) hSA7 ?_; rotate_left; focus (go_simp; try with_reducible rfl))
        simp only [Act.put, List.setIfInBounds_toArray, List.set_cons_zero, List.set_cons_succ]
        (refine wpAnyH_take (i := 15) (oi := ⟨some 9, .assign (.tmp 30), 31, "law.go:30", #[⟨9, .data⟩, ⟨14, .chain⟩, ⟨0, .phase⟩, ⟨1, .phase⟩, ⟨2, .phase⟩, ⟨3, .phase⟩, ⟨4, .phase⟩, ⟨5, .phase⟩, ⟨6, .phase⟩, ⟨7, .phase⟩, ⟨8, .phase⟩, ⟨9, .phase⟩, { on := 10, ground := Go.Ground.textOnly Go.Departure.lateStores }, { on := 11, ground := Go.Ground.textOnly Go.Departure.lateStoresUnsure }, ⟨12, .phase⟩, ⟨13, .phase⟩, ⟨14, .phase⟩], none⟩) (v := ?_) rfl (by kernel_rfl) (by kernel_rfl) (by kernel_rfl) (fun _ _ _ h => h) (Or.inl ⟨by rfl, fun w' hSw => ?_⟩) hSA7 ?_; rotate_left; focus (go_simp; try with_reducible rfl))
        simp only [Act.put, List.setIfInBounds_toArray, List.set_cons_zero, List.set_cons_succ]
        (refine wpAnyH_take (i := 16) (oi := ⟨some 10, .assign (.tmp 32), 31, "law.go:30", #[⟨11, .data⟩, ⟨15, .chain⟩, ⟨0, .phase⟩, ⟨1, .phase⟩, ⟨2, .phase⟩, ⟨3, .phase⟩, ⟨4, .phase⟩, ⟨5, .phase⟩, ⟨6, .phase⟩, ⟨7, .phase⟩, ⟨8, .phase⟩, ⟨9, .phase⟩, ⟨10, .phase⟩, ⟨11, .phase⟩, ⟨12, .phase⟩, ⟨13, .phase⟩, ⟨14, .phase⟩, ⟨15, .phase⟩], none⟩) (v := ?_) rfl (by kernel_rfl) (by kernel_rfl) (by kernel_rfl) (fun _ _ _ h => h) (Or.inl ⟨by rfl, fun w' hSw => ?_⟩) hSA7 ?_; rotate_left; focus (go_simp; try with_reducible rfl))
        simp only [Act.put, List.setIfInBounds_toArray, List.set_cons_zero, List.set_cons_succ]
        refine wpAnyH_done (by kernel_rfl) ?_ _
        exact HREST.out _ _ _ _ _ _ _ _ _ _ _ _ _ _ _ _ _ _ _ _ _ _ _ _ _ _ _ _ _ _ _ _ _ _ _ _ _ _ _ _ _ _ _ _ _ _ _ _ _ _ _ _ _ _ _ _ _ _ _ _ _ _ _ _ _ _ _ _ _ _ _ _ _ _ _ _ _ _ Fv42 v42 Lv42.out.dev Lv42.out.below
  · have zm : (Instr.makeSlice 28 (.int .i64 84) (.int .i64 84)).run Try.prog w3d = .ok (.slice (some ⟨w3d.heap.size, 0, none⟩) 84 84) (w3d.alloc (.cells (bcs (zeros 84)).toArray 5)) := make_zeros 84 (by decide) w3d
    go_simp
    have by0 := hide (ByW.new Lw3d.out 84)
    obtain ⟨pv43, hpv43⟩ : ∃ z, z = w3d.heap.size := ⟨_, rfl⟩
    have bb : Below w3d.heap.size w3d (w3d.alloc (.cells (bcs (zeros 84)).toArray 5)) := below_alloc (Below.refl _ _) _
    obtain ⟨v43, hwv43⟩ : ∃ z, z = w3d.alloc (.cells (bcs (zeros 84)).toArray 5) := ⟨_, rfl⟩
    rw [← hwv43] at by0 bb ⊢
    rw [← hpv43] at by0 ⊢
    obtain ⟨Fv43, hFv43⟩ : ∃ z, z = Fw3d := ⟨_, rfl⟩
    have Lv43 := hide (show LogW w v43 g b Fv43 (newDev 4) (openAt 1) by rw [hFv43]; exact Lw3d.out.under bb)
    have Y84v43 := hide (show ByW v43 Fv43 g pv43 84 (zeros 84) by rw [hFv43]; exact by0.out)
    clear by0 bb zm hwv43 hpv43 hFv43
    refine hK.out _ _ (trivial) (fun hSA1 => ?_)
    clear hK K
    refine wpAnyH_ready (rs := [1, 8]) (by kernel_rfl) (by simp) ?_
    refine AllReadyH.cons rfl (fun K hK => ?_) (AllReadyH.cons rfl (fun K hK => ?_) AllReadyH.nil)
    · go_simp
      go_simp
      go_wp2_with (go_at_call 57; refine (Add_any v43 g b Fv43 (newDev 4) (openAt 1) none 0 0 [] Lv43.out.log Lv43.out.dev (new_bytes 4) Lv43.out.ng (Bys.nil _ _) (by decide) (by decide) (by decide) (by decide)).mono ?_; intro e v44 hp; rw [addL_off] at hp; obtain ⟨rfl, Fv44, hl, hs, ho⟩ := Lv43.out.post hp; have Lv44 := hide hl; have Y84v44 := hide (Y84v43.out.post ho hs); clear hp hl hs ho)
      refine hK.out _ _ (trivial) (fun hSA2 => ?_)
      clear hK K
      refine wpAnyH_ready (rs := [3, 8]) (by kernel_rfl) (by simp) ?_
      refine AllReadyH.cons rfl (fun K hK => ?_) (AllReadyH.cons rfl (fun K hK => ?_) AllReadyH.nil)
      · go_simp
        go_simp
        go_wp2_with (go_at_call 58; refine (Sync_any v44 g b Fv44 (newDev 4) (openAt 1) Lv44.out.log Lv44.out.dev Lv44.out.ng (by decide)).mono ?_; intro e v45 hp; rw [syncL_off] at hp; obtain ⟨rfl, Fv45, hl, hs, ho⟩ := Lv44.out.post hp; have Lv45 := hide hl; have Y84v45 := hide (Y84v44.out.post ho hs); clear hp hl hs ho)
        refine hK.out _ _ (trivial) (fun hSA3 => ?_)
        clear hK K
        refine wpAnyH_ready (rs := [6, 8]) (by kernel_rfl) (by simp) ?_
        refine AllReadyH.cons rfl (fun K hK => ?_) (AllReadyH.cons rfl (fun K hK => ?_) AllReadyH.nil)
        · go_simp
          go_simp
          go_wp2_with (go_at_call 59; refine (Begin_any v45 g b Fv45 (newDev 4) (openAt 1) (some ⟨pv43, 0, none⟩) 84 84 (zeros 84) Lv45.out.log Lv45.out.dev (new_bytes 4) Lv45.out.ng Y84v45.out.bys (fun _ ad e h => by injection e with e; subst e; exact Y84v45.out.ne h) (by decide) (by decide)).mono ?_; intro e v46 hp; rw [begin84] at hp; obtain ⟨rfl, Fv46, hl, hs, ho⟩ := Lv45.out.post hp; have Lv46 := hide hl; have Y84v46 := hide (Y84v45.out.post ho hs); clear hp hl hs ho)
          refine hK.out _ _ (trivial) (fun hSA4 => ?_)
          clear hK K
          refine wpAnyH_ready (rs := [8]) (by kernel_rfl) (by simp) ?_
          refine AllReadyH.cons rfl (fun K hK => ?_) AllReadyH.nil
          have zm : (Instr.makeSlice 28 (.int .i64 83) (.int .i64 83)).run Try.prog v46 = .ok (.slice (some ⟨v46.heap.size, 0, none⟩) 83 83) (v46.alloc (.cells (bcs (zeros 83)).toArray 5)) := make_zeros 83 (by decide) v46
          go_simp
          have by0 := hide (ByW.new Lv46.out 83)
          obtain ⟨pv47, hpv47⟩ : ∃ z, z = v46.heap.size := ⟨_, rfl⟩
          have bb : Below v46.heap.size v46 (v46.alloc (.cells (bcs (zeros 83)).toArray 5)) := below_alloc (Below.refl _ _) _
          obtain ⟨v47, hwv47⟩ : ∃ z, z = v46.alloc (.cells (bcs (zeros 83)).toArray 5) := ⟨_, rfl⟩
          rw [← hwv47] at by0 bb ⊢
          rw [← hpv47] at by0 ⊢
          obtain ⟨Fv47, hFv47⟩ : ∃ z, z = Fv46 := ⟨_, rfl⟩
          have Lv47 := hide (show LogW w v47 g b Fv47 (newDev 4) (openAt 1) by rw [hFv47]; exact Lv46.out.under bb)
          have Y83v47 := hide (show ByW v47 Fv47 g pv47 83 (zeros 83) by rw [hFv47]; exact by0.out)
          clear by0 bb zm hwv47 hpv47 hFv47
          refine hK.out _ _ (trivial) (fun hSA5 => ?_)
          clear hK K
          refine wpAnyH_ready (rs := [9]) (by kernel_rfl) (by simp) ?_
          refine AllReadyH.cons rfl (fun K hK => ?_) AllReadyH.nil
          go_simp
          go_simp
          go_wp2_with (go_at_call 59; refine (Begin_any v47 g b Fv47 (newDev 4) (openAt 1) (some ⟨pv47, 0, none⟩) 83 83 (zeros 83) Lv47.out.log Lv47.out.dev (new_bytes 4) Lv47.out.ng Y83v47.out.bys (fun _ ad e h => by injection e with e; subst e; exact Y83v47.out.ne h) (by decide) (by decide)).mono ?_; intro e v48 hp; rw [E4.out] at hp; obtain ⟨rfl, Fv48, hl, hs, ho⟩ := Lv47.out.post hp; have Lv48 := hide hl; have Y83v48 := hide (Y83v47.out.post ho hs); clear hp hl hs ho)
          refine hK.out _ _ (trivial) (fun hSA6 => ?_)
          clear hK K
          refine wpAnyH_ready (rs := [11]) (by kernel_rfl) (by simp) ?_
          refine AllReadyH.cons rfl (fun K hK => ?_) AllReadyH.nil
          go_simp
          go_simp
          go_wp2_with (go_at_call 57; refine (Add_any v48 g b Fv48 d4 l4 none 0 0 [] Lv48.out.log Lv48.out.dev HB4.out Lv48.out.ng (Bys.nil _ _) (by decide) (by rw [HA4.out]; decide) (by rw [HA4.out]; decide) HW4.out).mono ?_; intro e v49 hp; rw [E9.out] at hp; obtain ⟨rfl, Fv49, hl, hs, ho⟩ := Lv48.out.post hp; have Lv49 := hide hl; clear hp hl hs ho)
          refine hK.out _ _ (trivial) (fun hSA7 => ?_)
          clear hK K
          (refine wpAnyH_take (i := 12) (oi := ⟨some 6, .assign (.tmp 22), 31, "law.go:30", #[⟨1, .data⟩, ⟨11, .chain⟩, ⟨0, .phase⟩, ⟨1, .phase⟩, { on := 2, ground := Go.Ground.textOnly Go.Departure.lateStores }, { on := 3, ground := Go.Ground.textOnly Go.Departure.lateStoresUnsure }, { on := 4, ground := Go.Ground.textOnly Go.Departure.lateStores }, { on := 5, ground := Go.Ground.textOnly Go.Departure.lateStoresUnsure }, { on := 6, ground := Go.Ground.textOnly Go.Departure.lateStoresUnsure }, { on := 7, ground := Go.Ground.textOnly Go.Departure.lateStores }, { on := 8, ground := Go.Ground.textOnly Go.Departure.lateStoresUnsure }, { on := 9, ground := Go.Ground.textOnly Go.Departure.lateStoresUnsure }, { on := 10, ground := Go.Ground.textOnly Go.Departure.lateStores }, { on := 11, ground := Go.Ground.textOnly Go.Departure.lateStoresUnsure }], none⟩) (v := ?_) rfl (by kernel_rfl) (by kernel_rfl) (by kernel_rfl) (fun _ _ _ h => h) (Or.inl ⟨by rfl, fun w' hSw => ?_⟩) hSA7 ?_; rotate_left; focus (go_simp; try with_reducible rfl))
          simp only [Act.put, List.setIfInBounds_toArray, List.set_cons_zero, List.set_cons_succ]
          (refine wpAnyH_take (i := 13) (oi := ⟨some 7, .assign (.tmp 24), 31, "law.go:30", #[⟨3, .data⟩, ⟨12, .chain⟩, ⟨0, .phase⟩, ⟨1, .phase⟩, ⟨2, .phase⟩, ⟨3, .phase⟩, { on := 4, ground := Go.Ground.textOnly Go.Departure.lateStores }, { on := 5, ground := Go.Ground.textOnly Go.Departure.lateStoresUnsure }, { on := 6, ground := Go.Ground.textOnly Go.Departure.lateStoresUnsure }, { on := 7, ground := Go.Ground.textOnly Go.Departure.lateStores }, { on := 8, ground := Go.Ground.textOnly Go.Departure.lateStoresUnsure }, { on := 9, ground := Go.Ground.textOnly Go.Departure.lateStoresUnsure }, { on := 10, ground := Go.Ground.textOnly Go.Departure.lateStores }, { on := 11, ground := Go.Ground.textOnly Go.Departure.lateStoresUnsure }, ⟨12, .phase⟩], none⟩) (v := ?_) rfl (by kernel_rfl) (by kernel_rfl) (by kernel_rfl) (fun _ _ _ h => h) (Or.inl ⟨by rfl, fun w' hSw => ?_⟩) hSA7 ?_; rotate_left; focus (go_simp; try with_reducible rfl))
          simp only [Act.put, List.setIfInBounds_toArray, List.set_cons_zero, List.set_cons_succ]
          (refine wpAnyH_take (i := 14) (oi := ⟨some 8, .assign (.tmp 27), 31, "law.go:30", #[⟨6, .data⟩, ⟨13, .chain⟩, ⟨0, .phase⟩, ⟨1, .phase⟩, ⟨2, .phase⟩, ⟨3, .phase⟩, ⟨4, .phase⟩, ⟨5, .phase⟩, ⟨6, .phase⟩, { on := 7, ground := Go.Ground.textOnly Go.Departure.lateStores }, { on := 8, ground := Go.Ground.textOnly Go.Departure.lateStoresUnsure }, { on := 9, ground := Go.Ground.textOnly Go.Departure.lateStoresUnsure }, { on := 10, ground := Go.Ground.textOnly Go.Departure.lateStores }, { on := 11, ground := Go.Ground.textOnly Go.Departure.lateStoresUnsure }, ⟨12, .phase⟩, ⟨13, .phase⟩], none⟩) (v := ?_) rfl (by kernel_rfl) (by kernel_rfl) (by kernel_rfl) (fun _ _ _ h => h) (Or.inl ⟨by rfl, fun w' hSw => ?_⟩) hSA7 ?_; rotate_left; focus (go_simp; try with_reducible rfl))
          simp only [Act.put, List.setIfInBounds_toArray, List.set_cons_zero, List.set_cons_succ]
          (refine wpAnyH_take (i := 15) (oi := ⟨some 9, .assign (.tmp 30), 31, "law.go:30", #[⟨9, .data⟩, ⟨14, .chain⟩, ⟨0, .phase⟩, ⟨1, .phase⟩, ⟨2, .phase⟩, ⟨3, .phase⟩, ⟨4, .phase⟩, ⟨5, .phase⟩, ⟨6, .phase⟩, ⟨7, .phase⟩, ⟨8, .phase⟩, ⟨9, .phase⟩, { on := 10, ground := Go.Ground.textOnly Go.Departure.lateStores }, { on := 11, ground := Go.Ground.textOnly Go.Departure.lateStoresUnsure }, ⟨12, .phase⟩, ⟨13, .phase⟩, ⟨14, .phase⟩], none⟩) (v := ?_) rfl (by kernel_rfl) (by kernel_rfl) (by kernel_rfl) (fun _ _ _ h => h) (Or.inl ⟨by rfl, fun w' hSw => ?_⟩) hSA7 ?_; rotate_left; focus (go_simp; try with_reducible rfl))
          simp only [Act.put, List.setIfInBounds_toArray, List.set_cons_zero, List.set_cons_succ]
          (refine wpAnyH_take (i := 16) (oi := ⟨some 10, .assign (.tmp 32), 31, "law.go:30", #[⟨11, .data⟩, ⟨15, .chain⟩, ⟨0, .phase⟩, ⟨1, .phase⟩, ⟨2, .phase⟩, ⟨3, .phase⟩, ⟨4, .phase⟩, ⟨5, .phase⟩, ⟨6, .phase⟩, ⟨7, .phase⟩, ⟨8, .phase⟩, ⟨9, .phase⟩, ⟨10, .phase⟩, ⟨11, .phase⟩, ⟨12, .phase⟩, ⟨13, .phase⟩, ⟨14, .phase⟩, ⟨15, .phase⟩], none⟩) (v := ?_) rfl (by kernel_rfl) (by kernel_rfl) (by kernel_rfl) (fun _ _ _ h => h) (Or.inl ⟨by rfl, fun w' hSw => ?_⟩) hSA7 ?_; rotate_left; focus (go_simp; try with_reducible rfl))
          simp only [Act.put, List.setIfInBounds_toArray, List.set_cons_zero, List.set_cons_succ]
          refine wpAnyH_done (by kernel_rfl) ?_ _
          exact HREST.out _ _ _ _ _ _ _ _ _ _ _ _ _ _ _ _ _ _ _ _ _ _ _ _ _ _ _ _ _ _ _ _ _ _ _ _ _ _ _ _ _ _ _ _ _ _ _ _ _ _ _ _ _ _ _ _ _ _ _ _ _ _ _ _ _ _ _ _ _ _ _ _ _ _ _ _ _ _ Fv49 v49 Lv49.out.dev Lv49.out.below
        · have zm : (Instr.makeSlice 28 (.int .i64 83) (.int .i64 83)).run Try.prog v45 = .ok (.slice (some ⟨v45.heap.size, 0, none⟩) 83 83) (v45.alloc (.cells (bcs (zeros 83)).toArray 5)) := make_zeros 83 (by decide) v45
          go_simp
          have by0 := hide (ByW.new Lv45.out 83)
          obtain ⟨pv50, hpv50⟩ : ∃ z, z = v45.heap.size := ⟨_, rfl⟩
          have bb : Below v45.heap.size v45 (v45.alloc (.cells (bcs (zeros 83)).toArray 5)) := below_alloc (Below.refl _ _) _
          obtain ⟨v50, hwv50⟩ : ∃ z, z = v45.alloc (.cells (bcs (zeros 83)).toArray 5) := ⟨_, rfl⟩
          rw [← hwv50] at by0 bb ⊢
          rw [← hpv50] at by0 ⊢
          obtain ⟨Fv50, hFv50⟩ : ∃ z, z = Fv45 := ⟨_, rfl⟩
          have Lv50 := hide (show LogW w v50 g b Fv50 (newDev 4) (openAt 1) by rw [hFv50]; exact Lv45.out.under bb)
          have Y83v50 := hide (show ByW v50 Fv50 g pv50 83 (zeros 83) by rw [hFv50]; exact by0.out)
          have Y84v50 := hide (show ByW v50 Fv50 g pv43 84 (zeros 84) by rw [hFv50]; exact Y84v45.out.under bb)
          clear by0 bb zm hwv50 hpv50 hFv50
          refine hK.out _ _ (trivial) (fun hSA4 => ?_)
          clear hK K
          refine wpAnyH_ready (rs := [6]) (by kernel_rfl) (by simp) ?_
          refine AllReadyH.cons rfl (fun K hK => ?_) AllReadyH.nil
          go_simp
          go_simp
          go_wp2_with (go_at_call 59; refine (Begin_any v50 g b Fv50 (newDev 4) (openAt 1) (some ⟨pv43, 0, none⟩) 84 84 (zeros 84) Lv50.out.log Lv50.out.dev (new_bytes 4) Lv50.out.ng Y84v50.out.bys (fun _ ad e h => by injection e with e; subst e; exact Y84v50.out.ne h) (by decide) (by decide)).mono ?_; intro e v51 hp; rw [begin84] at hp; obtain ⟨rfl, Fv51, hl, hs, ho⟩ := Lv50.out.post hp; have Lv51 := hide hl; have Y84v51 := hide (Y84v50.out.post ho hs); have Y83v51 := hide (Y83v50.out.post ho hs); clear hp hl hs ho)
          refine hK.out _ _ (trivial) (fun hSA5 => ?_)
          clear hK K
          refine wpAnyH_ready (rs := [9]) (by kernel_rfl) (by simp) ?_
          refine AllReadyH.cons rfl (fun K hK => ?_) AllReadyH.nil
          go_simp
          go_simp
          go_wp2_with (go_at_call 59; refine (Begin_any v51 g b Fv51 (newDev 4) (openAt 1) (some ⟨pv50, 0, none⟩) 83 83 (zeros 83) Lv51.out.log Lv51.out.dev (new_bytes 4) Lv51.out.ng Y83v51.out.bys (fun _ ad e h => by injection e with e; subst e; exact Y83v51.out.ne h) (by decide) (by decide)).mono ?_; intro e v52 hp; rw [E4.out] at hp; obtain ⟨rfl, Fv52, hl, hs, ho⟩ := Lv51.out.post hp; have Lv52 := hide hl; have Y83v52 := hide (Y83v51.out.post ho hs); clear hp hl hs ho)
          refine hK.out _ _ (trivial) (fun hSA6 => ?_)
          clear hK K
          refine wpAnyH_ready (rs := [11]) (by kernel_rfl) (by simp) ?_
          refine AllReadyH.cons rfl (fun K hK => ?_) AllReadyH.nil
          go_simp
          go_simp
          go_wp2_with (go_at_call 57; refine (Add_any v52 g b Fv52 d4 l4 none 0 0 [] Lv52.out.log Lv52.out.dev HB4.out Lv52.out.ng (Bys.nil _ _) (by decide) (by rw [HA4.out]; decide) (by rw [HA4.out]; decide) HW4.out).mono ?_; intro e v53 hp; rw [E9.out] at hp; obtain ⟨rfl, Fv53, hl, hs, ho⟩ := Lv52.out.post hp; have Lv53 := hide hl; clear hp hl hs ho)
          refine hK.out _ _ (trivial) (fun hSA7 => ?_)
          clear hK K
          (refine wpAnyH_take (i := 12) (oi := ⟨some 6, .assign (.tmp 22), 31, "law.go:30", #[⟨1, .data⟩, ⟨11, .chain⟩, ⟨0, .phase⟩, ⟨1, .phase⟩, { on := 2, ground := Go.Ground.textOnly Go.Departure.lateStores }, { on := 3, ground := Go.Ground.textOnly Go.Departure.lateStoresUnsure }, { on := 4, ground := Go.Ground.textOnly Go.Departure.lateStores }, { on := 5, ground := Go.Ground.textOnly Go.Departure.lateStoresUnsure }, { on := 6, ground := Go.Ground.textOnly Go.Departure.lateStoresUnsure }, { on := 7, ground := Go.Ground.textOnly Go.Departure.lateStores }, { on := 8, ground := Go.Ground.textOnly Go.Departure.lateStoresUnsure }, { on := 9, ground := Go.Ground.textOnly Go.Departure.lateStoresUnsure }, { on := 10, ground := Go.Ground.textOnly Go.Departure.lateStores }, { on := 11, ground := Go.Ground.textOnly Go.Departure.lateStoresUnsure }], none⟩) (v := ?_) rfl (by kernel_rfl) (by kernel_rfl) (by kernel_rfl) (fun _ _ _ h => h) (Or.inl ⟨by rfl, fun w' hSw => ?_⟩) hSA7 ?_; rotate_left; focus (go_simp; try with_reducible rfl))
          simp only [Act.put, List.setIfInBounds_toArray, List.set_cons_zero, List.set_cons_succ]
          (refine wpAnyH_take (i := 13) (oi := ⟨some 7, .assign (.tmp 24), 31, "law.go:30", #[⟨3, .data⟩, ⟨12, .chain⟩, ⟨0, .phase⟩, ⟨1, .phase⟩, ⟨2, .phase⟩, ⟨3, .phase⟩, { on := 4, ground := Go.Ground.textOnly Go.Departure.lateStores }, { on := 5, ground := Go.Ground.textOnly Go.Departure.lateStoresUnsure }, { on := 6, ground := Go.Ground.textOnly Go.Departure.lateStoresUnsure }, { on := 7, ground := Go.Ground.textOnly Go.Departure.lateStores }, { on := 8, ground := Go.Ground.textOnly Go.Departure.lateStoresUnsure }, { on := 9, ground := Go.Ground.textOnly Go.Departure.lateStoresUnsure }, { on := 10, ground := Go.Ground.textOnly Go.Departure.lateStores }, { on := 11, ground := Go.Ground.textOnly Go.Departure.lateStoresUnsure }, ⟨12, .phase⟩], none⟩) (v := ?_) rfl (by kernel_rfl) (by kernel_rfl) (by kernel_rfl) (fun _ _ _ h => h) (Or.inl ⟨by rfl, fun w' hSw => ?_⟩) hSA7 ?_; rotate_left; focus (go_simp; try with_reducible rfl))
          simp only [Act.put, List.setIfInBounds_toArray, List.set_cons_zero, List.set_cons_succ]
          (refine wpAnyH_take (i := 14) (oi := ⟨some 8, .assign (.tmp 27), 31, "law.go:30", #[⟨6, .data⟩, ⟨13, .chain⟩, ⟨0, .phase⟩, ⟨1, .phase⟩, ⟨2, .phase⟩, ⟨3, .phase⟩, ⟨4, .phase⟩, ⟨5, .phase⟩, ⟨6, .phase⟩, { on := 7, ground := Go.Ground.textOnly Go.Departure.lateStores }, { on := 8, ground := Go.Ground.textOnly Go.Departure.lateStoresUnsure }, { on := 9, ground := Go.Ground.textOnly Go.Departure.lateStoresUnsure }, { on := 10, ground := Go.Ground.textOnly Go.Departure.lateStores }, { on := 11, ground := Go.Ground.textOnly Go.Departure.lateStoresUnsure }, ⟨12, .phase⟩, ⟨13, .phase⟩], none⟩) (v := ?_) rfl (by kernel_rfl) (by kernel_rfl) (by kernel_rfl) (fun _ _ _ h => h) (Or.inl ⟨by rfl, fun w' hSw => ?_⟩) hSA7 ?_; rotate_left; focus (go_simp; try with_reducible rfl))
          simp only [Act.put, List.setIfInBounds_toArray, List.set_cons_zero, List.set_cons_succ]
          (refine wpAnyH_take (i := 15) (oi := ⟨some 9, .assign (.tmp 30), 31, "law.go:30", #[⟨9, .data⟩, ⟨14, .chain⟩, ⟨0, .phase⟩, ⟨1, .phase⟩, ⟨2, .phase⟩, ⟨3, .phase⟩, ⟨4, .phase⟩, ⟨5, .phase⟩, ⟨6, .phase⟩, ⟨7, .phase⟩, ⟨8, .phase⟩, ⟨9, .phase⟩, { on := 10, ground := Go.Ground.textOnly Go.Departure.lateStores }, { on := 11, ground := Go.Ground.textOnly Go.Departure.lateStoresUnsure }, ⟨12, .phase⟩, ⟨13, .phase⟩, ⟨14, .phase⟩], none⟩) (v := ?_) rfl (by kernel_rfl) (by kernel_rfl) (by kernel_rfl) (fun _ _ _ h => h) (Or.inl ⟨by rfl, fun w' hSw => ?_⟩) hSA7 ?_; rotate_left; focus (go_simp; try with_reducible rfl))
          simp only [Act.put, List.setIfInBounds_toArray, List.set_cons_zero, List.set_cons_succ]
          (refine wpAnyH_take (i := 16) (oi := ⟨some 10, .assign (.tmp 32), 31, "law.go:30", #[⟨11, .data⟩, ⟨15, .chain⟩, ⟨0, .phase⟩, ⟨1, .phase⟩, ⟨2, .phase⟩, ⟨3, .phase⟩, ⟨4, .phase⟩, ⟨5, .phase⟩, ⟨6, .phase⟩, ⟨7, .phase⟩, ⟨8, .phase⟩, ⟨9, .phase⟩, ⟨10, .phase⟩, ⟨11, .phase⟩, ⟨12, .phase⟩, ⟨13, .phase⟩, ⟨14, .phase⟩, ⟨15, .phase⟩], none⟩) (v := ?_) rfl (by kernel_rfl) (by kernel_rfl) (by kernel_rfl) (fun _ _ _ h => h) (Or.inl ⟨by rfl, fun w' hSw => ?_⟩) hSA7 ?_; rotate_left; focus (go_simp; try with_reducible rfl))
          simp only [Act.put, List.setIfInBounds_toArray, List.set_cons_zero, List.set_cons_succ]
          refine wpAnyH_done (by kernel_rfl) ?_ _
          exact HREST.out _ _ _ _ _ _ _ _ _ _ _ _ _ _ _ _ _ _ _ _ _ _ _ _ _ _ _ _ _ _ _ _ _ _ _ _ _ _ _ _ _ _ _ _ _ _ _ _ _ _ _ _ _ _ _ _ _ _ _ _ _ _ _ _ _ _ _ _ _ _ _ _ _ _ _ _ _ _ Fv53 v53 Lv53.out.dev Lv53.out.below
      · have zm : (Instr.makeSlice 28 (.int .i64 83) (.int .i64 83)).run Try.prog v44 = .ok (.slice (some ⟨v44.heap.size, 0, none⟩) 83 83) (v44.alloc (.cells (bcs (zeros 83)).toArray 5)) := make_zeros 83 (by decide) v44
        go_simp
        have by0 := hide (ByW.new Lv44.out 83)
        obtain ⟨pv54, hpv54⟩ : ∃ z, z = v44.heap.size := ⟨_, rfl⟩
        have bb : Below v44.heap.size v44 (v44.alloc (.cells (bcs (zeros 83)).toArray 5)) := below_alloc (Below.refl _ _) _
        obtain ⟨v54, hwv54⟩ : ∃ z, z = v44.alloc (.cells (bcs (zeros 83)).toArray 5) := ⟨_, rfl⟩
        rw [← hwv54] at by0 bb ⊢
        rw [← hpv54] at by0 ⊢
        obtain ⟨Fv54, hFv54⟩ : ∃ z, z = Fv44 := ⟨_, rfl⟩
        have Lv54 := hide (show LogW w v54 g b Fv54 (newDev 4) (openAt 1) by rw [hFv54]; exact Lv44.out.under bb)
        have Y83v54 := hide (show ByW v54 Fv54 g pv54 83 (zeros 83) by rw [hFv54]; exact by0.out)
        have Y84v54 := hide (show ByW v54 Fv54 g pv43 84 (zeros 84) by rw [hFv54]; exact Y84v44.out.under bb)
        clear by0 bb zm hwv54 hpv54 hFv54
        refine hK.out _ _ (trivial) (fun hSA3 => ?_)
        clear hK K
        refine wpAnyH_ready (rs := [3]) (by kernel_rfl) (by simp) ?_
        refine AllReadyH.cons rfl (fun K hK => ?_) AllReadyH.nil
        go_simp
        go_simp
        go_wp2_with (go_at_call 58; refine (Sync_any v54 g b Fv54 (newDev 4) (openAt 1) Lv54.out.log Lv54.out.dev Lv54.out.ng (by decide)).mono ?_; intro e v55 hp; rw [syncL_off] at hp; obtain ⟨rfl, Fv55, hl, hs, ho⟩ := Lv54.out.post hp; have Lv55 := hide hl; have Y84v55 := hide (Y84v54.out.post ho hs); have Y83v55 := hide (Y83v54.out.post ho hs); clear hp hl hs ho)
        refine hK.out _ _ (trivial) (fun hSA4 => ?_)
        clear hK K
        refine wpAnyH_ready (rs := [6]) (by kernel_rfl) (by simp) ?_
        refine AllReadyH.cons rfl (fun K hK => ?_) AllReadyH.nil
        go_simp
        go_simp
        go_wp2_with (go_at_call 59; refine (Begin_any v55 g b Fv55 (newDev 4) (openAt 1) (some ⟨pv43, 0, none⟩) 84 84 (zeros 84) Lv55.out.log Lv55.out.dev (new_bytes 4) Lv55.out.ng Y84v55.out.bys (fun _ ad e h => by injection e with e; subst e; exact Y84v55.out.ne h) (by decide) (by decide)).mono ?_; intro e v56 hp; rw [begin84] at hp; obtain ⟨rfl, Fv56, hl, hs, ho⟩ := Lv55.out.post hp; have Lv56 := hide hl; have Y84v56 := hide (Y84v55.out.post ho hs); have Y83v56 := hide (Y83v55.out.post ho hs); clear hp hl hs ho)
        refine hK.out _ _ (trivial) (fun hSA5 => ?_)
        clear hK K
        refine wpAnyH_ready (rs := [9]) (by kernel_rfl) (by simp) ?_
        refine AllReadyH.cons rfl (fun K hK => ?_) AllReadyH.nil
        go_simp
        go_simp
        go_wp2_with (go_at_call 59; refine (Begin_any v56 g b Fv56 (newDev 4) (openAt 1) (some ⟨pv54, 0, none⟩) 83 83 (zeros 83) Lv56.out.log Lv56.out.dev (new_bytes 4) Lv56.out.ng Y83v56.out.bys (fun _ ad e h => by injection e with e; subst e; exact Y83v56.out.ne h) (by decide) (by decide)).mono ?_; intro e v57 hp; rw [E4.out] at hp; obtain ⟨rfl, Fv57, hl, hs, ho⟩ := Lv56.out.post hp; have Lv57 := hide hl; have Y83v57 := hide (Y83v56.out.post ho hs); clear hp hl hs ho)
        refine hK.out _ _ (trivial) (fun hSA6 => ?_)
        clear hK K
        refine wpAnyH_ready (rs := [11]) (by kernel_rfl) (by simp) ?_
        refine AllReadyH.cons rfl (fun K hK => ?_) AllReadyH.nil
        go_simp
        go_simp
        go_wp2_with (go_at_call 57; refine (Add_any v57 g b Fv57 d4 l4 none 0 0 [] Lv57.out.log Lv57.out.dev HB4.out Lv57.out.ng (Bys.nil _ _) (by decide) (by rw [HA4.out]; decide) (by rw [HA4.out]; decide) HW4.out).mono ?_; intro e v58 hp; rw [E9.out] at hp; obtain ⟨rfl, Fv58, hl, hs, ho⟩ := Lv57.out.post hp; have Lv58 := hide hl; clear hp hl hs ho)
        refine hK.out _ _ (trivial) (fun hSA7 => ?_)
        clear hK K
        (refine wpAnyH_take (i := 12) (oi := ⟨some 6, .assign (.tmp 22), 31, "law.go:30", #[⟨1, .data⟩, ⟨11, .chain⟩, ⟨0, .phase⟩, ⟨1, .phase⟩, { on := 2, ground := Go.Ground.textOnly Go.Departure.lateStores }, { on := 3, ground := Go.Ground.textOnly Go.Departure.lateStoresUnsure }, { on := 4, ground := Go.Ground.textOnly Go.Departure.lateStores }, { on := 5, ground := Go.Ground.textOnly Go.Departure.lateStoresUnsure }, { on := 6, ground := Go.Ground.textOnly Go.Departure.lateStoresUnsure }, { on := 7, ground := Go.Ground.textOnly Go.Departure.lateStores }, { on := 8, ground := Go.Ground.textOnly Go.Departure.lateStoresUnsure }, { on := 9, ground := Go.Ground.textOnly Go.Departure.lateStoresUnsure }, { on := 10, ground := Go.Ground.textOnly Go.Departure.lateStores }, { on := 11, ground := Go.Ground.textOnly Go.Departure.lateStoresUnsure }], none⟩) (v := ?_) rfl (by kernel_rfl) (by kernel_rfl) (by kernel_rfl) (fun _ _ _ h => h) (Or.inl ⟨by rfl, fun w' hSw => ?_⟩) hSA7 ?_; rotate_left; focus (go_simp; try with_reducible rfl))
        simp only [Act.put, List.setIfInBounds_toArray, List.set_cons_zero, List.set_cons_succ]
        (refine wpAnyH_take (i := 13) (oi := ⟨some 7, .assign (.tmp 24), 31, "law.go:30", #[⟨3, .data⟩, ⟨12, .chain⟩, ⟨0, .phase⟩, ⟨1, .phase⟩, ⟨2, .phase⟩, ⟨3, .phase⟩, { on := 4, ground := Go.Ground.textOnly Go.Departure.lateStores }, { on := 5, ground := Go.Ground.textOnly Go.Departure.lateStoresUnsure }, { on := 6, ground := Go.Ground.textOnly Go.Departure.lateStoresUnsure }, { on := 7, ground := Go.Ground.textOnly Go.Departure.lateStores }, { on := 8, ground := Go.Ground.textOnly Go.Departure.lateStoresUnsure }, { on := 9, ground := Go.Ground.textOnly Go.Departure.lateStoresUnsure }, { on := 10, ground := Go.Ground.textOnly Go.Departure.lateStores }, { on := 11, ground := Go.Ground.textOnly Go.Departure.lateStoresUnsure }, ⟨12, .phase⟩], none⟩) (v := ?_) rfl (by kernel_rfl) (by kernel_rfl) (by kernel_rfl) (fun _ _ _ h => h) (Or.inl ⟨by rfl, fun w' hSw => ?_⟩) hSA7 ?_; rotate_left; focus (go_simp; try with_reducible rfl))
        simp only [Act.put, List.setIfInBounds_toArray, List.set_cons_zero, List.set_cons_succ]
        (refine wpAnyH_take (i := 14) (oi := ⟨some 8, .assign (.tmp 27), 31, "law.go:30", #[⟨6, .data⟩, ⟨13, .chain⟩, ⟨0, .phase⟩, ⟨1, .phase⟩, ⟨2, .phase⟩, ⟨3, .phase⟩, ⟨4, .phase⟩, ⟨5, .phase⟩, ⟨6, .phase⟩, { on := 7, ground := Go.Ground.textOnly Go.Departure.lateStores }, { on := 8, ground := Go.Ground.textOnly Go.Departure.lateStoresUnsure }, { on := 9, ground := Go.Ground.textOnly Go.Departure.lateStoresUnsure }, { on := 10, ground := Go.Ground.textOnly Go.Departure.lateStores }, { on := 11, ground := Go.Ground.textOnly Go.Departure.lateStoresUnsure }, ⟨12, .phase⟩, ⟨13, .phase⟩], none⟩) (v := ?_) rfl (by kernel_rfl) (by kernel_rfl) (by kernel_rfl) (fun _ _ _ h => h) (Or.inl ⟨by rfl, fun w' hSw => ?_⟩) hSA7 ?_; rotate_left; focus (go_simp; try with_reducible rfl))
        simp only [Act.put, List.setIfInBounds_toArray, List.set_cons_zero, List.set_cons_succ]
        (refine wpAnyH_take (i := 15) (oi := ⟨some 9, .assign (.tmp 30), 31, "law.go:30", #[⟨9, .data⟩, ⟨14, .chain⟩, ⟨0, .phase⟩, ⟨1, .phase⟩, ⟨2, .phase⟩, ⟨3, .phase⟩, ⟨4, .phase⟩, ⟨5, .phase⟩, ⟨6, .phase⟩, ⟨7, .phase⟩, ⟨8, .phase⟩, ⟨9, .phase⟩, { on := 10, ground := Go.Ground.textOnly Go.Departure.lateStores }, { on := 11, ground := Go.Ground.textOnly Go.Departure.lateStoresUnsure }, ⟨12, .phase⟩, ⟨13, .phase⟩, ⟨14, .phase⟩], none⟩) (v := ?_) rfl (by kernel_rfl) (by kernel_rfl) (by kernel_rfl) (fun _ _ _ h => h) (Or.inl ⟨by rfl, fun w' hSw => ?_⟩) hSA7 ?_; rotate_left; focus (go_simp; try with_reducible rfl))
        simp only [Act.put, List.setIfInBounds_toArray, List.set_cons_zero, List.set_cons_succ]
        (refine wpAnyH_take (i := 16) (oi := ⟨some 10, .assign (.tmp 32), 31, "law.go:30", #[⟨11, .data⟩, ⟨15, .chain⟩, ⟨0, .phase⟩, ⟨1, .phase⟩, ⟨2, .phase⟩, ⟨3, .phase⟩, ⟨4, .phase⟩, ⟨5, .phase⟩, ⟨6, .phase⟩, ⟨7, .phase⟩, ⟨8, .phase⟩, ⟨9, .phase⟩, ⟨10, .phase⟩, ⟨11, .phase⟩, ⟨12, .phase⟩, ⟨13, .phase⟩, ⟨14, .phase⟩, ⟨15, .phase⟩], none⟩) (v := ?_) rfl (by kernel_rfl) (by kernel_rfl) (by kernel_rfl) (fun _ _ _ h => h) (Or.inl ⟨by rfl, fun w' hSw => ?_⟩) hSA7 ?_; rotate_left; focus (go_simp; try with_reducible rfl))
        simp only [Act.put, List.setIfInBounds_toArray, List.set_cons_zero, List.set_cons_succ]
        refine wpAnyH_done (by kernel_rfl) ?_ _
        exact HREST.out _ _ _ _ _ _ _ _ _ _ _ _ _ _ _ _ _ _ _ _ _ _ _ _ _ _ _ _ _ _ _ _ _ _ _ _ _ _ _ _ _ _ _ _ _ _ _ _ _ _ _ _ _ _ _ _ _ _ _ _ _ _ _ _ _ _ _ _ _ _ _ _ _ _ _ _ _ _ Fv58 v58 Lv58.out.dev Lv58.out.below
    · have zm : (Instr.makeSlice 28 (.int .i64 83) (.int .i64 83)).run Try.prog v43 = .ok (.slice (some ⟨v43.heap.size, 0, none⟩) 83 83) (v43.alloc (.cells (bcs (zeros 83)).toArray 5)) := make_zeros 83 (by decide) v43
      go_simp
      have by0 := hide (ByW.new Lv43.out 83)
      obtain ⟨pv59, hpv59⟩ : ∃ z, z = v43.heap.size := ⟨_, rfl⟩
      have bb : Below v43.heap.size v43 (v43.alloc (.cells (bcs (zeros 83)).toArray 5)) := below_alloc (Below.refl _ _) _
      obtain ⟨v59, hwv59⟩ : ∃ z, z = v43.alloc (.cells (bcs (zeros 83)).toArray 5) := ⟨_, rfl⟩
      rw [← hwv59] at by0 bb ⊢
      rw [← hpv59] at by0 ⊢
      obtain ⟨Fv59, hFv59⟩ : ∃ z, z = Fv43 := ⟨_, rfl⟩
      have Lv59 := hide (show LogW w v59 g b Fv59 (newDev 4) (openAt 1) by rw [hFv59]; exact Lv43.out.under bb)
      have Y83v59 := hide (show ByW v59 Fv59 g pv59 83 (zeros 83) by rw [hFv59]; exact by0.out)
      have Y84v59 := hide (show ByW v59 Fv59 g pv43 84 (zeros 84) by rw [hFv59]; exact Y84v43.out.under bb)
      clear by0 bb zm hwv59 hpv59 hFv59
      refine hK.out _ _ (trivial) (fun hSA2 => ?_)
      clear hK K
      refine wpAnyH_ready (rs := [1]) (by kernel_rfl) (by simp) ?_
      refine AllReadyH.cons rfl (fun K hK => ?_) AllReadyH.nil
      go_simp
      go_simp
      go_wp2_with (go_at_call 57; refine (Add_any v59 g b Fv59 (newDev 4) (openAt 1) none 0 0 [] Lv59.out.log Lv59.out.dev (new_bytes 4) Lv59.out.ng (Bys.nil _ _) (by decide) (by decide) (by decide) (by decide)).mono ?_; intro e v60 hp; rw [addL_off] at hp; obtain ⟨rfl, Fv60, hl, hs, ho⟩ := Lv59.out.post hp; have Lv60 := hide hl; have Y84v60 := hide (Y84v59.out.post ho hs); have Y83v60 := hide (Y83v59.out.post ho hs); clear hp hl hs ho)
      refine hK.out _ _ (trivial) (fun hSA3 => ?_)
      clear hK K
      refine wpAnyH_ready (rs := [3]) (by kernel_rfl) (by simp) ?_
      refine AllReadyH.cons rfl (fun K hK => ?_) AllReadyH.nil
      go_simp
      go_simp
      go_wp2_with (go_at_call 58; refine (Sync_any v60 g b Fv60 (newDev 4) (openAt 1) Lv60.out.log Lv60.out.dev Lv60.out.ng (by decide)).mono ?_; intro e v61 hp; rw [syncL_off] at hp; obtain ⟨rfl, Fv61, hl, hs, ho⟩ := Lv60.out.post hp; have Lv61 := hide hl; have Y84v61 := hide (Y84v60.out.post ho hs); have Y83v61 := hide (Y83v60.out.post ho hs); clear hp hl hs ho)
      refine hK.out _ _ (trivial) (fun hSA4 => ?_)
      clear hK K
      refine wpAnyH_ready (rs := [6]) (by kernel_rfl) (by simp) ?_
      refine AllReadyH.cons rfl (fun K hK => ?_) AllReadyH.nil
      go_simp
      go_simp
      go_wp2_with (go_at_call 59; refine (Begin_any v61 g b Fv61 (newDev 4) (openAt 1) (some ⟨pv43, 0, none⟩) 84 84 (zeros 84) Lv61.out.log Lv61.out.dev (new_bytes 4) Lv61.out.ng Y84v61.out.bys (fun _ ad e h => by injection e with e; subst e; exact Y84v61.out.ne h) (by decide) (by decide)).mono ?_; intro e v62 hp; rw [begin84] at hp; obtain ⟨rfl, Fv62, hl, hs, ho⟩ := Lv61.out.post hp; have Lv62 := hide hl; have Y84v62 := hide (Y84v61.out.post ho hs); have Y83v62 := hide (Y83v61.out.post ho hs); clear hp hl hs ho)
      refine hK.out _ _ (trivial) (fun hSA5 => ?_)
      clear hK K
      refine wpAnyH_ready (rs := [9]) (by kernel_rfl) (by simp) ?_
      refine AllReadyH.cons rfl (fun K hK => ?_) AllReadyH.nil
      go_simp
      go_simp
      go_wp2_with (go_at_call 59; refine (Begin_any v62 g b Fv62 (newDev 4) (openAt 1) (some ⟨pv59, 0, none⟩) 83 83 (zeros 83) Lv62.out.log Lv62.out.dev (new_bytes 4) Lv62.out.ng Y83v62.out.bys (fun _ ad e h => by injection e with e; subst e; exact Y83v62.out.ne h) (by decide) (by decide)).mono ?_; intro e v63 hp; rw [E4.out] at hp; obtain ⟨rfl, Fv63, hl, hs, ho⟩ := Lv62.out.post hp; have Lv63 := hide hl; have Y83v63 := hide (Y83v62.out.post ho hs); clear hp hl hs ho)
      refine hK.out _ _ (trivial) (fun hSA6 => ?_)
      clear hK K
      refine wpAnyH_ready (rs := [11]) (by kernel_rfl) (by simp) ?_
      refine AllReadyH.cons rfl (fun K hK => ?_) AllReadyH.nil
      go_simp
      go_simp
      go_wp2_with (go_at_call 57; refine (Add_any v63 g b Fv63 d4 l4 none 0 0 [] Lv63.out.log Lv63.out.dev HB4.out Lv63.out.ng (Bys.nil _ _) (by decide) (by rw [HA4.out]; decide) (by rw [HA4.out]; decide) HW4.out).mono ?_; intro e v64 hp; rw [E9.out] at hp; obtain ⟨rfl, Fv64, hl, hs, ho⟩ := Lv63.out.post hp; have Lv64 := hide hl; clear hp hl hs ho)
      refine hK.out _ _ (trivial) (fun hSA7 => ?_)
      clear hK K
      (refine wpAnyH_take (i := 12) (oi := ⟨some 6, .assign (.tmp 22), 31, "law.go:30", #[⟨1, .data⟩, ⟨11, .chain⟩, ⟨0, .phase⟩, ⟨1, .phase⟩, { on := 2, ground := Go.Ground.textOnly Go.Departure.lateStores }, { on := 3, ground := Go.Ground.textOnly Go.Departure.lateStoresUnsure }, { on := 4, ground := Go.Ground.textOnly Go.Departure.lateStores }, { on := 5, ground := Go.Ground.textOnly Go.Departure.lateStoresUnsure }, { on := 6, ground := Go.Ground.textOnly Go.Departure.lateStoresUnsure }, { on := 7, ground := Go.Ground.textOnly Go.Departure.lateStores }, { on := 8, ground := Go.Ground.textOnly Go.Departure.lateStoresUnsure }, { on := 9, ground := Go.Ground.textOnly Go.Departure.lateStoresUnsure }, { on := 10, ground := Go.Ground.textOnly Go.Departure.lateStores }, { on := 11, ground := Go.Ground.textOnly Go.Departure.lateStoresUnsure }], none⟩) (v := ?_) rfl (by kernel_rfl) (by kernel_rfl) (by kernel_rfl) (fun _ _ _ h => h) (Or.inl ⟨by rfl, fun w' hSw => ?_⟩) hSA7 ?_; rotate_left; focus (go_simp; try with_reducible rfl))
      simp only [Act.put, List.setIfInBounds_toArray, List.set_cons_zero, List.set_cons_succ]
      (refine wpAnyH_take (i := 13) (oi := ⟨some 7, .assign (.tmp 24), 31, "law.go:30", #[⟨3, .data⟩, ⟨12, .chain⟩, ⟨0, .phase⟩, ⟨1, .phase⟩, ⟨2, .phase⟩, ⟨3, .phase⟩, { on := 4, ground := Go.Ground.textOnly Go.Departure.lateStores }, { on := 5, ground := Go.Ground.textOnly Go.Departure.lateStoresUnsure }, { on := 6, ground := Go.Ground.textOnly Go.Departure.lateStoresUnsure }, { on := 7, ground := Go.Ground.textOnly Go.Departure.lateStores }, { on := 8, ground := Go.Ground.textOnly Go.Departure.lateStoresUnsure }, { on := 9, ground := Go.Ground.textOnly Go.Departure.lateStoresUnsure }, { on := 10, ground := Go.Ground.textOnly Go.Departure.lateStores }, { on := 11, ground := Go.Ground.textOnly Go.Departure.lateStoresUnsure }, ⟨12, .phase⟩], none⟩) (v := ?_) rfl (by kernel_rfl) (by kernel_rfl) (by kernel_rfl) (fun _ _ _ h => h) (Or.inl ⟨by rfl, fun w' hSw => ?_⟩) hSA7 ?_; rotate_left; focus (go_simp; try with_reducible rfl))
      simp only [Act.put, List.setIfInBounds_toArray, List.set_cons_zero, List.set_cons_succ]
      (refine wpAnyH_take (i := 14) (oi := ⟨some 8, .assign (.tmp 27), 31, "law.go:30", #[⟨6, .data⟩, ⟨13, .chain⟩, ⟨0, .phase⟩, ⟨1, .phase⟩, ⟨2, .phase⟩, ⟨3, .phase⟩, ⟨4, .phase⟩, ⟨5, .phase⟩, ⟨6, .phase⟩, { on := 7, ground := Go.Ground.textOnly Go.Departure.lateStores }, { on := 8, ground := Go.Ground.textOnly Go.Departure.lateStoresUnsure }, { on := 9, ground := Go.Ground.textOnly Go.Departure.lateStoresUnsure }, { on := 10, ground := Go.Ground.textOnly Go.Departure.lateStores }, { on := 11, ground := Go.Ground.textOnly Go.Departure.lateStoresUnsure }, ⟨12, .phase⟩, ⟨13, .phase⟩], none⟩) (v := ?_) rfl (by kernel_rfl) (by kernel_rfl) (by kernel_rfl) (fun _ _ _ h => h) (Or.inl ⟨by rfl, fun w' hSw => ?_⟩) hSA7 ?_; rotate_left; focus (go_simp; try with_reducible rfl))
      simp only [Act.put, List.setIfInBounds_toArray, List.set_cons_zero, List.set_cons_succ]
      (refine wpAnyH_take (i := 15) (oi := ⟨some 9, .assign (.tmp 30), 31, "law.go:30", #[⟨9, .data⟩, ⟨14, .chain⟩, ⟨0, .phase⟩, ⟨1, .phase⟩, ⟨2, .phase⟩, ⟨3, .phase⟩, ⟨4, .phase⟩, ⟨5, .phase⟩, ⟨6, .phase⟩, ⟨7, .phase⟩, ⟨8, .phase⟩, ⟨9, .phase⟩, { on := 10, ground := Go.Ground.textOnly Go.Departure.lateStores }, { on := 11, ground := Go.Ground.textOnly Go.Departure.lateStoresUnsure }, ⟨12, .phase⟩, ⟨13, .phase⟩, ⟨14, .phase⟩], none⟩) (v := ?_) rfl (by kernel_rfl) (by kernel_rfl) (by kernel_rfl) (fun _ _ _ h => h) (Or.inl ⟨by rfl, fun w' hSw => ?_⟩) hSA7 ?_; rotate_left; focus (go_simp; try with_reducible rfl))
      simp only [Act.put, List.setIfInBounds_toArray, List.set_cons_zero, List.set_cons_succ]
      (refine wpAnyH_take (i := 16) (oi := ⟨some 10, .assign (.tmp 32), 31, "law.go:30", #[⟨11, .data⟩, ⟨15, .chain⟩, ⟨0, .phase⟩, ⟨1, .phase⟩, ⟨2, .phase⟩, ⟨3, .phase⟩, ⟨4, .phase⟩, ⟨5, .phase⟩, ⟨6, .phase⟩, ⟨7, .phase⟩, ⟨8, .phase⟩, ⟨9, .phase⟩, ⟨10, .phase⟩, ⟨11, .phase⟩, ⟨12, .phase⟩, ⟨13, .phase⟩, ⟨14, .phase⟩, ⟨15, .phase⟩], none⟩) (v := ?_) rfl (by kernel_rfl) (by kernel_rfl) (by kernel_rfl) (fun _ _ _ h => h) (Or.inl ⟨by rfl, fun w' hSw => ?_⟩) hSA7 ?_; rotate_left; focus (go_simp; try with_reducible rfl))
      simp only [Act.put, List.setIfInBounds_toArray, List.set_cons_zero, List.set_cons_succ]
      refine wpAnyH_done (by kernel_rfl) ?_ _
      exact HREST.out _ _ _ _ _ _ _ _ _ _ _ _ _ _ _ _ _ _ _ _ _ _ _ _ _ _ _ _ _ _ _ _ _ _ _ _ _ _ _ _ _ _ _ _ _ _ _ _ _ _ _ _ _ _ _ _ _ _ _ _ _ _ _ _ _ _ _ _ _ _ _ _ _ _ _ _ _ _ Fv64 v64 Lv64.out.dev Lv64.out.below
  · have zm : (Instr.makeSlice 28 (.int .i64 83) (.int .i64 83)).run Try.prog w3d = .ok (.slice (some ⟨w3d.heap.size, 0, none⟩) 83 83) (w3d.alloc (.cells (bcs (zeros 83)).toArray 5)) := make_zeros 83 (by decide) w3d
    go_simp
    have by0 := hide (ByW.new Lw3d.out 83)
    obtain ⟨pv65, hpv65⟩ : ∃ z, z = w3d.heap.size := ⟨_, rfl⟩
    have bb : Below w3d.heap.size w3d (w3d.alloc (.cells (bcs (zeros 83)).toArray 5)) := below_alloc (Below.refl _ _) _
    obtain ⟨v65, hwv65⟩ : ∃ z, z = w3d.alloc (.cells (bcs (zeros 83)).toArray 5) := ⟨_, rfl⟩
    rw [← hwv65] at by0 bb ⊢
    rw [← hpv65] at by0 ⊢
    obtain ⟨Fv65, hFv65⟩ : ∃ z, z = Fw3d := ⟨_, rfl⟩
    have Lv65 := hide (show LogW w v65 g b Fv65 (newDev 4) (openAt 1) by rw [hFv65]; exact Lw3d.out.under bb)
    have Y83v65 := hide (show ByW v65 Fv65 g pv65 83 (zeros 83) by rw [hFv65]; exact by0.out)
    clear by0 bb zm hwv65 hpv65 hFv65
    refine hK.out _ _ (trivial) (fun hSA1 => ?_)
    clear hK K
    refine wpAnyH_ready (rs := [1, 5]) (by kernel_rfl) (by simp) ?_
    refine AllReadyH.cons rfl (fun K hK => ?_) (AllReadyH.cons rfl (fun K hK => ?_) AllReadyH.nil)
    · go_simp
      go_simp
      go_wp2_with (go_at_call 57; refine (Add_any v65 g b Fv65 (newDev 4) (openAt 1) none 0 0 [] Lv65.out.log Lv65.out.dev (new_bytes 4) Lv65.out.ng (Bys.nil _ _) (by decide) (by decide) (by decide) (by decide)).mono ?_; intro e v66 hp; rw [addL_off] at hp; obtain ⟨rfl, Fv66, hl, hs, ho⟩ := Lv65.out.post hp; have Lv66 := hide hl; have Y83v66 := hide (Y83v65.out.post ho hs); clear hp hl hs ho)
      refine hK.out _ _ (trivial) (fun hSA2 => ?_)
      clear hK K
      refine wpAnyH_ready (rs := [3, 5]) (by kernel_rfl) (by simp) ?_
      refine AllReadyH.cons rfl (fun K hK => ?_) (AllReadyH.cons rfl (fun K hK => ?_) AllReadyH.nil)
      · go_simp
        go_simp
        go_wp2_with (go_at_call 58; refine (Sync_any v66 g b Fv66 (newDev 4) (openAt 1) Lv66.out.log Lv66.out.dev Lv66.out.ng (by decide)).mono ?_; intro e v67 hp; rw [syncL_off] at hp; obtain ⟨rfl, Fv67, hl, hs, ho⟩ := Lv66.out.post hp; have Lv67 := hide hl; have Y83v67 := hide (Y83v66.out.post ho hs); clear hp hl hs ho)
        refine hK.out _ _ (trivial) (fun hSA3 => ?_)
        clear hK K
        refine wpAnyH_ready (rs := [5]) (by kernel_rfl) (by simp) ?_
        refine AllReadyH.cons rfl (fun K hK => ?_) AllReadyH.nil
        have zm : (Instr.makeSlice 28 (.int .i64 84) (.int .i64 84)).run Try.prog v67 = .ok (.slice (some ⟨v67.heap.size, 0, none⟩) 84 84) (v67.alloc (.cells (bcs (zeros 84)).toArray 5)) := make_zeros 84 (by decide) v67
        go_simp
        have by0 := hide (ByW.new Lv67.out 84)
        obtain ⟨pv68, hpv68⟩ : ∃ z, z = v67.heap.size := ⟨_, rfl⟩
        have bb : Below v67.heap.size v67 (v67.alloc (.cells (bcs (zeros 84)).toArray 5)) := below_alloc (Below.refl _ _) _
        obtain ⟨v68, hwv68⟩ : ∃ z, z = v67.alloc (.cells (bcs (zeros 84)).toArray 5) := ⟨_, rfl⟩
        rw [← hwv68] at by0 bb ⊢
        rw [← hpv68] at by0 ⊢
        obtain ⟨Fv68, hFv68⟩ : ∃ z, z = Fv67 := ⟨_, rfl⟩
        have Lv68 := hide (show LogW w v68 g b Fv68 (newDev 4) (openAt 1) by rw [hFv68]; exact Lv67.out.under bb)
        have Y84v68 := hide (show ByW v68 Fv68 g pv68 84 (zeros 84) by rw [hFv68]; exact by0.out)
        have Y83v68 := hide (show ByW v68 Fv68 g pv65 83 (zeros 83) by rw [hFv68]; exact Y83v67.out.under bb)
        clear by0 bb zm hwv68 hpv68 hFv68
        refine hK.out _ _ (trivial) (fun hSA4 => ?_)
        clear hK K
        refine wpAnyH_ready (rs := [6]) (by kernel_rfl) (by simp) ?_
        refine AllReadyH.cons rfl (fun K hK => ?_) AllReadyH.nil
        go_simp
        go_simp
        go_wp2_with (go_at_call 59; refine (Begin_any v68 g b Fv68 (newDev 4) (openAt 1) (some ⟨pv68, 0, none⟩) 84 84 (zeros 84) Lv68.out.log Lv68.out.dev (new_bytes 4) Lv68.out.ng Y84v68.out.bys (fun _ ad e h => by injection e with e; subst e; exact Y84v68.out.ne h) (by decide) (by decide)).mono ?_; intro e v69 hp; rw [begin84] at hp; obtain ⟨rfl, Fv69, hl, hs, ho⟩ := Lv68.out.post hp; have Lv69 := hide hl; have Y84v69 := hide (Y84v68.out.post ho hs); have Y83v69 := hide (Y83v68.out.post ho hs); clear hp hl hs ho)
        refine hK.out _ _ (trivial) (fun hSA5 => ?_)
        clear hK K
        refine wpAnyH_ready (rs := [9]) (by kernel_rfl) (by simp) ?_
        refine AllReadyH.cons rfl (fun K hK => ?_) AllReadyH.nil
        go_simp
        go_simp
        go_wp2_with (go_at_call 59; refine (Begin_any v69 g b Fv69 (newDev 4) (openAt 1) (some ⟨pv65, 0, none⟩) 83 83 (zeros 83) Lv69.out.log Lv69.out.dev (new_bytes 4) Lv69.out.ng Y83v69.out.bys (fun _ ad e h => by injection e with e; subst e; exact Y83v69.out.ne h) (by decide) (by decide)).mono ?_; intro e v70 hp; rw [E4.out] at hp; obtain ⟨rfl, Fv70, hl, hs, ho⟩ := Lv69.out.post hp; have Lv70 := hide hl; have Y83v70 := hide (Y83v69.out.post ho hs); clear hp hl hs ho)
        refine hK.out _ _ (trivial) (fun hSA6 => ?_)
        clear hK K
        refine wpAnyH_ready (rs := [11]) (by kernel_rfl) (by simp) ?_
        refine AllReadyH.cons rfl (fun K hK => ?_) AllReadyH.nil
        go_simp
        go_simp
        go_wp2_with (go_at_call 57; refine (Add_any v70 g b Fv70 d4 l4 none 0 0 [] Lv70.out.log Lv70.out.dev HB4.out Lv70.out.ng (Bys.nil _ _) (by decide) (by rw [HA4.out]; decide) (by rw [HA4.out]; decide) HW4.out).mono ?_; intro e v71 hp; rw [E9.out] at hp; obtain ⟨rfl, Fv71, hl, hs, ho⟩ := Lv70.out.post hp; have Lv71 := hide hl; clear hp hl hs ho)
        refine hK.out _ _ (trivial) (fun hSA7 => ?_)
        clear hK K
        (refine wpAnyH_take (i := 12) (oi := ⟨some 6, .assign (.tmp 22), 31, "law.go:30", #[⟨1, .data⟩, ⟨11, .chain⟩, ⟨0, .phase⟩, ⟨1, .phase⟩, { on := 2, ground := Go.Ground.textOnly Go.Departure.lateStores }, { on := 3, ground := Go.Ground.textOnly Go.Departure.lateStoresUnsure }, { on := 4, ground := Go.Ground.textOnly Go.Departure.lateStores }, { on := 5, ground := Go.Ground.textOnly Go.Departure.lateStoresUnsure }, { on := 6, ground := Go.Ground.textOnly Go.Departure.lateStoresUnsure }, { on := 7, ground := Go.Ground.textOnly Go.Departure.lateStores }, { on := 8, ground := Go.Ground.textOnly Go.Departure.lateStoresUnsure }, { on := 9, ground := Go.Ground.textOnly Go.Departure.lateStoresUnsure }, { on := 10, ground := Go.Ground.textOnly Go.Departure.lateStores }, { on := 11, ground := Go.Ground.textOnly Go.Departure.lateStoresUnsure }], none⟩) (v := ?_) rfl (by kernel_rfl) (by kernel_rfl) (by kernel_rfl) (fun _ _ _ h => h) (Or.inl ⟨by rfl, fun w' hSw => ?_⟩) hSA7 ?_; rotate_left; focus (go_simp; try with_reducible rfl))
        simp only [Act.put, List.setIfInBounds_toArray, List.set_cons_zero, List.set_cons_succ]
        (refine wpAnyH_take (i := 13) (oi := ⟨some 7, .assign (.tmp 24), 31, "law.go:30", #[⟨3, .data⟩, ⟨12, .chain⟩, ⟨0, .phase⟩, ⟨1, .phase⟩, ⟨2, .phase⟩, ⟨3, .phase⟩, { on := 4, ground := Go.Ground.textOnly Go.Departure.lateStores }, { on := 5, ground := Go.Ground.textOnly Go.Departure.lateStoresUnsure }, { on := 6, ground := Go.Ground.textOnly Go.Departure.lateStoresUnsure }, { on := 7, ground := Go.Ground.textOnly Go.Departure.lateStores }, { on := 8, ground := Go.Ground.textOnly Go.Departure.lateStoresUnsure }, { on := 9, ground := Go.Ground.textOnly Go.Departure.lateStoresUnsure }, { on := 10, ground := Go.Ground.textOnly Go.Departure.lateStores }, { on := 11, ground := Go.Ground.textOnly Go.Departure.lateStoresUnsure }, ⟨12, .phase⟩], none⟩) (v := ?_) rfl (by kernel_rfl) (by kernel_rfl) (by kernel_rfl) (fun _ _ _ h => h) (Or.inl ⟨by rfl, fun w' hSw => ?_⟩) hSA7 ?_; rotate_left; focus (go_simp; try with_reducible rfl))
        simp only [Act.put, List.setIfInBounds_toArray, List.set_cons_zero, List.set_cons_succ]
        (refine wpAnyH_take (i := 14) (oi := ⟨some 8, .assign (.tmp 27), 31, "law.go:30", #[⟨6, .data⟩, ⟨13, .chain⟩, ⟨0, .phase⟩, ⟨1, .phase⟩, ⟨2, .phase⟩, ⟨3, .phase⟩, ⟨4, .phase⟩, ⟨5, .phase⟩, ⟨6, .phase⟩, { on := 7, ground := Go.Ground.textOnly Go.Departure.lateStores }, { on := 8, ground := Go.Ground.textOnly Go.Departure.lateStoresUnsure }, { on := 9, ground := Go.Ground.textOnly Go.Departure.lateStoresUnsure }, { on := 10, ground := Go.Ground.textOnly Go.Departure.lateStores }, { on := 11, ground := Go.Ground.textOnly Go.Departure.lateStoresUnsure }, ⟨12, .phase⟩, ⟨13, .phase⟩], none⟩) (v := ?_) rfl (by kernel_rfl) (by kernel_rfl) (by kernel_rfl) (fun _ _ _ h => h) (Or.inl ⟨by rfl, fun w' hSw => ?_⟩) hSA7 ?_; rotate_left; focus (go_simp; try with_reducible rfl))
        simp only [Act.put, List.setIfInBounds_toArray, List.set_cons_zero, List.set_cons_succ]
        (refine wpAnyH_take (i := 15) (oi := ⟨some 9, .assign (.tmp 30), 31, "law.go:30", #[⟨9, .data⟩, ⟨14, .chain⟩, ⟨0, .phase⟩, ⟨1, .phase⟩, ⟨2, .phase⟩, ⟨3, .phase⟩, ⟨4, .phase⟩, ⟨5, .phase⟩, ⟨6, .phase⟩, ⟨7, .phase⟩, ⟨8, .phase⟩, ⟨9, .phase⟩, { on := 10, ground := Go.Ground.textOnly Go.Departure.lateStores }, { on := 11, ground := Go.Ground.textOnly Go.Departure.lateStoresUnsure }, ⟨12, .phase⟩, ⟨13, .phase⟩, ⟨14, .phase⟩], none⟩) (v := ?_) rfl (by kernel_rfl) (by kernel_rfl) (by kernel_rfl) (fun _ _ _ h => h) (Or.inl ⟨by rfl, fun w' hSw => ?_⟩) hSA7 ?_; rotate_left; focus (go_simp; try with_reducible rfl))
        simp only [Act.put, List.setIfInBounds_toArray, List.set_cons_zero, List.set_cons_succ]
        (refine wpAnyH_take (i := 16) (oi := ⟨some 10, .assign (.tmp 32), 31, "law.go:30", #[⟨11, .data⟩, ⟨15, .chain⟩, ⟨0, .phase⟩, ⟨1, .phase⟩, ⟨2, .phase⟩, ⟨3, .phase⟩, ⟨4, .phase⟩, ⟨5, .phase⟩, ⟨6, .phase⟩, ⟨7, .phase⟩, ⟨8, .phase⟩, ⟨9, .phase⟩, ⟨10, .phase⟩, ⟨11, .phase⟩, ⟨12, .phase⟩, ⟨13, .phase⟩, ⟨14, .phase⟩, ⟨15, .phase⟩], none⟩) (v := ?_) rfl (by kernel_rfl) (by kernel_rfl) (by kernel_rfl) (fun _ _ _ h => h) (Or.inl ⟨by rfl, fun w' hSw => ?_⟩) hSA7 ?_; rotate_left; focus (go_simp; try with_reducible rfl))
        simp only [Act.put, List.setIfInBounds_toArray, List.set_cons_zero, List.set_cons_succ]
        refine wpAnyH_done (by kernel_rfl) ?_ _
        exact HREST.out _ _ _ _ _ _ _ _ _ _ _ _ _ _ _ _ _ _ _ _ _ _ _ _ _ _ _ _ _ _ _ _ _ _ _ _ _ _ _ _ _ _ _ _ _ _ _ _ _ _ _ _ _ _ _ _ _ _ _ _ _ _ _ _ _ _ _ _ _ _ _ _ _ _ _ _ _ _ Fv71 v71 Lv71.out.dev Lv71.out.below
      · have zm : (Instr.makeSlice 28 (.int .i64 84) (.int .i64 84)).run Try.prog v66 = .ok (.slice (some ⟨v66.heap.size, 0, none⟩) 84 84) (v66.alloc (.cells (bcs (zeros 84)).toArray 5)) := make_zeros 84 (by decide) v66
        go_simp
        have by0 := hide (ByW.new Lv66.out 84)
        obtain ⟨pv72, hpv72⟩ : ∃ z, z = v66.heap.size := ⟨_, rfl⟩
        have bb : Below v66.heap.size v66 (v66.alloc (.cells (bcs (zeros 84)).toArray 5)) := below_alloc (Below.refl _ _) _
        obtain ⟨v72, hwv72⟩ : ∃ z, z = v66.alloc (.cells (bcs (zeros 84)).toArray 5) := ⟨_, rfl⟩
        rw [← hwv72] at by0 bb ⊢
        rw [← hpv72] at by0 ⊢
        obtain ⟨Fv72, hFv72⟩ : ∃ z, z = Fv66 := ⟨_, rfl⟩
        have Lv72 := hide (show LogW w v72 g b Fv72 (newDev 4) (openAt 1) by rw [hFv72]; exact Lv66.out.under bb)
        have Y84v72 := hide (show ByW v72 Fv72 g pv72 84 (zeros 84) by rw [hFv72]; exact by0.out)
        have Y83v72 := hide (show ByW v72 Fv72 g pv65 83 (zeros 83) by rw [hFv72]; exact Y83v66.out.under bb)
        clear by0 bb zm hwv72 hpv72 hFv72
        refine hK.out _ _ (trivial) (fun hSA3 => ?_)
        clear hK K
        refine wpAnyH_ready (rs := [3]) (by kernel_rfl) (by simp) ?_
        refine AllReadyH.cons rfl (fun K hK => ?_) AllReadyH.nil
        go_simp
        go_simp
        go_wp2_with (go_at_call 58; refine (Sync_any v72 g b Fv72 (newDev 4) (openAt 1) Lv72.out.log Lv72.out.dev Lv72.out.ng (by decide)).mono ?_; intro e v73 hp; rw [syncL_off] at hp; obtain ⟨rfl, Fv73, hl, hs, ho⟩ := Lv72.out.post hp; have Lv73 := hide hl; have Y84v73 := hide (Y84v72.out.post ho hs); have Y83v73 := hide (Y83v72.out.post ho hs); clear hp hl hs ho)
        refine hK.out _ _ (trivial) (fun hSA4 => ?_)
        clear hK K
        refine wpAnyH_ready (rs := [6]) (by kernel_rfl) (by simp) ?_
        refine AllReadyH.cons rfl (fun K hK => ?_) AllReadyH.nil
        go_simp
        go_simp
        go_wp2_with (go_at_call 59; refine (Begin_any v73 g b Fv73 (newDev 4) (openAt 1) (some ⟨pv72, 0, none⟩) 84 84 (zeros 84) Lv73.out.log Lv73.out.dev (new_bytes 4) Lv73.out.ng Y84v73.out.bys (fun _ ad e h => by injection e with e; subst e; exact Y84v73.out.ne h) (by decide) (by decide)).mono ?_; intro e v74 hp; rw [begin84] at hp; obtain ⟨rfl, Fv74, hl, hs, ho⟩ := Lv73.out.post hp; have Lv74 := hide hl; have Y84v74 := hide (Y84v73.out.post ho hs); have Y83v74 := hide (Y83v73.out.post ho hs); clear hp hl hs ho)
        refine hK.out _ _ (trivial) (fun hSA5 => ?_)
        clear hK K
        refine wpAnyH_ready (rs := [9]) (by kernel_rfl) (by simp) ?_
        refine AllReadyH.cons rfl (fun K hK => ?_) AllReadyH.nil
        go_simp
        go_simp
        go_wp2_with (go_at_call 59; refine (Begin_any v74 g b Fv74 (newDev 4) (openAt 1) (some ⟨pv65, 0, none⟩) 83 83 (zeros 83) Lv74.out.log Lv74.out.dev (new_bytes 4) Lv74.out.ng Y83v74.out.bys (fun _ ad e h => by injection e with e; subst e; exact Y83v74.out.ne h) (by decide) (by decide)).mono ?_; intro e v75 hp; rw [E4.out] at hp; obtain ⟨rfl, Fv75, hl, hs, ho⟩ := Lv74.out.post hp; have Lv75 := hide hl; have Y83v75 := hide (Y83v74.out.post ho hs); clear hp hl hs ho)
        refine hK.out _ _ (trivial) (fun hSA6 => ?_)
        clear hK K
        refine wpAnyH_ready (rs := [11]) (by kernel_rfl) (by simp) ?_
        refine AllReadyH.cons rfl (fun K hK => ?_) AllReadyH.nil
        go_simp
        go_simp
        go_wp2_with (go_at_call 57; refine (Add_any v75 g b Fv75 d4 l4 none 0 0 [] Lv75.out.log Lv75.out.dev HB4.out Lv75.out.ng (Bys.nil _ _) (by decide) (by rw [HA4.out]; decide) (by rw [HA4.out]; decide) HW4.out).mono ?_; intro e v76 hp; rw [E9.out] at hp; obtain ⟨rfl, Fv76, hl, hs, ho⟩ := Lv75.out.post hp; have Lv76 := hide hl; clear hp hl hs ho)
        refine hK.out _ _ (trivial) (fun hSA7 => ?_)
        clear hK K
        (refine wpAnyH_take (i := 12) (oi := ⟨some 6, .assign (.tmp 22), 31, "law.go:30", #[⟨1, .data⟩, ⟨11, .chain⟩, ⟨0, .phase⟩, ⟨1, .phase⟩, { on := 2, ground := Go.Ground.textOnly Go.Departure.lateStores }, { on := 3, ground := Go.Ground.textOnly Go.Departure.lateStoresUnsure }, { on := 4, ground := Go.Ground.textOnly Go.Departure.lateStores }, { on := 5, ground := Go.Ground.textOnly Go.Departure.lateStoresUnsure }, { on := 6, ground := Go.Ground.textOnly Go.Departure.lateStoresUnsure }, { on := 7, ground := Go.Ground.textOnly Go.Departure.lateStores }, { on := 8, ground := Go.Ground.textOnly Go.Departure.lateStoresUnsure }, { on := 9, ground := Go.Ground.textOnly Go.Departure.lateStoresUnsure }, { on := 10, ground := Go.Ground.textOnly Go.Departure.lateStores }, { on := 11, ground := Go.Ground.textOnly Go.Departure.lateStoresUnsure }], none⟩) (v := ?_) rfl (by kernel_rfl) (by kernel_rfl) (by kernel_rfl) (fun _ _ _ h => h) (Or.inl ⟨by rfl, fun w' hSw => ?_⟩) hSA7 ?_; rotate_left; focus (go_simp; try with_reducible rfl))
        simp only [Act.put, List.setIfInBounds_toArray, List.set_cons_zero, List.set_cons_succ]
        (refine wpAnyH_take (i := 13) (oi := ⟨some 7, .assign (.tmp 24), 31, "law.go:30", #[⟨3, .data⟩, ⟨12, .chain⟩, ⟨0, .phase⟩, ⟨1, .phase⟩, ⟨2, .phase⟩, ⟨3, .phase⟩, { on := 4, ground := Go.Ground.textOnly Go.Departure.lateStores }, { on := 5, ground := Go.Ground.textOnly Go.Departure.lateStoresUnsure }, { on := 6, ground := Go.Ground.textOnly Go.Departure.lateStoresUnsure }, { on := 7, ground := Go.Ground.textOnly Go.Departure.lateStores }, { on := 8, ground := Go.Ground.textOnly Go.Departure.lateStoresUnsure }, { on := 9, ground := Go.Ground.textOnly Go.Departure.lateStoresUnsure }, { on := 10, ground := Go.Ground.textOnly Go.Departure.lateStores }, { on := 11, ground := Go.Ground.textOnly Go.Departure.lateStoresUnsure }, ⟨12, .phase⟩], none⟩) (v := ?_) rfl (by kernel_rfl) (by kernel_rfl) (by kernel_rfl) (fun _ _ _ h => h) (Or.inl ⟨by rfl, fun w' hSw => ?_⟩) hSA7 ?_; rotate_left; focus (go_simp; try with_reducible rfl))
        simp only [Act.put, List.setIfInBounds_toArray, List.set_cons_zero, List.set_cons_succ]
        (refine wpAnyH_take (i := 14) (oi := ⟨some 8, .assign (.tmp 27), 31, "law.go:30", #[⟨6, .data⟩, ⟨13, .chain⟩, ⟨0, .phase⟩, ⟨1, .phase⟩, ⟨2, .phase⟩, ⟨3, .phase⟩, ⟨4, .phase⟩, ⟨5, .phase⟩, ⟨6, .phase⟩, { on := 7, ground := Go.Ground.textOnly Go.Departure.lateStores }, { on := 8, ground := Go.Ground.textOnly Go.Departure.lateStoresUnsure }, { on := 9, ground := Go.Ground.textOnly Go.Departure.lateStoresUnsure }, { on := 10, ground := Go.Ground.textOnly Go.Departure.lateStores }, { on := 11, ground := Go.Ground.textOnly Go.Departure.lateStoresUnsure }, ⟨12, .phase⟩, ⟨13, .phase⟩], none⟩) (v := ?_) rfl (by kernel_rfl) (by kernel_rfl) (by kernel_rfl) (fun _ _ _ h => h) (Or.inl ⟨by rfl, fun w' hSw => ?_⟩) hSA7 ?_; rotate_left; focus (go_simp; try with_reducible rfl))
        simp only [Act.put, List.setIfInBounds_toArray, List.set_cons_zero, List.set_cons_succ]
        (refine wpAnyH_take (i := 15) (oi := ⟨some 9, .assign (.tmp 30), 31, "law.go:30", #[⟨9, .data⟩, ⟨14, .chain⟩, ⟨0, .phase⟩, ⟨1, .phase⟩, ⟨2, .phase⟩, ⟨3, .phase⟩, ⟨4, .phase⟩, ⟨5, .phase⟩, ⟨6, .phase⟩, ⟨7, .phase⟩, ⟨8, .phase⟩, ⟨9, .phase⟩, { on := 10, ground := Go.Ground.textOnly Go.Departure.lateStores }, { on := 11, ground := Go.Ground.textOnly Go.Departure.lateStoresUnsure }, ⟨12, .phase⟩, ⟨13, .phase⟩, ⟨14, .phase⟩], none⟩) (v := ?_) rfl (by kernel_rfl) (by kernel_rfl) (by kernel_rfl) (fun _ _ _ h => h) (Or.inl ⟨by rfl, fun w' hSw => ?_⟩) hSA7 ?_; rotate_left; focus (go_simp; try with_reducible rfl))
        simp only [Act.put, List.setIfInBounds_toArray, List.set_cons_zero, List.set_cons_succ]
        (refine wpAnyH_take (i := 16) (oi := ⟨some 10, .assign (.tmp 32), 31, "law.go:30", #[⟨11, .data⟩, ⟨15, .chain⟩, ⟨0, .phase⟩, ⟨1, .phase⟩, ⟨2, .phase⟩, ⟨3, .phase⟩, ⟨4, .phase⟩, ⟨5, .phase⟩, ⟨6, .phase⟩, ⟨7, .phase⟩, ⟨8, .phase⟩, ⟨9, .phase⟩, ⟨10, .phase⟩, ⟨11, .phase⟩, ⟨12, .phase⟩, ⟨13, .phase⟩, ⟨14, .phase⟩, ⟨15, .phase⟩], none⟩) (v := ?_) rfl (by kernel_rfl) (by kernel_rfl) (by kernel_rfl) (fun _ _ _ h => h) (Or.inl ⟨by rfl, fun w' hSw => ?_⟩) hSA7 ?_; rotate_left; focus (go_simp; try with_reducible rfl))
        simp only [Act.put, List.setIfInBounds_toArray, List.set_cons_zero, List.set_cons_succ]
        refine wpAnyH_done (by kernel_rfl) ?_ _
        exact HREST.out _ _ _ _ _ _ _ _ _ _ _ _ _ _ _ _ _ _ _ _ _ _ _ _ _ _ _ _ _ _ _ _ _ _ _ _ _ _ _ _ _ _ _ _ _ _ _ _ _ _ _ _ _ _ _ _ _ _ _ _ _ _ _ _ _ _ _ _ _ _ _ _ _ _ _ _ _ _ Fv76 v76 Lv76.out.dev Lv76.out.below
    · have zm : (Instr.makeSlice 28 (.int .i64 84) (.int .i64 84)).run Try.prog v65 = .ok (.slice (some ⟨v65.heap.size, 0, none⟩) 84 84) (v65.alloc (.cells (bcs (zeros 84)).toArray 5)) := make_zeros 84 (by decide) v65
      go_simp
      have by0 := hide (ByW.new Lv65.out 84)
      obtain ⟨pv77, hpv77⟩ : ∃ z, z = v65.heap.size := ⟨_, rfl⟩
      have bb : Below v65.heap.size v65 (v65.alloc (.cells (bcs (zeros 84)).toArray 5)) := below_alloc (Below.refl _ _) _
      obtain ⟨v77, hwv77⟩ : ∃ z, z = v65.alloc (.cells (bcs (zeros 84)).toArray 5) := ⟨_, rfl⟩
      rw [← hwv77] at by0 bb ⊢
      rw [← hpv77] at by0 ⊢
      obtain ⟨Fv77, hFv77⟩ : ∃ z, z = Fv65 := ⟨_, rfl⟩
      have Lv77 := hide (show LogW w v77 g b Fv77 (newDev 4) (openAt 1) by rw [hFv77]; exact Lv65.out.under bb)
      have Y84v77 := hide (show ByW v77 Fv77 g pv77 84 (zeros 84) by rw [hFv77]; exact by0.out)
      have Y83v77 := hide (show ByW v77 Fv77 g pv65 83 (zeros 83) by rw [hFv77]; exact Y83v65.out.under bb)
      clear by0 bb zm hwv77 hpv77 hFv77
      refine hK.out _ _ (trivial) (fun hSA2 => ?_)
      clear hK K
      refine wpAnyH_ready (rs := [1]) (by kernel_rfl) (by simp) ?_
      refine AllReadyH.cons rfl (fun K hK => ?_) AllReadyH.nil
      go_simp
      go_simp
      go_wp2_with (go_at_call 57; refine (Add_any v77 g b Fv77 (newDev 4) (openAt 1) none 0 0 [] Lv77.out.log Lv77.out.dev (new_bytes 4) Lv77.out.ng (Bys.nil _ _) (by decide) (by decide) (by decide) (by decide)).mono ?_; intro e v78 hp; rw [addL_off] at hp; obtain ⟨rfl, Fv78, hl, hs, ho⟩ := Lv77.out.post hp; have Lv78 := hide hl; have Y84v78 := hide (Y84v77.out.post ho hs); have Y83v78 := hide (Y83v77.out.post ho hs); clear hp hl hs ho)
      refine hK.out _ _ (trivial) (fun hSA3 => ?_)
      clear hK K
      refine wpAnyH_ready (rs := [3]) (by kernel_rfl) (by simp) ?_
      refine AllReadyH.cons rfl (fun K hK => ?_) AllReadyH.nil
      go_simp
      go_simp
      go_wp2_with (go_at_call 58; refine (Sync_any v78 g b Fv78 (newDev 4) (openAt 1) Lv78.out.log Lv78.out.dev Lv78.out.ng (by decide)).mono ?_; intro e v79 hp; rw [syncL_off] at hp; obtain ⟨rfl, Fv79, hl, hs, ho⟩ := Lv78.out.post hp; have Lv79 := hide hl; have Y84v79 := hide (Y84v78.out.post ho hs); have Y83v79 := hide (Y83v78.out.post ho hs); clear hp hl hs ho)
      refine hK.out _ _ (trivial) (fun hSA4 => ?_)
      clear hK K
      refine wpAnyH_ready (rs := [6]) (by kernel_rfl) (by simp) ?_
      refine AllReadyH.cons rfl (fun K hK => ?_) AllReadyH.nil
      go_simp
      go_simp
      go_wp2_with (go_at_call 59; refine (Begin_any v79 g b Fv79 (newDev 4) (openAt 1) (some ⟨pv77, 0, none⟩) 84 84 (zeros 84) Lv79.out.log Lv79.out.dev (new_bytes 4) Lv79.out.ng Y84v79.out.bys (fun _ ad e h => by injection e with e; subst e; exact Y84v79.out.ne h) (by decide) (by decide)).mono ?_; intro e v80 hp; rw [begin84] at hp; obtain ⟨rfl, Fv80, hl, hs, ho⟩ := Lv79.out.post hp; have Lv80 := hide hl; have Y84v80 := hide (Y84v79.out.post ho hs); have Y83v80 := hide (Y83v79.out.post ho hs); clear hp hl hs ho)
      refine hK.out _ _ (trivial) (fun hSA5 => ?_)
      clear hK K
      refine wpAnyH_ready (rs := [9]) (by kernel_rfl) (by simp) ?_
      refine AllReadyH.cons rfl (fun K hK => ?_) AllReadyH.nil
      go_simp
      go_simp
      go_wp2_with (go_at_call 59; refine (Begin_any v80 g b Fv80 (newDev 4) (openAt 1) (some ⟨pv65, 0, none⟩) 83 83 (zeros 83) Lv80.out.log Lv80.out.dev (new_bytes 4) Lv80.out.ng Y83v80.out.bys (fun _ ad e h => by injection e with e; subst e; exact Y83v80.out.ne h) (by decide) (by decide)).mono ?_; intro e v81 hp; rw [E4.out] at hp; obtain ⟨rfl, Fv81, hl, hs, ho⟩ := Lv80.out.post hp; have Lv81 := hide hl; have Y83v81 := hide (Y83v80.out.post ho hs); clear hp hl hs ho)
      refine hK.out _ _ (trivial) (fun hSA6 => ?_)
      clear hK K
      refine wpAnyH_ready (rs := [11]) (by kernel_rfl) (by simp) ?_
      refine AllReadyH.cons rfl (fun K hK => ?_) AllReadyH.nil
      go_simp
      go_simp
      go_wp2_with (go_at_call 57; refine (Add_any v81 g b Fv81 d4 l4 none 0 0 [] Lv81.out.log Lv81.out.dev HB4.out Lv81.out.ng (Bys.nil _ _) (by decide) (by rw [HA4.out]; decide) (by rw [HA4.out]; decide) HW4.out).mono ?_; intro e v82 hp; rw [E9.out] at hp; obtain ⟨rfl, Fv82, hl, hs, ho⟩ := Lv81.out.post hp; have Lv82 := hide hl; clear hp hl hs ho)
      refine hK.out _ _ (trivial) (fun hSA7 => ?_)
      clear hK K
      (refine wpAnyH_take (i := 12) (oi := ⟨some 6, .assign (.tmp 22), 31, "law.go:30", #[⟨1, .data⟩, ⟨11, .chain⟩, ⟨0, .phase⟩, ⟨1, .phase⟩, { on := 2, ground := Go.Ground.textOnly Go.Departure.lateStores }, { on := 3, ground := Go.Ground.textOnly Go.Departure.lateStoresUnsure }, { on := 4, ground := Go.Ground.textOnly Go.Departure.lateStores }, { on := 5, ground := Go.Ground.textOnly Go.Departure.lateStoresUnsure }, { on := 6, ground := Go.Ground.textOnly Go.Departure.lateStoresUnsure }, { on := 7, ground := Go.Ground.textOnly Go.Departure.lateStores }, { on := 8, ground := Go.Ground.textOnly Go.Departure.lateStoresUnsure }, { on := 9, ground := Go.Ground.textOnly Go.Departure.lateStoresUnsure }, { on := 10, ground := Go.Ground.textOnly Go.Departure.lateStores }, { on := 11, ground := Go.Ground.textOnly Go.Departure.lateStoresUnsure }], none⟩) (v := ?_) rfl (by kernel_rfl) (by kernel_rfl) (by kernel_rfl) (fun _ _ _ h => h) (Or.inl ⟨by rfl, fun w' hSw => ?_⟩) hSA7 ?_; rotate_left; focus (go_simp; try with_reducible rfl))
      simp only [Act.put, List.setIfInBounds_toArray, List.set_cons_zero, List.set_cons_succ]
      (refine wpAnyH_take (i := 13) (oi := ⟨some 7, .assign (.tmp 24), 31, "law.go:30", #[⟨3, .data⟩, ⟨12, .chain⟩, ⟨0, .phase⟩, ⟨1, .phase⟩, ⟨2, .phase⟩, ⟨3, .phase⟩, { on := 4, ground := Go.Ground.textOnly Go.Departure.lateStores }, { on := 5, ground := Go.Ground.textOnly Go.Departure.lateStoresUnsure }, { on := 6, ground := Go.Ground.textOnly Go.Departure.lateStoresUnsure }, { on := 7, ground := Go.Ground.textOnly Go.Departure.lateStores }, { on := 8, ground := Go.Ground.textOnly Go.Departure.lateStoresUnsure }, { on := 9, ground := Go.Ground.textOnly Go.Departure.lateStoresUnsure }, { on := 10, ground := Go.Ground.textOnly Go.Departure.lateStores }, { on := 11, ground := Go.Ground.textOnly Go.Departure.lateStoresUnsure }, ⟨12, .phase⟩], none⟩) (v := ?_) rfl (by kernel_rfl) (by kernel_rfl) (by kernel_rfl) (fun _ _ _ h => h) (Or.inl ⟨by rfl, fun w' hSw => ?_⟩) hSA7 ?_; rotate_left; focus (go_simp; try with_reducible rfl))
      simp only [Act.put, List.setIfInBounds_toArray, List.set_cons_zero, List.set_cons_succ]
      (refine wpAnyH_take (i := 14) (oi := ⟨some 8, .assign (.tmp 27), 31, "law.go:30", #[⟨6, .data⟩, ⟨13, .chain⟩, ⟨0, .phase⟩, ⟨1, .phase⟩, ⟨2, .phase⟩, ⟨3, .phase⟩, ⟨4, .phase⟩, ⟨5, .phase⟩, ⟨6, .phase⟩, { on := 7, ground := Go.Ground.textOnly Go.Departure.lateStores }, { on := 8, ground := Go.Ground.textOnly Go.Departure.lateStoresUnsure }, { on := 9, ground := Go.Ground.textOnly Go.Departure.lateStoresUnsure }, { on := 10, ground := Go.Ground.textOnly Go.Departure.lateStores }, { on := 11, ground := Go.Ground.textOnly Go.Departure.lateStoresUnsure }, ⟨12, .phase⟩, ⟨13, .phase⟩], none⟩) (v := ?_) rfl (by kernel_rfl) (by kernel_rfl) (by kernel_rfl) (fun _ _ _ h => h) (Or.inl ⟨by rfl, fun w' hSw => ?_⟩) hSA7 ?_; rotate_left; focus (go_simp; try with_reducible rfl))
      simp only [Act.put, List.setIfInBounds_toArray, List.set_cons_zero, List.set_cons_succ]
      (refine wpAnyH_take (i := 15) (oi := ⟨some 9, .assign (.tmp 30), 31, "law.go:30", #[⟨9, .data⟩, ⟨14, .chain⟩, ⟨0, .phase⟩, ⟨1, .phase⟩, ⟨2, .phase⟩, ⟨3, .phase⟩, ⟨4, .phase⟩, ⟨5, .phase⟩, ⟨6, .phase⟩, ⟨7, .phase⟩, ⟨8, .phase⟩, ⟨9, .phase⟩, { on := 10, ground := Go.Ground.textOnly Go.Departure.lateStores }, { on := 11, ground := Go.Ground.textOnly Go.Departure.lateStoresUnsure }, ⟨12, .phase⟩, ⟨13, .phase⟩, ⟨14, .phase⟩], none⟩) (v := ?_) rfl (by kernel_rfl) (by kernel_rfl) (by kernel_rfl) (fun _ _ _ h => h) (Or.inl ⟨by rfl, fun w' hSw => ?_⟩) hSA7 ?_; rotate_left; focus (go_simp; try with_reducible rfl))
      simp only [Act.put, List.setIfInBounds_toArray, List.set_cons_zero, List.set_cons_succ]
      (refine wpAnyH_take (i := 16) (oi := ⟨some 10, .assign (.tmp 32), 31, "law.go:30", #[⟨11, .data⟩, ⟨15, .chain⟩, ⟨0, .phase⟩, ⟨1, .phase⟩, ⟨2, .phase⟩, ⟨3, .phase⟩, ⟨4, .phase⟩, ⟨5, .phase⟩, ⟨6, .phase⟩, ⟨7, .phase⟩, ⟨8, .phase⟩, ⟨9, .phase⟩, ⟨10, .phase⟩, ⟨11, .phase⟩, ⟨12, .phase⟩, ⟨13, .phase⟩, ⟨14, .phase⟩, ⟨15, .phase⟩], none⟩) (v := ?_) rfl (by kernel_rfl) (by kernel_rfl) (by kernel_rfl) (fun _ _ _ h => h) (Or.inl ⟨by rfl, fun w' hSw => ?_⟩) hSA7 ?_; rotate_left; focus (go_simp; try with_reducible rfl))
      simp only [Act.put, List.setIfInBounds_toArray, List.set_cons_zero, List.set_cons_succ]
      refine wpAnyH_done (by kernel_rfl) ?_ _
      exact HREST.out _ _ _ _ _ _ _ _ _ _ _ _ _ _ _ _ _ _ _ _ _ _ _ _ _ _ _ _ _ _ _ _ _ _ _ _ _ _ _ _ _ _ _ _ _ _ _ _ _ _ _ _ _ _ _ _ _ _ _ _ _ _ _ _ _ _ _ _ _ _ _ _ _ _ _ _ _ _ Fv82 v82 Lv82.out.dev Lv82.out.below
end Go.Proofs.Ytjnpkcabkccaoaa
