import Derived.Test.YtjnpkcabkccaoaaChainlogWP
/-
  ChainlogAgain: the law's walk.
-/
namespace Go.Proofs.Ytjnpkcabkccaoaa
open Go.RowKit

theorem slabs_few (n : Nat) (h : n ≤ 300) : slabsN (n : Int) ≤ 3 := by rw [slabsN_nat n (by omega)]; omega
theorem fits60 (n : Nat) (h : n ≤ 300) (d : Dev) (hr : d.room = 30) : fitsB d (n : Int) = true := by
  have := slabs_few n h
  rw [fitsB, hr]
  simp only [Bool.and_eq_true, decide_eq_true_eq]
  omega
/-- Where the adding stands. -/
structure AtAdd (w wr : World) (g b : Nat) (F : Nat → Prop) (a : List Int) (xs : List (List Int)) (j : Nat) (d : Dev) (l : LogD) : Prop where
  log : LogW w wr g b F d l
  stand : Stand d l (a :: xs.take j)
  bytes : d.Bytes
  few : d.written.length ≤ 1000 * j
  place : l.at_ ≤ 4 + 3 * (j : Int)
  kept : d.kept.length = 60
  half : l.half = 0
  mark : l.mark = 1
theorem AtAdd.step {w wr w' : World} {g b : Nat} {F F' : Nat → Prop} {a : List Int} {xs : List (List Int)} {j : Nat} {d d' : Dev} {l l' : LogD} (h : AtAdd w wr g b F a xs j d l) {x : List Int} (hx : xs[j]? = some x) (hl : x.length ≤ 250) (hxb : Byt x) (_ : j < 8)
    (_ : addL d l x = (d', l', 0)) (hd : d' = (writeL d l.half l.at_ (boundB 2 x l.ward) l.mark).1) (hs : Stand d' l' (a :: xs.take j ++ [x])) (hk : d'.kept.length = d.kept.length) (hh : l'.half = l.half) (hm : l'.mark = l.mark) (hp : l'.at_ = l.at_ + (slabsN (x.length : Int) : Int)) (hL : LogW w w' g b F' d' l') : AtAdd w w' g b F' a xs (j + 1) d' l' := by
  refine ⟨hL, ?_, ?_, ?_, ?_, hk.trans h.kept, hh.trans h.half, hm.trans h.mark⟩
  · have e : xs.take (j + 1) = xs.take j ++ [x] := by rw [List.take_add_one, hx]; rfl
    rw [e]
    exact hs
  · rw [hd]
    exact writeL_bytes h.bytes _ _ (boundB_byt (by decide) hxb) _
  · rw [hd]
    have h9 := writeL_many d l.half l.at_ (boundB 2 x l.ward) l.mark
    rw [boundB_len] at h9
    have := h.few
    omega
  · rw [hp]
    have := slabs_few x.length (by omega)
    have := h.place
    omega
theorem AtAdd.next {w wr : World} {g b : Nat} {F : Nat → Prop} {a : List Int} {xs : List (List Int)} {j : Nat} {d : Dev} {l : LogD} (h : AtAdd w wr g b F a xs j d l) {x : List Int} (hl : x.length ≤ 250) (hj : j < 8) :
    ∃ d' l', addL d l x = (d', l', 0) ∧ d' = (writeL d l.half l.at_ (boundB 2 x l.ward) l.mark).1 ∧ Stand d' l' (a :: xs.take j ++ [x]) ∧ d'.kept.length = d.kept.length ∧ l'.half = l.half ∧ l'.mark = l.mark ∧ l'.at_ = l.at_ + (slabsN (x.length : Int) : Int) := by
  have hr : d.room = 30 := by rw [Dev.room, h.kept]
  have h3 := slabs_few x.length (by omega)
  obtain ⟨d', l', h1, h2, h4, h5, h6, h8, h7⟩ := h.stand.add x (by omega) (by rw [hr]; have := h.place; omega)
  exact ⟨d', l', h1, h2, h4, h5, h6, h8, h7⟩
theorem apart_of {W : World} {A : Option Addr} {n g B0 : Nat} {x : List Int} (h : ∀ w'', Only (fun i => i < B0) W w'' → Bys w'' A n x) (hg : g < B0) (hgl : g < W.heap.size) : Apart A n (fun i => i = g) := by
  intro h0 ad e hb
  have ho : Only (fun i => i < B0) W (W.putObj g (.deferred none)) := by
    have hG := grownBy_putObj' W g (.deferred none)
    exact ⟨hG.os, hG.tape, hG.output, hG.size, fun i hi hf => hG.block i hi (fun e => by injection e with e; omega)⟩
  have hy := h _ ho
  obtain ⟨b, off, e2, hr⟩ := hy.2.2 h0
  rw [e] at e2
  injection e2 with e2
  subst e2
  have hb' : b = g := hb
  subst hb'
  obtain ⟨v, hv⟩ : ∃ v, x[0]? = some v := ⟨_, List.getElem?_eq_getElem (by rw [hy.1]; omega)⟩
  have h9 := hr 0 v hv
  have hh : (W.putObj b (.deferred none)).heap[b]? = some (.deferred none) := by simp [World.putObj, hgl]
  simp [World.cell?, hh] at h9
set_option maxHeartbeats 8000000 in
set_option maxRecDepth 100000 in
theorem chainagain_any (w : World) (A : Option Addr) (n c : Nat) (a : List Int) (X : Option Addr) (m xc : Nat) (xs : List (List Int)) (hB : Bys w A n a) (hX : Byss w X m xs) :
    Calls Try.prog 7 #[.slice A n c, .slice X m xc] w fun e w' => e = .returned (.bool true) ∧ Below w.heap.size w w' := by
  have n0 : (0 : Int) ≤ (n : Int) := by omega
  have m0 : (0 : Int) ≤ (m : Int) := by omega
  have HB := hide hB
  have HX := hide hX
  by_cases hbig : 300 < n
  · have i1 : (300 : Int) < (n : Int) := by omega
    clear hB hX hbig
    go_enter Try.func7, Try.ntmps7
    go_wp2_with (go_at_call 55; refine (alive_any w).mono ?_; rintro e w1 ⟨rfl, b1⟩)
    go_ret
    exact ⟨rfl, b1⟩
  by_cases hmany : 8 < m
  · have i0 : ¬ (300 : Int) < (n : Int) := by omega
    have i1 : (8 : Int) < (m : Int) := by omega
    clear hB hX hbig hmany
    go_enter Try.func7, Try.ntmps7
    go_wp2_with (go_at_call 55; refine (alive_any w).mono ?_; rintro e w1 ⟨rfl, b1⟩)
    go_ret
    exact ⟨rfl, b1⟩
  have i0 : ¬ (300 : Int) < (n : Int) := by omega
  have i1 : ¬ (8 : Int) < (m : Int) := by omega
  have HN := hide (show n ≤ 300 by omega)
  have HM := hide (show m ≤ 8 by omega)
  have HAL := hide hB.1
  have HXL := hide hX.1
  clear hB hX hbig hmany
  go_enter Try.func7, Try.ntmps7
  go_wp2_with (go_at_call 55; refine (alive_any w).mono ?_; rintro e w1 ⟨rfl, b1⟩; have B1 := hide b1; clear b1)
  refine (new_any w1 60).mono ?_
  rintro e w2 ⟨b, F0, rfl, h1, b2, f2⟩
  have D2 := hide h1
  have C0 := hide (new_calm h1.good)
  have B2 := hide (Below.then_ B1.out b2)
  have FR := hide f2
  have W12 := hide B1.out.size
  have W23 := hide b2.size
  clear h1 b2 f2
  go_wp2_with fail
  refine (Open_any w2 b F0 _ D2.out (new_bytes 60)).mono ?_
  rintro e w3 h
  rw [new_open] at h
  obtain ⟨g, B0, img, recs, rfl, hl, hg1, hg2, hg3, b3, hc⟩ := h
  obtain ⟨rfl, rfl⟩ : img = .slice none 0 0 ∧ recs = .slice none 0 0 := by
    rcases hc with ⟨_, h1, h2⟩ | ⟨A, n, c, R, m, d, x, xs, _, _, h3, _⟩
    · exact ⟨h1, h2⟩
    · cases h3
  rw [show decide ((1, ([] : List (List Int))).snd ≠ []) = false from rfl]
  have L3 := hide (show LogW w w3 g b F0 (newDev 60) (openAt 1) from ⟨D2.out.under b3, hl, fun h => by have := D2.out.lt g h; omega, hl.blk.lt, by have := W12.out; have := W23.out; omega, Below.then_ B2.out b3, fun i hi => by have := FR.out i hi; have := W12.out; omega⟩)
  have hfit : fitsB (newDev 60) (a.length : Int) = true := fits60 _ (by rw [HAL.out]; exact HN.out) _ rfl
  obtain ⟨d4, l4, e4, hd4, hw4, st4, hk4, hh4, hm4, ha4⟩ := begin_stand (d := newDev 60) (l := openAt 1) (b := a) C0.out (by decide) hfit (by rw [new_top]; decide)
  have E4 := hide e4
  have S4 := hide st4
  have B4 := hide (show d4.Bytes by rw [hd4]; exact (writeL_bytes (writeL_bytes (new_bytes 60) _ _ (sealedB_byt _) _) _ _ (boundB_byt (by decide) HB.out.2.1) _).sync)
  have W4 := hide hw4
  have K4 := hide (show d4.kept.length = 60 by rw [hk4]; rfl)
  have H4 := hide (show l4.half = 0 by rw [hh4]; rfl)
  have M4 := hide (show l4.mark = 1 by rw [hm4, new_top])
  have A4 := hide (show l4.at_ ≤ 4 by rw [ha4]; have := slabs_few a.length (by rw [HAL.out]; exact HN.out); omega)
  clear hd4 hw4 st4 hk4 hh4 hm4 ha4 e4 hl hg1 hg2 hg3 hc hfit b3
  go_wp2_with fail
  refine (Begin_any w3 g b F0 _ (openAt 1) A n c a L3.out.log L3.out.dev (new_bytes 60) L3.out.ng (HB.out.below L3.out.below) (fun h0 ad e h => by have h9 := bys_lt HB.out (by omega) ad e; have h8 : ad.block = g := h; have := L3.out.g0; omega) (by have := HN.out; omega) (by decide)).mono ?_
  intro e w4 hp
  rw [E4.out] at hp
  obtain ⟨rfl, F4, hl, _, _⟩ := L3.out.post hp
  have AT := hide (show AtAdd w w4 g b F4 a xs 0 d4 l4 from ⟨hl, S4.out, B4.out, by rw [W4.out]; simp, by have := A4.out; omega, K4.out, H4.out, M4.out⟩)
  clear hp hl
  go_wp2_with fail
  go_loopw [46] (fun i wr => ∃ (j : Nat) (F : Nat → Prop) (d : Dev) (l : LogD), j ≤ m ∧ i = .int .i64 (j : Int) ∧ AtAdd w wr g b F a xs j d l) (fun i _ => m + 1 - (intOf i).toNat)
  case atStart => exact ⟨0, F4, d4, l4, by omega, rfl, AT.out⟩
  case round =>
    obtain ⟨j, F, d, l, hj, rfl, hat⟩ := hrel
    have HT := hide hat
    have HJ := hide hj
    have j0 : (0 : Int) ≤ (j : Int) := by omega
    have j9 : (j : Int) ≤ 8 := by have := HM.out; omega
    clear hat hj
    by_cases hlt : j < m
    · have k1 : (j : Int) < (m : Int) := by omega
      obtain ⟨x, hx⟩ : ∃ x, xs[j]? = some x := ⟨_, List.getElem?_eq_getElem (by rw [HXL.out]; exact hlt)⟩
      obtain ⟨xb, xo, rfl, hrow⟩ := (HX.out.below HT.out.log.below).2 (by omega)
      obtain ⟨A1, n1, c1, hcell, hy, _⟩ := hrow j x hx
      have HY := hide hy
      have HXX := hide hx
      have HLT := hide hlt
      have HYL := hide hy.1
      have n10 : (0 : Int) ≤ (n1 : Int) := by omega
      clear hrow hx hy hlt
      by_cases hbig : 250 < n1
      · have k2 : (250 : Int) < (n1 : Int) := by omega
        go_wp2_with fail
        go_ret
        exact ⟨rfl, HT.out.log.below⟩
      · have k2 : ¬ (250 : Int) < (n1 : Int) := by omega
        have H25 := hide hbig
        clear hbig
        go_wp2_with fail
        obtain ⟨d', l', e5, hd5, st5, hk5, hh5, hm5, ha5⟩ := HT.out.next (x := x) (by rw [HYL.out]; have := H25.out; omega) (by have := HLT.out; have := HM.out; omega)
        refine (Add_any wr g b F d l A1 n1 c1 x HT.out.log.log HT.out.log.dev HT.out.bytes HT.out.log.ng HY.out (by have := H25.out; omega) (by rw [HT.out.stand.place]; omega) (by have := HT.out.place; have := HLT.out; have := HM.out; omega) (by have := HT.out.few; have := HLT.out; have := HM.out; omega)).mono ?_
        intro e w5 hp
        rw [e5] at hp
        obtain ⟨rfl, F5, hl5, _, _⟩ := HT.out.log.post hp
        have T5 := hide (HT.out.step HXX.out (by rw [HYL.out]; have := H25.out; omega) HY.out.2.1 (by have := HLT.out; have := HM.out; omega) e5 hd5 st5 hk5 hh5 hm5 ha5 hl5)
        clear hp hl5 e5 hd5 st5 hk5 hh5 hm5 ha5
        go_wp2_with fail
        exact ⟨⟨j + 1, F5, d', l', by have := HLT.out; omega, by go_num, T5.out⟩, by have := HLT.out; simp [intOf]; omega⟩
    · have k1 : ¬ (j : Int) < (m : Int) := by omega
      have hjm : xs.take j = xs := List.take_of_length_le (by rw [HXL.out]; omega)
      have HTK := hide hjm
      clear hlt hjm
      go_wp2_with fail
      have hst := HT.out.stand
      rw [HTK.out] at hst
      obtain ⟨d6, e6, hd6, st6, hk6⟩ := hst.sync
      refine (Sync_any wr g b F d l HT.out.log.log HT.out.log.dev HT.out.log.ng (by have := HT.out.few; have := HJ.out; have := HM.out; omega)).mono ?_
      intro e w6 hp
      rw [e6] at hp
      obtain ⟨rfl, F6, hl6, _, _⟩ := HT.out.log.post hp
      have L6 := hide hl6
      have S6 := hide st6
      have B6 := hide (show d6.Bytes by rw [hd6]; exact HT.out.bytes.sync)
      have W6 := hide (show d6.written = [] by rw [hd6]; exact hst.calm.sync_written)
      have K6 := hide (show d6.kept.length = 60 by rw [hk6]; exact HT.out.kept)
      have O6 := hide (show openL d6 = (0, a :: xs) by rw [st6.opens, HT.out.half])
      have T6 := hide (show topL d6 < mostGen by have h9 := st6.top; rw [HT.out.mark] at h9; unfold mostGen; omega)
      clear hp hl6 hst e6 hd6 st6 hk6
      go_wp2_with fail
      go_loopw [12] (fun i ws => ∃ k : Nat, k ≤ 1 ∧ i = .int .i64 (k : Int) ∧ LogW w ws g b F6 d6 l) (fun i _ => 3 - (intOf i).toNat)
      case atStart => exact ⟨0, by omega, rfl, L6.out⟩
      case round =>
        obtain ⟨k, hk, rfl, hlw⟩ := hrel
        have LW := hide hlw
        have k0 : (0 : Int) ≤ (k : Int) := by omega
        have k9 : (k : Int) ≤ 1 := by omega
        have kk : (k : Int) < 3 := by omega
        have HK := hide hk
        clear hlw hk
        go_wp2_with fail
        refine (Open_any _ b F6 d6 LW.out.dev B6.out).mono ?_
        rintro e w7 h
        rw [O6.out] at h
        obtain ⟨g7, B0, img, recs, rfl, hl7, hg1, hg2, hg3, b7, hc⟩ := h
        rcases hc with ⟨h9, _, _⟩ | ⟨A7, n7, c7, R, m7, dd, y, ys, rfl, rfl, hx, hnc, hmd, hm3, hbb⟩
        · cases h9
        obtain ⟨rfl, rfl⟩ : a = y ∧ xs = ys := by
          have h9 : a :: xs = y :: ys := hx
          injection h9 with h1 h2
          exact ⟨h1, h2⟩
        obtain ⟨hy, hyy⟩ := hbb w7 (Only.refl _ _)
        rw [show decide (((0 : Nat), a :: xs).snd ≠ []) = true by simp]
        have BA := hide (HB.out.below (Below.then_ LW.out.below b7))
        obtain ⟨s, hs⟩ : ∃ s, s = ba a := ⟨_, rfl⟩
        have z1 := run_str w7 A7 n7 c7 a hy
        have z2 := run_str w7 A n c a BA.out
        rw [← hs] at z1 z2
        obtain rfl : m7 = m := by rw [← hyy.1]; exact HXL.out
        have L7 := hide (show LogW w w7 g7 b F6 d6 (openAt 0) from ⟨LW.out.dev.under b7, hl7, fun h => by have := LW.out.dev.lt g7 h; omega, hl7.blk.lt, by have := LW.out.below.size; omega, Below.then_ LW.out.below b7, LW.out.fresh⟩)
        have LG := hide (LW.out.under b7)
        have AP := hide (apart_of (fun w'' ho => (hbb w'' ho).1) hg2 hl7.blk.lt)
        have Y7 := hide hy
        have YY := hide hyy
        have HS := hide hs
        have C7 := hide hnc
        have Q7 := hide (show n7 ≤ 300 by rw [← hy.1, HAL.out]; exact HN.out)
        clear hx hnc hmd hm3 hbb hy hyy hl7 hg1 hg2 hg3 b7 hs
        go_wp2_with fail
        go_loopw [90] (fun i ws => ∃ j : Nat, j ≤ m7 ∧ i = .int .i64 (j : Int) ∧ Below w7.heap.size w7 ws) (fun i _ => m7 + 1 - (intOf i).toNat)
        case atStart => exact ⟨0, by omega, rfl, Below.refl _ _⟩
        case round =>
          obtain ⟨j, hj, rfl, hbw⟩ := hrel
          have BW := hide hbw
          have HJ2 := hide hj
          have j0 : (0 : Int) ≤ (j : Int) := by omega
          have j9 : (j : Int) ≤ 8 := by have := HM.out; omega
          clear hbw hj
          by_cases hlt : j < m7
          · have k1 : (j : Int) < (m7 : Int) := by omega
            obtain ⟨x, hx⟩ : ∃ x, xs[j]? = some x := ⟨_, List.getElem?_eq_getElem (by rw [HXL.out]; exact hlt)⟩
            obtain ⟨rb, ro, rfl, hrow⟩ := (YY.out.below BW.out).2 (by omega)
            obtain ⟨A1, n1, c1, hc1, hy1, _⟩ := hrow j x hx
            obtain ⟨xb, xo, rfl, hrow2⟩ := (HX.out.below (Below.then_ LG.out.below BW.out)).2 (by omega)
            obtain ⟨A2, n2, c2, hc2, hy2, _⟩ := hrow2 j x hx
            obtain ⟨sx, hsx⟩ : ∃ s, s = ba x := ⟨_, rfl⟩
            have HSX := hide hsx
            have HC1 := hide hc1
            have HC2 := hide hc2
            have Y1 := hide hy1
            have Y2 := hide hy2
            have HLT := hide hlt
            clear hx hrow hrow2 hc1 hc2 hy1 hy2 hsx hlt z1 z2
            go_wp2_with fail
            refine wp_region_held_drew (S := fun w' => Below wr.heap.size wr w') (by kernel_rfl) ((Below.refl _ wr).drew) (fun hSA0 => ?_)
            obtain ⟨wrd, hwA⟩ : ∃ x, x = wr.drew := ⟨_, rfl⟩
            rw [← hwA] at hSA0 ⊢
            clear hwA
            (refine wpAnyH_take (i := 0) (oi := ⟨some 93, .move (.tmp 15), 87, "law.go:222", #[], none⟩) (v := ?_) rfl (by kernel_rfl) (by kernel_rfl) (by kernel_rfl) (fun _ _ _ h => h) (Or.inl ⟨by rfl, fun w' hSw => ?_⟩) hSA0 ?_; rotate_left; focus (go_simp; try with_reducible rfl))
            simp only [Act.put, List.setIfInBounds_toArray, List.set_cons_zero, List.set_cons_succ]
            (refine wpAnyH_take (i := 1) (oi := ⟨some 94, .move (.tmp 17), 3, "law.go:222", #[], none⟩) (v := ?_) rfl (by kernel_rfl) (by kernel_rfl) (by kernel_rfl) (fun _ _ _ h => h) (Or.inl ⟨by rfl, fun w' hSw => ?_⟩) hSA0 ?_; rotate_left; focus (go_simp; try with_reducible rfl))
            simp only [Act.put, List.setIfInBounds_toArray, List.set_cons_zero, List.set_cons_succ]
            (refine wpAnyH_take (i := 2) (oi := ⟨some 95, .indexAddr 87 (.tmp 93) (.tmp 94), 0, "law.go:222", #[⟨0, .data⟩, ⟨1, .data⟩], none⟩) (v := ?_) rfl (by kernel_rfl) (by kernel_rfl) (by kernel_rfl) (fun _ _ _ h => h) (Or.inl ⟨by rfl, fun w' hSw => ?_⟩) hSA0 ?_; rotate_left; focus (go_simp; try with_reducible rfl))
            simp only [Act.put, List.setIfInBounds_toArray, List.set_cons_zero, List.set_cons_succ]
            (refine wpAnyH_take (i := 3) (oi := ⟨some 96, .load 28 (.tmp 95), 28, "law.go:222", #[⟨2, .data⟩], none⟩) (v := ?_) rfl (by kernel_rfl) (by kernel_rfl) (by kernel_rfl) (fun _ _ _ h => h) (Or.inl ⟨by rfl, fun w' hSw => ?_⟩) hSA0 ?_; rotate_left; focus (have z := cell_under hSw HC1.out; go_simp; try with_reducible rfl))
            simp only [Act.put, List.setIfInBounds_toArray, List.set_cons_zero, List.set_cons_succ]
            (refine wpAnyH_take (i := 4) (oi := ⟨some 97, .convert 28 9 (.tmp 96), 9, "law.go:222", #[⟨3, .data⟩], none⟩) (v := ?_) rfl (by kernel_rfl) (by kernel_rfl) (by kernel_rfl) (fun _ _ _ h => h) (Or.inl ⟨by rfl, fun w' hSw => ?_⟩) hSA0 ?_; rotate_left; focus (have z := run_str w' A1 n1 c1 x (Y1.out.below hSw); rw [← HSX.out] at z; go_simp; try with_reducible rfl))
            simp only [Act.put, List.setIfInBounds_toArray, List.set_cons_zero, List.set_cons_succ]
            (refine wpAnyH_take (i := 5) (oi := ⟨some 98, .move (.tmp 1), 87, "law.go:222", #[], none⟩) (v := ?_) rfl (by kernel_rfl) (by kernel_rfl) (by kernel_rfl) (fun _ _ _ h => h) (Or.inl ⟨by rfl, fun w' hSw => ?_⟩) hSA0 ?_; rotate_left; focus (go_simp; try with_reducible rfl))
            simp only [Act.put, List.setIfInBounds_toArray, List.set_cons_zero, List.set_cons_succ]
            (refine wpAnyH_take (i := 6) (oi := ⟨some 99, .move (.tmp 17), 3, "law.go:222", #[], none⟩) (v := ?_) rfl (by kernel_rfl) (by kernel_rfl) (by kernel_rfl) (fun _ _ _ h => h) (Or.inl ⟨by rfl, fun w' hSw => ?_⟩) hSA0 ?_; rotate_left; focus (go_simp; try with_reducible rfl))
            simp only [Act.put, List.setIfInBounds_toArray, List.set_cons_zero, List.set_cons_succ]
            (refine wpAnyH_take (i := 7) (oi := ⟨some 100, .indexAddr 87 (.tmp 98) (.tmp 99), 0, "law.go:222", #[⟨5, .data⟩, ⟨6, .data⟩], none⟩) (v := ?_) rfl (by kernel_rfl) (by kernel_rfl) (by kernel_rfl) (fun _ _ _ h => h) (Or.inl ⟨by rfl, fun w' hSw => ?_⟩) hSA0 ?_; rotate_left; focus (go_simp; try with_reducible rfl))
            simp only [Act.put, List.setIfInBounds_toArray, List.set_cons_zero, List.set_cons_succ]
            (refine wpAnyH_take (i := 8) (oi := ⟨some 101, .load 28 (.tmp 100), 28, "law.go:222", #[⟨7, .data⟩], none⟩) (v := ?_) rfl (by kernel_rfl) (by kernel_rfl) (by kernel_rfl) (fun _ _ _ h => h) (Or.inl ⟨by rfl, fun w' hSw => ?_⟩) hSA0 ?_; rotate_left; focus (have z := cell_under hSw HC2.out; go_simp; try with_reducible rfl))
            simp only [Act.put, List.setIfInBounds_toArray, List.set_cons_zero, List.set_cons_succ]
            (refine wpAnyH_take (i := 9) (oi := ⟨some 102, .convert 28 9 (.tmp 101), 9, "law.go:222", #[⟨8, .data⟩], none⟩) (v := ?_) rfl (by kernel_rfl) (by kernel_rfl) (by kernel_rfl) (fun _ _ _ h => h) (Or.inl ⟨by rfl, fun w' hSw => ?_⟩) hSA0 ?_; rotate_left; focus (have z := run_str w' A2 n2 c2 x (Y2.out.below hSw); rw [← HSX.out] at z; go_simp; try with_reducible rfl))
            simp only [Act.put, List.setIfInBounds_toArray, List.set_cons_zero, List.set_cons_succ]
            (refine wpAnyH_take (i := 10) (oi := ⟨some 103, .binOp .neq 9 (.tmp 97) (.tmp 102) 9, 4, "law.go:222", #[⟨4, .data⟩, ⟨9, .data⟩], none⟩) (v := ?_) rfl (by kernel_rfl) (by kernel_rfl) (by kernel_rfl) (fun _ _ _ h => h) (Or.inl ⟨by rfl, fun w' hSw => ?_⟩) hSA0 ?_; rotate_left; focus (go_simp; try with_reducible rfl))
            simp only [Act.put, List.setIfInBounds_toArray, List.set_cons_zero, List.set_cons_succ]
            refine wpAnyH_done (by kernel_rfl) ?_ _
            go_wp2_with fail
            exact ⟨⟨j + 1, by have := HLT.out; omega, by go_num, Below.then_ BW.out hSA0⟩, by have := HLT.out; simp [intOf]; omega⟩
          · have k1 : ¬ (j : Int) < (m7 : Int) := by omega
            clear hlt z1 z2
            obtain rfl | rfl : k = 0 ∨ k = 1 := by have := HK.out; omega
            · go_wp2_with fail
              exact ⟨⟨1, by omega, rfl, LG.out.under BW.out⟩, by simp [intOf]⟩
            · go_wp2_with fail
              have hr6 : d6.room = 30 := by rw [Dev.room, K6.out]
              obtain ⟨d9, l9, e9, hd9, hw9, st9, hk9, hh9, hm9, ha9⟩ := begin_stand (d := d6) (l := openAt 0) (b := a) S6.out.calm (by decide) (fits60 _ (by rw [HAL.out]; exact HN.out) _ hr6) T6.out
              refine (Begin_any _ g7 b F6 d6 (openAt 0) A7 n7 c7 a (L7.out.under BW.out).log (L7.out.under BW.out).dev B6.out L7.out.ng (Y7.out.below BW.out) AP.out (by have := Q7.out; omega) (by rw [W6.out]; decide)).mono ?_
              intro e w9 hp
              rw [e9] at hp
              obtain ⟨rfl, F9, hl9, _, _⟩ := (L7.out.under BW.out).post hp
              have L9 := hide hl9
              have B9 := hide (show d9.Bytes by rw [hd9]; exact (writeL_bytes (writeL_bytes B6.out _ _ (sealedB_byt _) _) _ _ (boundB_byt (by decide) HB.out.2.1) _).sync)
              have O9 := hide (show openL d9 = (1, [a]) by rw [st9.opens, hh9]; rfl)
              clear hp hl9 e9 hd9 hw9 st9 hk9 hh9 hm9 ha9 hr6
              go_wp2_with fail
              refine (Open_any w9 b F9 d9 L9.out.dev B9.out).mono ?_
              rintro e wf h
              rw [O9.out] at h
              obtain ⟨gf, Bf, img, recs, rfl, _, _, _, _, bf, hc⟩ := h
              rcases hc with ⟨h9, _, _⟩ | ⟨Af, nf, cf, Rf, mf, df, y, ys, rfl, rfl, hx, hnc, hmd, hm3, hbb⟩
              · cases h9
              obtain ⟨hya, rfl⟩ : a = y ∧ [] = ys := by
                have h9 : a :: [] = y :: ys := hx
                injection h9 with h1 h2
                exact ⟨h1, h2⟩
              subst hya
              obtain ⟨hy, hyy⟩ := hbb wf (Only.refl _ _)
              rw [show decide (((1 : Nat), [a]).snd ≠ []) = true by simp]
              have BF := hide (Below.then_ L9.out.below bf)
              have z1 := run_str wf Af nf cf a hy
              have z2 := run_str wf A n c a (HB.out.below BF.out)
              rw [← HS.out] at z1 z2
              obtain rfl : mf = 0 := hyy.1.symm
              clear hx hnc hmd hm3 hbb hy hyy bf
              go_wp2_with fail
              go_ret
              exact ⟨rfl, BF.out⟩
end Go.Proofs.Ytjnpkcabkccaoaa
